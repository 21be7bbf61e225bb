/- line.Lines: Feed, Next, Held: what they do, by hand. -/
import Derived.Test.YthdjeikfbbdehaaDoorShelf
import Derived.Test.YthdjeikfbbdehaaDoorGlobLine
import Derived.Test.YthdjeikfbbdehaaDoorPlain
import Derived.Deep.QuietTactic
import Derived.BigQuiet
import Derived.Deep.DeepMust
import Derived.Lib.SliceRun
import Derived.WalkKit
namespace Go.Proofs.YthdjeikfbbdehaaDoor.LineFns
open Go.RowKit Go.Proofs.YthdjeikfbbdehaaDoor Go.Proofs.YthdjeikfbbdehaaDoor.Plain Go.Proofs.YthdjeikfbbdehaaDoorW.PrintWords
set_option linter.unusedVariables false
set_option linter.unusedSimpArgs false
/-- A list of lines in block b, of the call's own: what waits. -/
structure Lin (w : World) (base b : Nat) (v : Value) (u : List UInt8) : Prop where
  le : base ≤ b
  at_ : w.heap[b]? = some (.cells #[v] 26 (0, 0))
  own : w.ownsRow base 5 1 v (B u).length (nums .u8 (B u))
  ne : v.ownBlock ≠ some b
theorem Lin.cell {w : World} {base b : Nat} {v : Value} {u : List UInt8} (h : Lin w base b v u) : w.cell? ⟨b, 0, none⟩ = some v ∧ w.frozen? ⟨b, 0, none⟩ = false := by
  simp [World.cell?, World.frozen?, h.at_]
theorem Lin.grown {w w1 : World} {base b : Nat} {v : Value} {u : List UInt8} (h : Lin w base b v u) (hg : w.grownBy w1 v.ownBlock) : w1.heap[b]? = some (.cells #[v] 26 (0, 0)) ∧ w1.cell? ⟨b, 0, none⟩ = some v ∧ w1.frozen? ⟨b, 0, none⟩ = false := by
  have e : w1.heap[b]? = some (.cells #[v] 26 (0, 0)) := (hg.block b (Array.getElem?_eq_some_iff.1 h.at_).1 (fun e => h.ne e.symm)).trans h.at_
  exact ⟨e, by simp [World.cell?, e], by simp [World.frozen?, e]⟩
theorem Lin.cells {w X : World} {base b : Nat} {v : Value} {u : List UInt8} (h : Lin w base b v u) (hb : Below w.heap.size w X) : X.cell? ⟨b, 0, none⟩ = some v ∧ X.frozen? ⟨b, 0, none⟩ = false := by
  have hlt := (Array.getElem?_eq_some_iff.1 h.at_).1
  exact ⟨(hb.cell (p := ⟨b, 0, none⟩) hlt).trans h.cell.1, (hb.frozen (p := ⟨b, 0, none⟩) hlt).trans h.cell.2⟩
theorem Lin.next {w X W2 : World} {base b : Nat} {v : Value} {u r : List UInt8} {A2 : Option Addr} {c2 : Nat} (h : Lin w base b v u) (hXs : X.heap.size = w.heap.size) (hB : Below w.heap.size w X) (hbase : base ≤ w.heap.size)
    (hown : W2.ownsRow X.heap.size 5 1 (.slice A2 (B r).length c2) (B r).length (nums .u8 (B r))) (hb : Below X.heap.size X W2) :
    ∃ v', Lin (W2.setCell ⟨b, 0, none⟩ (.slice A2 r.length c2)) base b v' r ∧ (∀ g, v'.ownBlock = some g → w.heap.size ≤ g) ∧ (∀ k, k < w.heap.size → k ≠ b → (W2.setCell ⟨b, 0, none⟩ (.slice A2 r.length c2)).heap[k]? = w.heap[k]?) ∧ Below base w (W2.setCell ⟨b, 0, none⟩ (.slice A2 r.length c2)) := by
  have hlt := (Array.getElem?_eq_some_iff.1 h.at_).1
  have hB2 : Below w.heap.size w W2 := hB.trans (hb.mono (Nat.le_of_eq hXs.symm))
  have hat : W2.heap[b]? = some (.cells #[v] 26 (0, 0)) := (hB2.block b hlt).trans h.at_
  have hge : ∀ g, (Value.slice A2 (B r).length c2).ownBlock = some g → w.heap.size ≤ g := fun g hg => by have := own_base hown g hg; omega
  have hne : (Value.slice A2 (B r).length c2).ownBlock ≠ some b := fun e => by have := hge b e; omega
  refine ⟨.slice A2 (B r).length c2, ⟨h.le, ?_, ?_, hne⟩, hge, ?_, (hB2.mono hbase).setCell h.le _⟩
  · rw [B_length]
    simp [World.setCell, Array.getElem?_modify, hat]
  · exact own_move (own_weaken hown (by omega)) (fun k hk => Below.heap_setCell W2 _ _ k (fun e => hne (by rw [hk, e])))
  · intro k hk hkb
    rw [Below.heap_setCell W2 _ _ k hkb]
    exact hB2.block k hk
theorem infoU8 : (Tryd.prog.info? 5).map (fun i => (i.zero, i.size, i.bytes)) = some (some (.int .u8 0), 1, 1) := by kernel_rfl
/-- what a call may have touched: its list's block and the bytes behind it -/
def Kept (w w' : World) (b : Nat) (v : Value) : Prop := ∀ k, k < w.heap.size → k ≠ b → some k ≠ v.ownBlock → w'.heap[k]? = w.heap[k]?
set_option maxHeartbeats 1000000 in
set_option maxRecDepth 100000 in
theorem feed (base b : Nat) (v : Value) (u x : List UInt8) (A : Option Addr) (c : Nat) (w : World) (hL : Lin w base b v u) (hx : ReadsInt w .u8 A (B x).length (B x)) (hbase : base ≤ w.heap.size) (hz : u.length + x.length ≤ 1000000) :
    Calls Tryd.prog 10 #[.pointer (some ⟨b, 0, none⟩), .slice A (B x).length c] w fun e w' => e = .returned (.tuple #[]) ∧ ∃ v', Lin w' base b v' (u ++ x) ∧
      (v'.ownBlock = v.ownBlock ∨ ∃ g, v'.ownBlock = some g ∧ w.heap.size ≤ g) ∧ Kept w w' b v ∧ Below base w w' := by
  obtain ⟨hc, hf⟩ := hL.cell
  have HL := Aside0.mk hL
  have HX := Aside0.mk hx
  clear hL hx
  have hroom : ((B u).length + (B x).length) * 1 ≤ 140737488355328 := by rw [B_length, B_length]; omega
  have HR := Aside0.mk hroom
  clear hroom
  go_enter Tryd.func10, Tryd.ntmps10
  go_wp2_with (at_builtin; refine print_append_row (w0 := w) base rfl (.tmp 10) (.tmp 11) 24 5 .u8 1 rfl Tryd.underlying24 infoU8 (by decide) v (B u) (B x) A (B x).length c rfl rfl HL.out.own HX.out (Below.refl _ _) hbase HR.out ?_; go_must (intro v1 w1 hown hb1 hg1 hat1; obtain ⟨hw1, hc1, hf1⟩ := HL.out.grown hg1; obtain ⟨A1, c1, hv1⟩ := own_slice hown; subst hv1; have HO1 := Aside0.mk hown; have HB1 := Aside0.mk hb1; have HG1 := Aside0.mk hg1; have HA1 := Aside0.mk hat1; have HW1 := Aside0.mk hw1; clear hown hb1 hg1 hat1 hw1))
  go_end0
  have e : (B u).length + (B x).length = u.length + x.length := by rw [B_length, B_length]
  have hlt := (Array.getElem?_eq_some_iff.1 HL.out.at_).1
  have hne : (Value.slice A1 (u.length + x.length) c1).ownBlock ≠ some b := by
    have := HA1.out
    rw [List.length_append, e] at this
    rcases this with h | ⟨g, h, hg⟩
    · rw [h]; exact HL.out.ne
    · rw [h]; intro e; cases e; omega
  have HOw := HO1.out
  rw [List.length_append, e] at HOw
  refine ⟨rfl, .slice A1 (u.length + x.length) c1, ⟨HL.out.le, ?_, ?_, hne⟩, ?_, ?_, HB1.out.setCell HL.out.le _⟩
  · simp [World.setCell, Array.getElem?_modify, HW1.out]
  · rw [← B_append, List.length_append, e]
    exact own_move HOw (fun k hk => Below.heap_setCell w1 _ _ k (fun h => hne (by rw [hk, h])))
  · have := HA1.out
    rw [List.length_append, e] at this
    exact this
  · intro k hk h1 h2
    rw [Below.heap_setCell w1 _ _ k h1]
    exact HG1.out.block k hk h2

theorem feedNil (A : Option Addr) (n c : Nat) (w : World) : Calls Tryd.prog 10 #[.pointer none, .slice A n c] w fun e w' => e = .returned (.tuple #[]) ∧ w' = w := by
  go_enter Tryd.func10, Tryd.ntmps10
  go_wp2
  go_end0
  exact ⟨rfl, rfl⟩
theorem heldNil (w : World) : Calls Tryd.prog 13 #[.pointer none] w fun e w' => e = .returned (.int .i64 0) ∧ w' = w := by
  go_enter Tryd.func13, Tryd.ntmps13
  go_wp2
  go_ret
  exact ⟨rfl, rfl⟩
theorem nextNil (most : Int) (w : World) : Calls Tryd.prog 12 #[.pointer none, .int .i64 most] w fun e w' => e = .returned (.tuple #[.string (S []), .bool false, .bool false]) ∧ w' = w := by
  go_enter Tryd.func12, Tryd.ntmps12
  go_wp2
  refine bodyPost_ret (results_tmp3 rfl _ _ _) rfl ?_
  exact ⟨rfl, rfl⟩
theorem held (base b : Nat) (v : Value) (u : List UInt8) (w : World) (hL : Lin w base b v u) : Calls Tryd.prog 13 #[.pointer (some ⟨b, 0, none⟩)] w fun e w' => e = .returned (.int .i64 (u.length : Int)) ∧ w' = w := by
  obtain ⟨hc, hf⟩ := hL.cell
  obtain ⟨A1, c1, hv1⟩ := own_slice hL.own
  subst hv1
  rw [B_length] at hc
  clear hL
  go_enter Tryd.func13, Tryd.ntmps13
  go_wp2
  go_ret
  exact ⟨rfl, rfl⟩
set_option maxHeartbeats 1000000 in
set_option maxRecDepth 100000 in
theorem clone (a : Addr) (c : Nat) (x : List UInt8) (w : World) (hx : ReadsInt w .u8 (some a) (B x).length (B x)) (hz : x.length ≤ 1000000) :
    Calls Tryd.prog 23 #[.slice (some a) (B x).length c] w fun e w' => ∃ v', e = .returned v' ∧ w'.ownsRow w.heap.size 5 1 v' (B x).length (nums .u8 (B x)) ∧ Below w.heap.size w w' := by
  have HX := Aside0.mk hx
  clear hx
  have hroom : (([] : List Int).length + (B x).length) * 1 ≤ 140737488355328 := by rw [B_length]; simp; omega
  have HR := Aside0.mk hroom
  clear hroom
  have HE := Aside0.mk (show (w.alloc (.cells #[] 5)).ownsRow w.heap.size 5 1 (.slice (some ⟨w.heap.size, 0, none⟩) 0 0) ([] : List Int).length (nums .u8 []) from World.ownsRow_lit (e := 5) w #[] 0 (Nat.le_refl _) (Nat.zero_le _) rfl)
  have HX2 := Aside0.mk (HX.out.below (below_alloc (Below.refl _ _) (.cells #[] 5)))
  have HB := Aside0.mk (below_alloc (Below.refl w.heap.size w) (.cells #[] 5))
  have HSz := Aside0.mk (show w.heap.size ≤ (w.alloc (.cells #[] 5)).heap.size by simp)
  have hnil : ∀ W, (binOp .eql 24 (.slice (some a) x.length c) (.slice none 0 0)).run Tryd.prog W = .ok (.bool false) W := fun W => Lib.run_eql_slice_nil W _ _ (some a) _ _ _ _ Tryd.underlying24
  go_enter Tryd.func23, Tryd.ntmps23
  go_wp2_with (at_builtin; refine print_append_row (w0 := w) w.heap.size rfl (.tmp 5) (.tmp 6) 24 5 .u8 1 rfl Tryd.underlying24 infoU8 (by decide) (.slice (some ⟨w.heap.size, 0, none⟩) 0 0) [] (B x) (some a) (B x).length c rfl (by rw [B_length]; rfl) HE.out HX2.out HB.out HSz.out HR.out ?_; intro v1 w1 hown hb1 hg1 hat1)
  go_ret
  exact ⟨_, rfl, hown, hb1⟩

theorem bytesOf_B (u : List UInt8) : Lib.bytesOf (B u) = u := by
  simp only [Lib.bytesOf, B, List.map_map]
  conv => rhs; rw [← List.map_id u]
  apply List.map_congr_left
  intro b _
  simp
theorem bytesIn_of {w : World} {A : Option Addr} {n : Nat} {xs : List Int} (h : ReadsInt w .u8 A n xs) : Lib.BytesIn w A n xs := by
  intro hn
  obtain ⟨ad, rfl, hc⟩ := h.2.2 hn
  exact Lib.BytesIn.of_cells hc hn
theorem cutIs {w : World} {base b : Nat} {A1 : Option Addr} {c1 : Nat} {u : List UInt8} (hG : Glob w) (hL : Lin w base b (.slice A1 (B u).length c1) u) (hz : u.length ≤ 1000000) {ae : Addr} {ce : Nat} (n : Nat)
    (he0 : w.cell? ⟨0, 0, none⟩ = some (.slice (some ae) 2 ce)) (he3 : w.cell? (ae.add 0) = some (.int .u8 13)) (he4 : w.cell? (ae.add 1) = some (.int .u8 10)) :
    Calls Tryd.prog 22 #[.slice A1 u.length c1, .slice (some ae) 2 ce] (w.drewN n) fun e w' => e = .returned (Lib.cutV A1 u.length c1 2 (Lib.index u [13, 10])) ∧ ∃ q, w' = (w.drewN n).drewN q := by
  obtain ⟨m, hm⟩ := hG.maxLen
  have hw : ∀ x ∈ B u, 0 ≤ x ∧ x < 256 := fun x hx => by
    simp only [B, List.mem_map] at hx
    obtain ⟨y, _, rfl⟩ := hx
    have := y.toNat_lt
    omega
  have hr := own_reads' hL.own
  have h2 : Lib.BytesIn w (some ae) 2 [13, 10] := Lib.BytesIn.of_cells fun i hi => by
    match i, hi with
    | 0, _ => exact he3
    | 1, _ => exact he4
  have hsl : A1 = none → c1 = 0 := by
    intro h
    rcases hL.own.2 with ⟨e, _⟩ | ⟨g, cap, cur, e, _⟩
    · simp only [Value.slice.injEq] at e; exact e.2.2
    · simp only [Value.slice.injEq] at e; rw [h] at e; cases e.1
  have hcap : (B u).length ≤ c1 := by
    rcases hL.own.2 with ⟨e, _⟩ | ⟨g, cap, cur, e, _, _, hnc, _⟩
    · simp only [Value.slice.injEq] at e; omega
    · simp only [Value.slice.injEq] at e; omega
  have := Tryd.bytes_Cut_all A1 (some ae) (B u).length c1 2 ce (B u) [13, 10] m (w.drewN n) rfl rfl hw (by decide) (bytesIn_of hr) h2 hsl hcap (by rw [B_length]; omega) (by decide) hm
  rw [bytesOf_B, show Lib.bytesOf [13, 10] = [13, 10] from rfl, B_length] at this
  exact this
set_option maxHeartbeats 2000000 in
set_option maxRecDepth 100000 in
theorem nextNone (base b : Nat) (v : Value) (u : List UInt8) (most : Int) (w : World) (hG : Glob w) (hL : Lin w base b v u) (hz : u.length ≤ 1000000) (hi : Lib.index u [13, 10] = -1) :
    Calls Tryd.prog 12 #[.pointer (some ⟨b, 0, none⟩), .int .i64 most] w fun e w' => e = .returned (.tuple #[.string (S []), .bool false, .bool false]) ∧ ∃ n, w' = w.drewN n := by
  obtain ⟨hc, hf⟩ := hL.cell
  obtain ⟨A1, c1, hv1, hr1⟩ := own_reads hL.own
  subst hv1
  obtain ⟨ae, ce, he0, he1, he2, he3, he4⟩ := hG.endIs
  have HC0 := fun n => cutIs hG hL hz n he0 he3 he4
  rw [hi, show Lib.cutV A1 u.length c1 2 (-1) = .tuple #[.slice A1 u.length c1, .slice none 0 0, .bool false] from rfl] at HC0
  have HC := Aside0.mk HC0
  clear HC0
  rw [B_length] at hc
  clear hL
  go_enter Tryd.func12, Tryd.ntmps12
  go_wp2
  go_quiet ((go_at_call 22; go_must (exact Calls.quiet_of (HC.out _))))
  go_wp2
  refine bodyPost_ret (results_tmp3 rfl _ _ _) rfl ?_
  exact ⟨rfl, _, rfl⟩
theorem readHead {w : World} {AA : Option Addr} {u a r : List UInt8} (h : ReadsInt w .u8 AA (B u).length (B u)) (hu : a ++ 13 :: 10 :: r = u) : ReadsInt w .u8 AA (B a).length (B a) := by
  subst hu
  have := h.take_ a.length (by rw [B_length]; simp)
  rw [B_take, List.take_left' rfl] at this
  rw [B_length]
  exact this
theorem readRest {w : World} {AA : Option Addr} {u a r : List UInt8} {ad Ar : Addr} {AR : Option Addr} {c1 : Nat} (h : ReadsInt w .u8 AA (B u).length (B u)) (hu : a ++ 13 :: 10 :: r = u) (hA : some ad = AA) (hAr : (if c1 = a.length + 2 then ad else ad.add (a.length + 2)) = Ar) (hAR : some Ar = AR) (hc : u.length ≤ c1) : ReadsInt w .u8 AR (B r).length (B r) := by
  have hl : u.length = a.length + r.length + 2 := by rw [← hu]; simp; omega
  have := h.drop_ (c := c1) (a.length + 2) (by rw [B_length]; omega) (by rw [B_length]; exact hc)
  rw [B_drop, show u.drop (a.length + 2) = r by rw [← hu, show a ++ 13 :: 10 :: r = (a ++ [13, 10]) ++ r by simp, List.drop_left' (by simp)], B_length, show u.length - (a.length + 2) = r.length by omega] at this
  rw [B_length, ← hAR, ← hAr]
  rw [← hA] at this
  by_cases he : c1 = a.length + 2
  · rw [if_pos he] at this ⊢
    exact this
  · rw [if_neg he] at this ⊢
    exact this
theorem cloneAt {w : World} {AR : Option Addr} {r : List UInt8} (h : ReadsInt w .u8 AR (B r).length (B r)) {Ar : Addr} (hA : some Ar = AR) (c : Nat) (hz : r.length ≤ 1000000) :
    Calls Tryd.prog 23 #[.slice AR r.length c] w fun e w' => ∃ v', e = .returned v' ∧ w'.ownsRow w.heap.size 5 1 v' (B r).length (nums .u8 (B r)) ∧ Below w.heap.size w w' := by
  subst hA
  have := clone Ar c r w h hz
  rw [B_length] at this ⊢
  exact this
theorem convHead {w : World} {AA : Option Addr} {a : List UInt8} {c : Nat} (h : ReadsInt w .u8 AA (B a).length (B a)) : (convert 24 9 (.slice AA a.length c)).run Tryd.prog w = .ok (.string (S a)) w := by
  have hC : Kd.C (Kd.int .u8) w AA (B a).length (B a) := Kd.C_of_reads (d := (0 : Int)) (h1 := fun _ => rfl) h
  have := Kd.C_string (P := Tryd.prog) (c := c) Tryd.underlying24 Tryd.underlying5 Tryd.underlying9 hC
  rw [B_length, strOfNums_B] at this
  exact this
set_option maxHeartbeats 2000000 in
set_option maxRecDepth 100000 in
theorem nextSome (base b : Nat) (v : Value) (a r : List UInt8) (most : Int) (w : World) (hG : Glob w) (hL : Lin w base b v (a ++ 13 :: 10 :: r)) (hbase : base ≤ w.heap.size) (hz : (a ++ 13 :: 10 :: r).length ≤ 1000000) (hi : Lib.index (a ++ 13 :: 10 :: r) [13, 10] = (a.length : Int)) :
    Calls Tryd.prog 12 #[.pointer (some ⟨b, 0, none⟩), .int .i64 most] w fun e w' => e = .returned (.tuple #[.string (if (a.length : Int) > max most 0 then S [] else S a), .bool (decide ((a.length : Int) > max most 0)), .bool true]) ∧
      ∃ v', Lin w' base b v' r ∧ (∀ g, v'.ownBlock = some g → w.heap.size ≤ g) ∧ (∀ k, k < w.heap.size → k ≠ b → w'.heap[k]? = w.heap[k]?) ∧ Below base w w' := by
  have HBS := Aside0.mk hbase
  clear hbase
  obtain ⟨txt, htx⟩ : ∃ x, (if (a.length : Int) > max most 0 then S [] else S a) = x := ⟨_, rfl⟩
  obtain ⟨lng, hlg⟩ : ∃ x, decide ((a.length : Int) > max most 0) = x := ⟨_, rfl⟩
  rw [htx, hlg]
  have HTX := Aside0.mk htx
  have HLG := Aside0.mk hlg
  clear htx hlg
  obtain ⟨hc, hf⟩ := hL.cell
  obtain ⟨A1, c1, hv1, hr1⟩ := own_reads hL.own
  subst hv1
  obtain ⟨ae, ce, he0, he1, he2, he3, he4⟩ := hG.endIs
  obtain ⟨u, hu⟩ : ∃ u, a ++ 13 :: 10 :: r = u := ⟨_, rfl⟩
  have hl : u.length = a.length + r.length + 2 := by rw [← hu]; simp; omega
  rw [hu] at hL hr1 hz hi hc
  obtain ⟨ad, rfl, hcs⟩ := hr1.2.2 (by rw [B_length]; omega)
  have HC0 := fun n => cutIs hG hL hz n he0 he3 he4
  rw [hi] at HC0
  have ecv : Lib.cutV (some ad) u.length c1 2 (a.length : Int) = .tuple #[.slice (some ad) a.length c1, .slice (some (if c1 = a.length + 2 then ad else ad.add (a.length + 2))) r.length (c1 - (a.length + 2)), .bool true] := by
    unfold Lib.cutV Lib.fromV
    rw [if_pos (by omega), Int.toNat_natCast, show u.length - (a.length + 2) = r.length by omega]
    split <;> rfl
  rw [ecv] at HC0
  have HC := Aside0.mk HC0
  clear HC0
  rw [B_length] at hc
  have HL := Aside0.mk hL
  clear hL
  obtain ⟨Ar, hAr⟩ : ∃ Ar, (if c1 = a.length + 2 then ad else ad.add (a.length + 2)) = Ar := ⟨_, rfl⟩
  obtain ⟨cr, hcr⟩ : ∃ cr, c1 - (a.length + 2) = cr := ⟨_, rfl⟩
  rw [hAr, hcr] at HC
  have HCR := Aside0.mk hcr
  clear hcr
  obtain ⟨AA, hAA⟩ : ∃ AA, (some ad : Option Addr) = AA := ⟨_, rfl⟩
  obtain ⟨AR, hARR⟩ : ∃ AR, (some Ar : Option Addr) = AR := ⟨_, rfl⟩
  rw [hAA, hARR] at HC
  rw [hAA] at hc HL hr1
  have HAA := Aside0.mk hAA
  have HARR := Aside0.mk hARR
  clear hAA hARR
  have HCS := Aside0.mk hcs
  have HR1 := Aside0.mk hr1
  have HU := Aside0.mk hu
  have HAR := Aside0.mk hAr
  have HLen := Aside0.mk hl
  have hcap : u.length ≤ c1 := by
    rcases HL.out.own.2 with ⟨e, _⟩ | ⟨g, cap, cur, e, _, _, hnc, _⟩
    · simp only [Value.slice.injEq] at e; have := e.2.1; rw [B_length] at this; omega
    · simp only [Value.slice.injEq] at e; rw [B_length] at hnc; omega
  have HCap := Aside0.mk hcap
  clear hcap
  clear hcs hr1 hu ecv hAr hi he1 he2 he3 he4 hl
  go_enter Tryd.func12, Tryd.ntmps12
  go_wp2
  go_quiet ((go_at_call 22; go_must (exact Calls.quiet_of (HC.out _))))
  go_wp2
  obtain ⟨W, hW⟩ : ∃ W, W = w.drewN nq := ⟨_, rfl⟩
  rw [← hW]
  have HWB := Aside0.mk (show Below w.heap.size w W by rw [hW]; apply pw_below_drewN; exact Below.refl _ _)
  have HWS := Aside0.mk (show W.heap.size = w.heap.size by rw [hW]; rfl)
  clear hW
  have hcW : W.cell? ⟨b, 0, none⟩ = some (.slice AA u.length c1) := by
    have := HWB.out.cell (p := ⟨b, 0, none⟩) (Array.getElem?_eq_some_iff.1 HL.out.at_).1
    rw [this]; exact hc
  have hfW : W.frozen? ⟨b, 0, none⟩ = false := by
    have := HWB.out.frozen (p := ⟨b, 0, none⟩) (Array.getElem?_eq_some_iff.1 HL.out.at_).1
    rw [this]; exact hf
  have HRH := Aside0.mk (readHead (HR1.out.below HWB.out) HU.out)
  have HRR := Aside0.mk (readRest (HR1.out.below HWB.out) HU.out HAA.out HAR.out HARR.out HCap.out)
  have hcv1 : (convert 24 9 (.slice AA a.length c1)).run Tryd.prog W.drew = .ok (.string (S a)) W.drew := convHead (HRH.out.below (below_drew1 (Below.refl _ W)))
  have HCL := fun X hX => cloneAt (w := X) (HRR.out.below hX) HARR.out cr (r := r) (by have := HLen.out; omega)
  have HCV2 := fun X hX => convHead (w := X) (c := c1) (HRH.out.below hX)
  have HCLA := Aside0.mk HCL
  have HCVA := Aside0.mk HCV2
  clear HCL HCV2 hc hf
  go_region_with (first | (go_at_call 23; go_must (refine (HCLA.out _ (by repeat (first | exact Below.refl _ _ | apply below_drew1))).mono ?_; rintro e W2 ⟨v', rfl, hown, hb⟩; obtain ⟨A2, c2, hv2⟩ := own_slice hown; subst hv2; obtain ⟨hc2, hf2⟩ := HL.out.cells (Below.trans (by repeat (first | exact HWB.out | apply below_drew1)) (hb.mono (Nat.le_of_eq HWS.out.symm))); have HOW := Aside0.mk hown; have HB2 := Aside0.mk hb; have hcv2 := HCVA.out W2 (Below.trans (by repeat (first | exact Below.refl _ _ | apply below_drew1)) hb); clear hown hb)))
  all_goals
    by_cases hgt : max most 0 < (a.length : Int)
    · go_wp2
      refine bodyPost_ret (results_tmp3 rfl _ _ _) rfl ?_
      have e1 := HTX.out
      have e2 := HLG.out
      rw [if_pos hgt] at e1
      rw [decide_eq_true hgt] at e2
      subst e1
      subst e2
      refine ⟨rfl, HL.out.next (by repeat (first | exact HWS.out | rfl)) (by repeat (first | exact HWB.out | apply below_drew1)) HBS.out HOW.out HB2.out⟩
    · go_wp2
      refine bodyPost_ret (results_tmp3 rfl _ _ _) rfl ?_
      have e1 := HTX.out
      have e2 := HLG.out
      rw [if_neg (Int.not_lt.2 hgt)] at e1
      rw [decide_eq_false (Int.not_lt.2 hgt)] at e2
      subst e1
      subst e2
      refine ⟨rfl, HL.out.next (by repeat (first | exact HWS.out | rfl)) (by repeat (first | exact HWB.out | apply below_drew1)) HBS.out HOW.out HB2.out⟩
end Go.Proofs.YthdjeikfbbdehaaDoor.LineFns
