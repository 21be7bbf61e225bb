/- ids: the iterator over names, and Open. -/
import Derived.Test.YtclhelpcjgmpmaaGreatDoorIdsB2
import Derived.RangeFuncNested
import Derived.RangeFuncBound
import Derived.RangeFuncCalls
import Derived.RangeFuncLeaves
import Derived.RangeFuncBox
import Derived.Shelf.Abstract
import Derived.Shelf.RegionOpen
import Derived.WalkKit
import Derived.OwnWalkIn
import Derived.TacticsInMore
import Derived.LoopNIn
import Derived.LoopIn
namespace Go.Proofs.YtclhelpcjgmpmaaGreatDoor.Fs
open Go.RowKit Go.Shelf Go.Proofs.YtclhelpcjgmpmaaGreatDoor Go.Proofs.YtclhelpcjgmpmaaGreatDoor.Plain Go.Proofs.YtclhelpcjgmpmaaGreatDoorW.PrintWords Go.Maps
set_option linter.unusedVariables false
set_option linter.unusedSimpArgs false
attribute [local go_sem] Oper.semAt_some
def hit (s : Nm) : Option (Int × Nm) := (num s).map fun n => ((n : Int), s)
def hits (ns : List Nm) : List (Int × Nm) := ns.filterMap hit
abbrev encN (p : Int × Nm) : Array Value := #[.int .i64 p.1, .string (S p.2)]
theorem hits_take_some {ns : List Nm} {k : Nat} (hk : k < ns.length) {n : Nat} (h : num ns[k] = some n) : hits (ns.take (k + 1)) = hits (ns.take k) ++ [((n : Int), ns[k])] := by
  have e : List.filterMap hit [ns[k]] = [((n : Int), ns[k])] := by simp [hit, h]
  unfold hits
  rw [List.take_add_one, List.getElem?_eq_getElem hk, Option.toList_some, List.filterMap_append, e]
theorem hits_take_none {ns : List Nm} {k : Nat} (hk : k < ns.length) (h : num ns[k] = none) : hits (ns.take (k + 1)) = hits (ns.take k) := by
  have e : List.filterMap hit [ns[k]] = [] := by simp [hit, h]
  unfold hits
  rw [List.take_add_one, List.getElem?_eq_getElem hk, Option.toList_some, List.filterMap_append, e, List.append_nil]
theorem hits_length (ns : List Nm) : (hits ns).length ≤ ns.length := List.length_filterMap_le _ _
/-- what the iterator reads, in any world -/
def ItR (w0 : World) (A : Option Addr) (c Bs : Nat) (ns : List Nm) (W : World) : Prop := Below w0.heap.size w0 W ∧ NamesAt W A ns ∧ W.cell? ⟨Bs, 0, none⟩ = some (.slice A ns.length c)
theorem ItR.below {w0 W W' : World} {A : Option Addr} {c Bs : Nat} {ns : List Nm} (h : ItR w0 A c Bs ns W) (hb : Below W.heap.size W W') : ItR w0 A c Bs ns W' :=
  ⟨h.1.trans (hb.mono h.1.size), h.2.1.below hb, (World.cell?_of_block (hb.block _ (World.block_lt_of_cell? _ _ h.2.2))).trans h.2.2⟩
theorem grownBy_of_below {W W' : World} (hb : Below W.heap.size W W') : W.grownBy W' none := ⟨hb.os, hb.tape, hb.output, hb.size, fun k hk _ => hb.block k hk⟩
theorem yieldCond {P : Program} {l : Nat} : True := trivial
set_option maxRecDepth 100000 in
set_option maxHeartbeats 2000000 in
theorem numbers_in (n : Nat) (hn : 1 ≤ n) (l Bs : Nat) (w0 : World) (hG : GI w0) (A : Option Addr) (c : Nat) (ns : List Nm) (hlen : ns.length ≤ 1000000) (hss : ∀ s ∈ ns, s.length ≤ 1000000) (W : World) (hR : ItR w0 A c Bs ns W)
    (J Jx : List (Int × Nm) → World → Prop) (hJ : ∀ s X Y, J s X → W.heap.size ≤ X.heap.size → Below X.heap.size X Y → J s Y)
    (hY : ∀ pre x X, J pre X → pre.length < ns.length → YieldAt Fence.wide (n - 1) Tryz.prog l (encN x) X fun e W' =>
      (e = .returned (.bool true) ∧ J (pre ++ [x]) W' ∧ ((ItR w0 A c Bs ns X → ItR w0 A c Bs ns W') ∧ X.heap.size ≤ W'.heap.size)) ∨ (e = .returned (.bool false) ∧ Jx (pre ++ [x]) W'))
    (h0 : J [] W) :
    CallsIn Fence.wide n Tryz.prog 39 #[.func (.yield l) #[] #[], .pointer (some ⟨Bs, 0, none⟩)] W fun e W' => (∃ v, e = .returned v) ∧
      ((∃ xs, xs = hits ns ∧ J xs W') ∨ (∃ pre, True ∧ Jx pre W')) := by
  have HYY := Aside0.mk hY
  have HJJ := Aside0.mk hJ
  have HGG := Aside0.mk hG
  have HSS := Aside0.mk hss
  have hc1 := hR.2.2
  have hRR := Aside0.mk hR
  have HJ0 := Aside0.mk h0
  clear hY hJ hG hss hR h0
  refine callsIn_of_wp Tryz.func39 rfl trivial ?_ rfl
  simp only [Tryz.ntmps39, List.size_toArray, List.length_cons, List.length_nil, Nat.reduceAdd, Nat.reduceSub, Array.replicate_succ, Array.replicate_zero, List.push_toArray, List.append_toArray, List.nil_append, List.cons_append]
  gi_wp2
  gi_loopw [4, 5, 6, 9] (fun v4 v5 v6 v9 wr => ∃ k : Nat, k ≤ ns.length ∧ v9 = .int .i64 k ∧ Aside0 (J (hits (ns.take k)) wr) ∧ Aside0 (ItR w0 A c Bs ns wr) ∧ Aside0 (W.heap.size ≤ wr.heap.size)) (fun _ _ _ v9 _ => ns.length - (intOf v9).toNat)
  case atStart => exact ⟨0, Nat.zero_le _, rfl, HJ0, hRR, ⟨Nat.le_refl _⟩⟩
  case round =>
    obtain ⟨k, hk, rfl, HJS, HRS, HSZ⟩ := hrel
    by_cases hlt : k < ns.length
    · obtain ⟨ad, hA, hcell, -⟩ := HRS.out.2.1 k hlt
      subst hA
      have HT := Aside0.mk (hits_length (ns.take k))
      have HKS := Aside0.mk (fun m (h : num ns[k] = some m) => hits_take_some hlt h)
      have HKN := Aside0.mk (fun (h : num ns[k] = none) => hits_take_none hlt h)
      have HLS := Aside0.mk (HSS.out _ (List.getElem_mem hlt))
      obtain ⟨s, hs⟩ : ∃ s, ns[k] = s := ⟨_, rfl⟩
      rw [hs] at hcell HKS HKN HLS
      clear hs
      have X := numberIs s HLS.out wr (HGG.out.below HRS.out.1)
      cases hnum : num s with
      | none =>
        rw [hnum] at X
        have HKN' := Aside0.mk (HKN.out hnum)
        clear hnum
        gi_wp2_with (refine ⟨trivial, ?_⟩; gi_at_call 40; refine (callsIn_wide.2 X).mono ?_; rintro e W1 ⟨v, rfl, -, hb⟩; have HB := Aside0.mk hb; clear hb X)
        refine ⟨fun _ h => (by cases h), ?_⟩
        gi_wp2
        go_roundw
        case rel => exact ⟨k + 1, by omega, by simp, ⟨by rw [HKN'.out]; exact HJJ.out _ _ _ HJS.out HSZ.out HB.out⟩, ⟨HRS.out.below HB.out⟩, ⟨Nat.le_trans HSZ.out HB.out.size⟩⟩
        case measure => simp [intOf]; omega
      | some m =>
        rw [hnum] at X
        have HKS' := Aside0.mk (HKS.out m hnum)
        clear hnum
        gi_wp2_with (refine ⟨trivial, ?_⟩; gi_at_call 40; refine (callsIn_wide.2 X).mono ?_; rintro e W1 ⟨v, rfl, hv, hb⟩; obtain rfl := hv m rfl; have HB := Aside0.mk hb; obtain ⟨fn, tmps, assign, body, hy, hRd⟩ := HYY.out _ ((m : Int), s) W1 (HJJ.out _ _ _ HJS.out HSZ.out hb) (Nat.lt_of_le_of_lt (Nat.le_trans HT.out (by rw [List.length_take]; exact Nat.min_le_left _ _)) hlt); dsimp only [encN] at hy; have HRD := Aside0.mk hRd; clear hRd hb X hv)
        refine HRD.out.mono ?_
        rintro e W3 (⟨rfl, hJ3, hk3⟩ | ⟨rfl, hJx3⟩)
        · have HJ3 := Aside0.mk hJ3
          have HK3 := Aside0.mk hk3
          clear hJ3 hk3
          gi_wp2
          go_roundw
          case rel => exact ⟨k + 1, by omega, by simp, ⟨by rw [HKS'.out]; exact HJ3.out⟩, ⟨HK3.out.1 (HRS.out.below HB.out)⟩, ⟨Nat.le_trans HSZ.out (Nat.le_trans HB.out.size HK3.out.2)⟩⟩
          case measure => simp [intOf]; omega
        · have HJ3 := Aside0.mk hJx3
          clear hJx3
          gi_wp2
          refine bodyPost_ret (results_none rfl _ _ _) rfl ?_
          exact ⟨⟨_, rfl⟩, .inr ⟨_, trivial, HJ3.out⟩⟩
    · obtain rfl : k = ns.length := by omega
      gi_wp2
      go_end0
      have hj := HJS.out
      rw [List.take_length] at hj
      exact ⟨⟨_, rfl⟩, .inl ⟨_, rfl, hj⟩⟩
def Kp (R : World → Prop) (W W' : World) : Prop := (R W → R W') ∧ W.heap.size ≤ W'.heap.size
theorem kpT {R : World → Prop} {A B C : World} (h : Kp R A B) (k : Kp R B C) : Kp R A C := ⟨fun r => k.1 (h.1 r), Nat.le_trans h.2 k.2⟩
theorem kpB {w0 w : World} {A : Option Addr} {c Bs : Nat} {ns : List Nm} (hw : w0.heap.size ≤ w.heap.size) (W : World) (l : Nat) (o o' : Obj) (hl : w.heap.size ≤ l) (h : W.heap[l]? = some o) (hc : o.isCells = false) (_ : o.isWalk = false) : Kp (ItR w0 A c Bs ns) W (W.putObj l o') := by
  have hcell : ∀ a v, W.cell? a = some v → (W.putObj l o').cell? a = some v := fun a v ha => by
    have hne : a.block ≠ l := fun e => by
      subst e
      unfold World.cell? at ha
      rw [h] at ha
      cases o <;> simp [Obj.isCells] at hc ha
    exact (World.cell?_of_block (World.putObj_heap_other hne)).trans ha
  refine ⟨fun ⟨h1, h2, h3⟩ => ⟨?_, fun j hj => ?_, hcell _ _ h3⟩, by simp⟩
  · exact h1.trans ((Below.refl _ W).grown (grownBy_putObj' W l o') (by have := (Array.getElem?_eq_some_iff.1 h).1; omega) (fun k e => by cases e; omega))
  · obtain ⟨ad, e, hcl, hn⟩ := h2 j hj
    exact ⟨ad, e, hcell _ _ hcl, hn⟩
theorem numbers_stops (n : Nat) (hn : 1 ≤ n) (Bs : Nat) (w0 : World) (hG : GI w0) (A : Option Addr) (c : Nat) (ns : List Nm) (hlen : ns.length ≤ 1000000) (hss : ∀ s ∈ ns, s.length ≤ 1000000) (w : World) (hR : ItR w0 A c Bs ns w) :
    SeqStopsK Fence.wide n Tryz.prog 39 #[.pointer (some ⟨Bs, 0, none⟩)] encN (Kp (ItR w0 A c Bs ns)) (fun xs => xs = hits ns) (fun _ => True) ns.length w := fun l J Jx W hW hJ _ hY h0 =>
  numbers_in n hn l Bs w0 hG A c ns hlen hss W (hR.below hW) J Jx (fun s X Y hs _ hb => hJ s X Y none hs (grownBy_of_below hb) (fun r e => by cases e)) hY h0
/-- an Ids in memory -/
def IdsCells (W : World) (xb f : Nat) (I : IdsD) : Prop := W.heap[xb]? = some (.cells #[.pointer (some ⟨f, 0, none⟩), .int .i64 (I.last : Int), .int .i64 (I.bound : Int), .string (S I.file)] 50 (0, 0))
def lastOf (pre : List (Int × Nm)) : Int × Nm := pre.foldl (fun _ x => x) (0, [])
theorem lastOf_snoc (pre : List (Int × Nm)) (x : Int × Nm) : lastOf (pre ++ [x]) = x := by simp [lastOf]
theorem lastOf_hits (ns : List Nm) : lastOf (hits ns) = (((bestFrom (0, []) ns).1 : Int), (bestFrom (0, []) ns).2) := by
  induction ns using snoc_ind with
  | h0 => rfl
  | h1 l t ih =>
    have e2 : hits (l ++ [t]) = hits l ++ (hit t).toList := by
      unfold hits
      rw [List.filterMap_append]
      cases h : hit t with
      | none => simp [h]
      | some x => simp [h]
    rw [e2]
    cases h : num t with
    | none =>
      have h1 : hit t = none := by simp [hit, h]
      have h2 : bestFrom (0, []) (l ++ [t]) = bestFrom (0, []) l := by simp [bestFrom, h]
      rw [h1, h2, Option.toList_none, List.append_nil]
      exact ih
    | some n =>
      have h1 : hit t = some ((n : Int), t) := by simp [hit, h]
      have h2 : bestFrom (0, []) (l ++ [t]) = (n, t) := by simp [bestFrom, h]
      rw [h1, h2, Option.toList_some, lastOf_snoc]
theorem heap_kept {W W' : World} {b : Nat} {c : Array Value} {t : TypeId} {fr : Nat × Nat} {row : Option Nat} (h : W.heap[b]? = some (.cells c t fr)) (hg : W.grownBy W' row) (hr : ∀ r, row = some r → ∃ o : Obj, W.heap[r]? = some o ∧ o.isCells = false) : W'.heap[b]? = some (.cells c t fr) := by
  refine (hg.block b (Array.getElem?_eq_some_iff.1 h).1 (fun e => ?_)).trans h
  obtain ⟨o, ho, hc⟩ := hr b e.symm
  rw [h] at ho
  cases ho
  cases hc
def OpI (w0 w : World) (b1 b2 f : Nat) (pre : List (Int × Nm)) (W : World) : Prop :=
  (W.heap[b1]? = some (.cells #[.pointer (some ⟨f, 0, none⟩), .int .i64 0, .int .i64 (lastOf pre).1, .string (S (lastOf pre).2)] 50 (0, 0)) ∧ W.heap[b2]? = some (.cells #[.pointer (some ⟨b1, 0, none⟩)] 27 (0, 0))) ∧ Below w.heap.size w W
def OnlyNormal (Q : Exit → Act → World → Prop) : Exit → Act → World → Prop
  | .normal, a, w => Q .normal a w
  | _, _, _ => False
theorem onlyN {Q : Exit → Act → World → Prop} {a : Act} {w : World} (h : Q .normal a w) : OnlyNormal Q .normal a w := h
theorem onlyNormal_wp {F : Fence} {n : Nat} {P : Program} {c : Code} {Q : Exit → Act → World → Prop} {a : Act} {w : World} (h : c.wpIn F n P (OnlyNormal Q) a w) : c.wpIn F n P Q a w :=
  wpIn_mono h (fun e a w h => by cases e <;> first | exact h | exact h.elim)
theorem ItR.but {w0 w X X3 : World} {A : Option Addr} {c Bs b1 : Nat} {ns : List Nm} (h : ItR w0 A c Bs ns X) (hw : w0.heap.size ≤ w.heap.size) (hk : ∀ k, k ≠ b1 → X3.heap[k]? = X.heap[k]?) (hbel : Below w.heap.size X X3) (hA : ∀ ad, A = some ad → ad.block ≠ b1) (hB : Bs ≠ b1) : ItR w0 A c Bs ns X3 := by
  refine ⟨h.1.trans (hbel.mono hw), fun j hj => ?_, (World.cell?_of_block (hk Bs hB)).trans h.2.2⟩
  obtain ⟨ad, e, hc, hl⟩ := h.2.1 j hj
  have hbk : (ad.add j).block ≠ b1 := by
    have : (ad.add j).block = ad.block := by unfold Addr.add; split <;> rfl
    rw [this]
    exact hA ad e
  exact ⟨ad, e, (World.cell?_of_block (hk _ hbk)).trans hc, hl⟩
theorem openBody {w0 w X X3 : World} {A : Option Addr} {c Bs f : Nat} {ns : List Nm} {pre : List (Int × Nm)} {x : Int × Nm} (h : OpI w0 w w.heap.size (w.heap.size + 1) f pre X) (hw : w0.heap.size ≤ w.heap.size) (hA : ∀ ad, A = some ad → ad.block ≠ w.heap.size) (hB : Bs ≠ w.heap.size)
    (hh : X3.heap = ((X.setCell ⟨w.heap.size, 2, none⟩ (.int .i64 x.1)).setCell ⟨w.heap.size, 3, none⟩ (.string (S x.2))).heap) (hbel : Below w.heap.size X X3) :
    KeepsOthers X X3 ∧ Kp (ItR w0 A c Bs ns) X X3 ∧ OpI w0 w w.heap.size (w.heap.size + 1) f (pre ++ [x]) X3 := by
  obtain ⟨⟨h1, h2⟩, h3⟩ := h
  have hk : ∀ k, k ≠ w.heap.size → X3.heap[k]? = X.heap[k]? := fun k hk => by
    rw [hh, Below.heap_setCell _ ⟨w.heap.size, 3, none⟩ _ k hk, Below.heap_setCell _ ⟨w.heap.size, 2, none⟩ _ k hk]
  have hb : X3.heap[w.heap.size]? = some (.cells #[.pointer (some ⟨f, 0, none⟩), .int .i64 0, .int .i64 x.1, .string (S x.2)] 50 (0, 0)) := by
    rw [hh]
    simp [World.setCell, Array.getElem?_modify, h1]
  have hs : X3.heap.size = X.heap.size := by rw [hh]; simp [World.setCell]
  refine ⟨⟨Nat.le_of_eq hs.symm, fun k o hko ho => ?_⟩, ⟨fun hr => hr.but hw hk hbel hA hB, Nat.le_of_eq hs.symm⟩, ⟨⟨?_, ?_⟩, h3.trans hbel⟩⟩
  · have hne : k ≠ w.heap.size := fun e => by subst e; rw [h1] at hko; cases hko; cases ho
    exact (hk k hne).trans hko
  · rw [lastOf_snoc]
    exact hb
  · exact (hk _ (by omega)).trans h2
theorem openEnd {w X X3 : World} {f D : Nat} {last : Int} {s : Nm} (h1 : X.heap[w.heap.size]? = some (.cells #[.pointer (some ⟨f, 0, none⟩), .int .i64 0, .int .i64 last, .string (S s)] 50 (0, 0)))
    (hK : X.heap[D]? = some (.deferred (some []))) (hh : X3.heap = (X.setCell ⟨w.heap.size, 1, none⟩ (.int .i64 last)).heap) :
    X3.heap[D]? = some (.deferred (some [])) ∧ (X3.putObj D (.deferred none)).heap[w.heap.size]? = some (.cells #[.pointer (some ⟨f, 0, none⟩), .int .i64 last, .int .i64 last, .string (S s)] 50 (0, 0)) := by
  have hne : D ≠ w.heap.size := fun e => by subst e; rw [h1] at hK; cases hK
  refine ⟨?_, ?_⟩
  · rw [hh, Below.heap_setCell _ ⟨w.heap.size, 1, none⟩ _ D hne]
    exact hK
  · rw [World.putObj_heap_other (fun e => hne e.symm), hh]
    simp [World.setCell, Array.getElem?_modify, h1]
theorem numbersFn (A : Option Addr) (n c : Nat) (W : World) : Calls Tryz.prog 23 #[.slice A n c] W fun e W' => e = .returned (.func (.func 39) #[] #[.pointer (some ⟨W.heap.size, 0, none⟩)]) ∧ W' = W.alloc (.cells #[.slice A n c] 33) := by
  go_enter Tryz.func23, Tryz.ntmps23
  go_wp2
  go_ret
  exact ⟨rfl, rfl⟩
set_option maxRecDepth 100000 in
set_option maxHeartbeats 2000000 in
theorem openIs {w0 W : World} {f : Nat} {d : Disk} {N : Nat} {T : Nat → Prop} (h : FsAt w0 f d N T W) (hN : N ≤ 1000000) (hG : GI w0) (hd : d.down = false) (hlen : d.now.length ≤ 1000000) (hss : ∀ s ∈ names d.now, s.length ≤ 1000000) :
    Calls Tryz.prog 12 #[.pointer (some ⟨f, 0, none⟩)] W fun e W' => ∃ xb, e = .returned (.tuple #[.pointer (some ⟨xb, 0, none⟩), .int .i64 0]) ∧ IdsCells W' xb f d.opened ∧ W.heap.size ≤ xb ∧ Below W.heap.size W W' := by
  refine (callsIn_wide (n := 5)).1 ?_
  have XD : Calls Tryz.prog 22 #[.pointer (some ⟨f, 0, none⟩)] W fun e W' => e = .returned (.bool false) ∧ W = W' := by
    have := down h
    rw [hd] at this
    exact this.mono (fun e W' h => ⟨h.1, h.2.symm⟩)
  have HL := Aside0.mk (fun X (hX : Below W.heap.size W X) => list (h.step hX) hN hd)
  have HB0 := Aside0.mk h.below'
  have HGG := Aside0.mk hG
  have HSS := Aside0.mk hss
  have HLEN := Aside0.mk hlen
  clear h hG hss hlen hd
  refine callsIn_of_wp_marks Tryz.func12 rfl trivial ?_ rfl
  simp only [Tryz.ntmps12, List.size_toArray, List.length_cons, List.length_nil, Nat.reduceAdd, Nat.reduceSub, Array.replicate_succ, Array.replicate_zero, List.push_toArray, List.append_toArray, List.nil_append, List.cons_append]
  gi_wp2_with (first
    | (refine ⟨trivial, ?_⟩; gi_at_call 22; refine (callsIn_wide.2 XD).mono ?_; rintro e W1 ⟨rfl, rfl⟩; clear XD)
    | (refine ⟨trivial, ?_⟩; gi_at_call 14; refine (callsIn_wide.2 (HL.out _ (below_alloc (below_alloc (Below.refl _ _) _) _))).mono ?_; rintro e W1 ⟨v, rfl, hown, hb⟩; obtain ⟨A, c, rfl⟩ := own_slice hown; have HO := Aside0.mk hown; have HB := Aside0.mk hb; clear hown hb)
    | (refine ⟨trivial, ?_⟩; gi_at_call 23; refine (callsIn_wide.2 (numbersFn A d.now.length c W1)).mono ?_; rintro e W2 ⟨rfl, hW2⟩; subst hW2))
  have hx1 : W1.heap[W.heap.size]? = some (.cells #[.pointer (some ⟨f, 0, none⟩), .int .i64 0, .int .i64 0, .string ⟨#[]⟩] 50 (0, 0)) := by
    refine (HB.out.block W.heap.size (by simp; try omega)).trans ?_
    exact (Below.heap_alloc _ _ _ (by simp; try omega)).trans (heap_alloc_new W _)
  have hx2 : W1.heap[W.heap.size + 1]? = some (.cells #[.pointer (some ⟨W.heap.size, 0, none⟩)] 27 (0, 0)) := by
    refine (HB.out.block (W.heap.size + 1) (by simp)).trans ?_
    have := heap_alloc_new (W.alloc (.cells #[.pointer (some ⟨f, 0, none⟩), .int .i64 0, .int .i64 0, .string ⟨#[]⟩] 50)) (.cells #[.pointer (some ⟨W.heap.size, 0, none⟩)] 27)
    rw [World.size_alloc] at this
    exact this
  have hb1 : Below W.heap.size W W1 := chain' (below_alloc (below_alloc (Below.refl _ _) _) _) HB.out
  have hIt : ItR w0 A c W1.heap.size (names d.now) (W1.alloc (.cells #[.slice A d.now.length c] 33)) := by
    refine ⟨(HB0.out.trans (hb1.mono HB0.out.size)).trans ((below_alloc (Below.refl _ _) _).mono (Nat.le_trans HB0.out.size hb1.size)), ?_, ?_⟩
    · exact (names_at HO.out (fun x hx => Nat.le_trans (HSS.out x hx) (by omega))).1.below (below_alloc (Below.refl _ _) _)
    · have h1 := heap_alloc_new W1 (.cells #[.slice A d.now.length c] 33)
      rw [names_length]
      unfold World.cell?
      simp only []
      rw [h1]
      rfl
  have hb2 : Below W.heap.size W (W1.alloc (.cells #[.slice A d.now.length c] 33)) := chain' hb1 (below_alloc (Below.refl _ _) _)
  have hs2 : W.heap.size + 2 ≤ W1.heap.size := by have := HB.out.size; simpa using this
  have hAA : ∀ ad, A = some ad → ad.block ≠ W.heap.size := fun ad e => by
    rcases HO.out.2 with ⟨e2, _⟩ | ⟨g, cap, cur, e2, hg, _⟩
    · injection e2 with e2 _ _
      rw [e] at e2; cases e2
    · injection e2 with e2 _ _
      rw [e] at e2
      obtain rfl := Option.some.inj e2
      simp at hg
      show g ≠ _
      omega
  have HAA := Aside0.mk hAA
  have hfol : Tryz.prog.follows .mixedOrders = true := by kernel_rfl
  clear hAA
  have HX1 := Aside0.mk hx1
  have HX2 := Aside0.mk hx2
  have HB2 := Aside0.mk hb2
  have HIT := Aside0.mk hIt
  have HS2 := Aside0.mk hs2
  clear hx1 hx2 hb1 hIt hb2 hs2
  refine wpIn_rangeFunc_ownF rfl (by omega) (gf := 39) (lb := #[.pointer (some ⟨W1.heap.size, 0, none⟩)]) rfl trivial (enters_of Tryz.func39 (by kernel_rfl) rfl)
    (numbers_stops 4 (by omega) W1.heap.size w0 HGG.out A c (names d.now) (by rw [names_length]; exact HLEN.out) HSS.out _ HIT.out) kpT (fun X l o o' hl h1 h2 h3 => kpB HIT.out.1.size X l o o' hl h1 h2 h3) (Below.refl _ _) (fun _ => rfl)
    (fun pre X => OpI w0 W W.heap.size (W.heap.size + 1) f pre X) (fun _ _ _ => False)
    (fun s X Y row hs hg hr => ⟨⟨heap_kept hs.1.1 hg (fun r e => (hr r e).2), heap_kept hs.1.2 hg (fun r e => (hr r e).2)⟩, hs.2.grown hg hs.2.size (fun k e => Nat.le_trans HB2.out.size (hr k e).1)⟩)
    (fun _ _ _ _ _ hs _ _ => hs)
    ⟨⟨(Below.heap_alloc _ _ _ (by have := HS2.out; omega)).trans HX1.out, (Below.heap_alloc _ _ _ (by have := HS2.out; omega)).trans HX2.out⟩, HB2.out⟩
    (fun x => { tmps := #[.pointer (some ⟨f, 0, none⟩), undef, .pointer none, .int .i64 0, .pointer (some ⟨W.heap.size + 1, 0, none⟩), .int .i64 x.1, .string (S x.2), .bool false, .pointer (some ⟨f, 0, none⟩), .bool false, .bool false, .pointer (some ⟨f, 0, none⟩), .bool false, .pointer (some ⟨f, 0, none⟩), .agg #[.pointer (some ⟨f, 0, none⟩), .int .i64 0, .int .i64 0, .string ⟨#[]⟩], .pointer (some ⟨W.heap.size, 0, none⟩), .pointer (some ⟨f, 0, none⟩), .slice A d.now.length c, .func (.func 39) #[] #[.pointer (some ⟨W1.heap.size, 0, none⟩)], .int .i64 x.1, .string (S x.2), undef, undef, undef, undef, undef, undef, undef, undef, undef, undef, undef, undef, undef, undef, undef, undef], defers := [] }) ?assign ?body ?done ?stop
  case assign =>
    intro l x X K hK
    gi_wp2
    exact hK
  case body =>
    rintro l pre x X ⟨⟨h1, h2⟩, h3⟩ _
    have hcx : X.cell? ⟨W.heap.size + 1, 0, none⟩ = some (.pointer (some ⟨W.heap.size, 0, none⟩)) := by simp [World.cell?, h2]
    have hcx2 : X.cell? ⟨W.heap.size, 2, none⟩ = some (.int .i64 (lastOf pre).1) := by simp [World.cell?, h1]
    have hcx3 : X.cell? ⟨W.heap.size, 3, none⟩ = some (.string (S (lastOf pre).2)) := by simp [World.cell?, h1]
    have hop : OpI w0 W W.heap.size (W.heap.size + 1) f pre X := ⟨⟨h1, h2⟩, h3⟩
    have hf2 : ∀ o, X.frozen? ⟨W.heap.size, o, none⟩ = false := fun o => by simp [World.frozen?, h1]
    gi_wp2
    have HXR := Aside0.mk (show Below W.heap.size X X from Below.refl _ _)
    have HOP := Aside0.mk hop
    clear h1 h2 h3 hop
    gi_region_with_o (fail)
    all_goals gi_wp2
    all_goals exact openBody (A := A) (c := c) (Bs := W1.heap.size) (ns := names d.now) HOP.out HB0.out.size HAA.out (by have := HS2.out; omega) rfl (by repeat (first | exact HXR.out | apply below_drew1 | refine Below.setCell (p := ⟨W.heap.size, 2, none⟩) ?_ (Nat.le_refl W.heap.size) _ | refine Below.setCell (p := ⟨W.heap.size, 3, none⟩) ?_ (Nat.le_refl W.heap.size) _))
  case done =>
    rintro D xs X hD rfl ⟨⟨h1, h2⟩, h3⟩ hK
    rw [lastOf_hits] at h1
    obtain ⟨lb, hlb⟩ : ∃ lb, ((bestFrom (0, []) (names d.now)).1 : Int) = lb := ⟨_, rfl⟩
    obtain ⟨ls, hls⟩ : ∃ ls, (bestFrom (0, []) (names d.now)).2 = ls := ⟨_, rfl⟩
    simp only [hlb, hls] at h1
    have hcx : X.cell? ⟨W.heap.size + 1, 0, none⟩ = some (.pointer (some ⟨W.heap.size, 0, none⟩)) := by simp [World.cell?, h2]
    have hcx2 : X.cell? ⟨W.heap.size, 2, none⟩ = some (.int .i64 lb) := by simp [World.cell?, h1]
    have hcx1 : X.cell? ⟨W.heap.size, 1, none⟩ = some (.int .i64 0) := by simp [World.cell?, h1]
    have hf2 : ∀ o, X.frozen? ⟨W.heap.size, o, none⟩ = false := fun o => by simp [World.frozen?, h1]
    have H1 := Aside0.mk h1
    have H3 := Aside0.mk h3
    have HK := Aside0.mk hK
    have HD := Aside0.mk hD
    have HLB := Aside0.mk hlb
    have HLS := Aside0.mk hls
    clear h1 h2 h3 hK hD hlb hls
    have HXR := Aside0.mk (show Below W.heap.size X X from Below.refl _ _)
    gi_wp2
    refine onlyNormal_wp ?_
    gi_region_with_o (fail)
    all_goals refine onlyN ?_
    all_goals gi_wp2
    all_goals
      have hend := openEnd (w := W) H1.out HK.out (rfl : (X.setCell ⟨W.heap.size, 1, none⟩ (.int .i64 lb)).drew.heap = _)
      refine ⟨by simp, .inl ⟨_, _, rfl, run_takeDeferred hend.1, ?_⟩⟩
      refine ⟨_, results_tmp2 rfl _ _ _, W.heap.size, rfl, ?_, Nat.le_refl _, ?_⟩
      · unfold IdsCells Disk.opened
        rw [hend.2]
        simp only []
        rw [HLB.out, HLS.out]
      · exact (H3.out.trans (by repeat (first | exact HXR.out | apply below_drew1 | refine Below.setCell (p := ⟨W.heap.size, 1, none⟩) ?_ (Nat.le_refl W.heap.size) _))).trans (belowK_b (w := W) (Nat.le_refl _) _ D _ _ (Nat.le_trans HB2.out.size HD.out) hend.1 rfl rfl)
  case stop =>
    rintro D c pre X hD _ h _
    exact h.elim
end Go.Proofs.YtclhelpcjgmpmaaGreatDoor.Fs
