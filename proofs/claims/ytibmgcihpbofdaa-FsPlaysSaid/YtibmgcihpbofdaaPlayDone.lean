/- ref01: done. -/
import Derived.Test.YtibmgcihpbofdaaPlayB1
import Derived.Deep.RegionHeld3
import Derived.Deep.RegionLaw
import Derived.Deep.AppendLies
namespace Go.Proofs.Ytibmgcihpbofdaa.Fs
open Go.RowKit Go.Proofs.Ytibmgcihpbofdaa Go.Proofs.Ytibmgcihpbofdaa.Plain Go.Proofs.YtibmgcihpbofdaaW.PrintWords Go.Maps
set_option linter.unusedVariables false
set_option linter.unusedSimpArgs false
theorem outR_snoc (l : Dir) (c : RChg) (i : Nat) (hi : i < l.length) : outR (l.take (i + 1)) c = outR (l.take i) c ++ (if l[i].1 = c.src ∨ (c.kind = 2 ∧ l[i].1 = c.dest) then [] else [l[i]]) := by
  rw [List.take_add_one, List.getElem?_eq_getElem hi, Option.toList_some]
  unfold outR
  rw [List.filter_append, List.filter_cons]
  congr 1
  by_cases h1 : l[i].1 = c.src
  · simp [h1]
  · by_cases h2 : c.kind = 2 ∧ l[i].1 = c.dest
    · simp [h1, h2]
    · have : (!(l[i].1 == c.src) && !(c.kind == 2 && l[i].1 == c.dest)) = true := by
        simp only [Bool.and_eq_true, Bool.not_eq_true', beq_eq_false_iff_ne, ne_eq, Bool.and_eq_false_imp, beq_iff_eq]
        exact ⟨h1, fun h e => h2 ⟨h, e⟩⟩
      rw [if_pos this, if_neg (fun h => h.elim h1 h2)]
      rfl
/-- the file of a name, or -1 -/
def fileI (o : Option Nat) : Int := match o with | some x => (x : Int) | none => -1
theorem ERow.form {w0 W : World} {v : Value} {l : Dir} (h : ERow w0 v l W) (hl : 0 < l.length) : ∃ g c, v = .slice (some ⟨g, 0, none⟩) l.length c := by
  rcases h.row.2 with ⟨_, h0⟩ | ⟨g, cap, cur, e, _⟩
  · omega
  · exact ⟨g, cap, e⟩
theorem before_less : ∀ (a b : Nm), before a b = Op.bytesLess a b
  | [], [] => rfl
  | [], _ :: _ => rfl
  | _ :: _, [] => rfl
  | x :: a, y :: b => by
    have h := before_less a b
    show (decide (x < y) || (x == y && bytesBefore a b)) = (decide (x < y) || (x == y && Op.bytesLess a b))
    rw [show bytesBefore a b = Op.bytesLess a b from h]
theorem ERow.three {w0 W : World} {v : Value} {l : Dir} (h : ERow w0 v l W) : ∃ A n c, v = .slice A n c := by
  obtain ⟨A, c, e⟩ := h.slice
  exact ⟨A, _, c, e⟩
theorem ERow.cap {w0 W : World} {A : Option Addr} {n c : Nat} {l : Dir} (h : ERow w0 (.slice A n c) l W) : n ≤ c := by
  rcases h.row.2 with ⟨e, _⟩ | ⟨g, cap, cur, e, _, _, hn, _⟩
  · injection e with _ e1 e2; omega
  · injection e with _ e1 e2; omega
/-- 'append(l, x)' -/
theorem appendE {w0 X : World} {v : Value} {l : Dir} (h : ERow w0 v l X) (p : Nm × Nat) (hn : l.length ≤ 1000000000000) {ops : Array Oper} {rest : List Oper} {o : Oper} {a : Act} {Q : Exit → Act → World → Prop} (hgd : o.guard = none) (x y : Operand)
    (ho : o.op = .call { callee := .builtin .append, args := #[x, y], argTypes := #[51, 51] }) (hx : a.eval x = v) (ad : Addr) (c : Nat) (hy : a.eval y = .slice (some ad) 1 c)
    (hc : ∀ j u, (entV p)[j]? = some u → X.cell? (ad.add j) = some u)
    (hK : ∀ v1 w1, ERow w0 v1 (l ++ [p]) w1 → wpList Try.prog ops Q rest (a.put o.dst v1) w1) : wpList Try.prog ops Q (o :: rest) a X := by
  obtain ⟨i0, hi, hzz⟩ := Option.map_eq_some_iff.1 infoEnt
  simp only [Prod.mk.injEq] at hzz
  obtain ⟨hz0, hz1, hz2⟩ := hzz
  refine wpList_append_own_at (P := Try.prog) _ hgd x y 51 ho w0.heap.size 88 i0 _ 2 24 Try.underlying51 hi hz0 hz1 hz2 rfl (by decide) v l.length (entsV l) hx h.row ad 1 c (entV p) hy rfl hc (by intro u hu; simp [entV] at hu; rcases hu with rfl | rfl <;> rfl) (by simp only [maxLen]; omega) (by omega) h.below.size ?_
  intro v1 w1 h1 h2 _ _
  refine hK v1 w1 ⟨?_, h.below.grown h2 h.below.size (fun k hk => ?_)⟩
  · rw [List.length_append, entsV_append]
    have : entsV [p] = entV p := by simp [entsV]
    rw [this]
    exact h1
  · exact (World.ownsRow.lt h.row k hk).1
theorem at_new {w : World} {b : Nat} (o : Obj) (hb : w.heap.size = b) : (w.alloc o).heap[b]? = some o := by subst hb; exact heap_alloc_new w o
theorem at_drew {w : World} {b : Nat} {x : Obj} (h : w.heap[b]? = some x) : w.drew.heap[b]? = some x := h
theorem at_old {w : World} {b : Nat} {x : Obj} (o : Obj) (h : w.heap[b]? = some x) : (w.alloc o).heap[b]? = some x := (heap_alloc_old w o (Array.getElem?_eq_some_iff.1 h).1).trans h
/-- an append of entries, as a step of a region that draws -/
theorem stepE {ops : Array Oper} {o : Oper} {a : Act} {w : World} {K : Act → World → Prop} {Q : Exit → Act → World → Prop} {E : Prop}
    (hg : o.guard = none) (s x : Operand) (hop : o.op = Op.call { callee := Callee.builtin Builtin.append, args := #[s, x], argTypes := #[51, 51] })
    {w0 : World} {v : Value} {l : Dir} (hs : a.eval s = v) (h : ERow w0 v l w) {l2 : Dir} {A : Option Addr} {m c : Nat} (hx : a.eval x = .slice A m c) (hm : m = l2.length) (hA : A = none → m = 0)
    (hnews : ∀ ad, A = some ad → ∀ j u, (entsV l2)[j]? = some u → w.cell? (ad.add j) = some u) (hsm : l.length + m ≤ 3000001)
    (hK : ∀ v' w', ERow w0 v' (l ++ l2) w' → w.grownBy w' v.ownBlock → K (a.put o.dst v') w') :
    if Region.wanted o (yielded ops a.tmps) = true then Oper.wp Try.prog o a w K Q else E := by
  subst hm
  obtain ⟨i0, hi, hzz⟩ := Option.map_eq_some_iff.1 infoEnt
  simp only [Prod.mk.injEq] at hzz
  obtain ⟨hz0, hz1, hz2⟩ := hzz
  refine step_append_any hg s x 51 hop w0.heap.size 88 i0 _ 2 24 Try.underlying51 hi hz0 hz1 hz2 rfl (by decide) v l.length (entsV l) hs h.row A l2.length c (entsV l2) hx hA (entsV_length l2) hnews (entsV_one l2) (by simp only [maxLen]; omega) (by omega) h.below.size (fun v1 w1 h1 h2 _ => hK v1 w1 ⟨?_, h.below.grown h2 h.below.size (fun k hk => (World.ownsRow.lt h.row k hk).1)⟩ h2)
  rw [List.length_append, entsV_append]
  exact h1
theorem ERow.empty {w0 X : World} {b : Nat} (hX : X.heap[b]? = some (.cells #[] 88 (0, 0))) (hb : w0.heap.size ≤ b) (h : Below w0.heap.size w0 X) : ERow w0 (.slice (some ⟨b, 0, none⟩) 0 0) [] X :=
  ⟨⟨by simp [entsV], .inr ⟨b, 0, #[], rfl, hb, hX, Nat.le_refl 0, by simp [maxLen], by simp, by simp [entsV]⟩⟩, h⟩
theorem partTake {W : World} {g : Nat} {l : Dir} (h : EntsAt W (some ⟨g, 0, none⟩) l) (k : Nat) (hk : k ≤ l.length) : ∀ ad, (some ⟨g, 0, none⟩ : Option Addr) = some ad → ∀ j u, (entsV (l.take k))[j]? = some u → W.cell? (ad.add j) = some u := by
  rintro ad e j u hu
  injection e with e
  subst e
  have := entsPart h 0 k (by omega) j u (by simpa using hu)
  simpa using this
theorem partDrop {W : World} {g : Nat} {l : Dir} (h : EntsAt W (some ⟨g, 0, none⟩) l) (k : Nat) (hk : k ≤ l.length) (o : Nat) (ho : o = k * 2 ∨ l.drop k = []) : ∀ ad, (some ⟨g, o, none⟩ : Option Addr) = some ad → ∀ j u, (entsV (l.drop k))[j]? = some u → W.cell? (ad.add j) = some u := by
  rintro ad e j u hu
  injection e with e
  subst e
  rcases ho with rfl | ho
  · refine entsPart h k (l.length - k) (by omega) j u ?_
    rw [List.take_of_length_le (by rw [List.length_drop]; omega)]
    exact hu
  · rw [ho] at hu
    cases hu
theorem partDrop2 {W : World} {g c : Nat} {l : Dir} (h : EntsAt W (some ⟨g, 0, none⟩) l) (k : Nat) (hk : k ≤ l.length) (hc : l.length ≤ c) : ∀ ad, (if c = k then (some ⟨g, 0, none⟩ : Option Addr) else some ⟨g, k * 2, none⟩) = some ad → ∀ j u, (entsV (l.drop k))[j]? = some u → W.cell? (ad.add j) = some u := by
  split
  · rename_i h1
    exact partDrop h k hk 0 (.inr (List.drop_of_length_le (by omega)))
  · exact partDrop h k hk _ (.inl rfl)
theorem sel_none {c k : Nat} {a b : Addr} (h : (if c = k then some a else some b) = (none : Option Addr)) : False := by split at h <;> cases h
theorem news_far {X w : World} {row : Option Nat} {b : Nat} {t : TypeId} {p : Nm × Nat} (hg : X.grownBy w row) (hX : X.heap[b]? = some (.cells #[.string (S p.1), .int .i64 (p.2 : Int)] t (0, 0))) (hne : some b ≠ row) : ∀ ad, (some ⟨b, 0, none⟩ : Option Addr) = some ad → ∀ j u, (entsV [p])[j]? = some u → w.cell? (ad.add j) = some u := by
  rintro ad e
  injection e with e
  subst e
  exact World.news_of_block ((hg.block b (Array.getElem?_eq_some_iff.1 hX).1 hne).trans hX)
theorem news_here {w : World} {b : Nat} {t : TypeId} {p : Nm × Nat} (hX : w.heap[b]? = some (.cells #[.string (S p.1), .int .i64 (p.2 : Int)] t (0, 0))) : ∀ ad, (some ⟨b, 0, none⟩ : Option Addr) = some ad → ∀ j u, (entsV [p])[j]? = some u → w.cell? (ad.add j) = some u := by
  rintro ad e
  injection e with e
  subst e
  exact World.news_of_block hX
theorem entNew (w : World) (n : Nm) (i : Int) (t : TypeId) (b : Nat) (hb : w.heap.size = b) : ∀ j u, [Value.string (S n), .int .i64 i][j]? = some u → (w.alloc (.cells #[.string (S n), .int .i64 i] t)).cell? ((⟨b, 0, none⟩ : Addr).add j) = some u := by
  subst hb
  intro j u hu
  have h := heap_alloc_new w (.cells #[.string (S n), .int .i64 i] t)
  have e : (⟨w.heap.size, 0, none⟩ : Addr).add j = ⟨w.heap.size, j, none⟩ := by unfold Addr.add; split <;> simp_all
  rw [e]
  unfold World.cell?
  simp only []
  rw [h]
  simpa using hu
set_option maxHeartbeats 4000000 in
set_option maxRecDepth 100000 in
theorem doneIs1 {W : World} (l : Dir) (hs : Sorted l) (hl : l.length ≤ 1000000) (A : Option Addr) (cc : Nat) (h : EntsAt W A l) (src dest : Nm) (fi : Nat) (hm : mayC l ⟨1, src, dest, fi⟩) :
    Calls Try.prog 56 #[.slice A l.length cc, .agg #[.int .i64 1, .string (S src), .string (S dest), .int .i64 (fi : Int)]] W fun e W' => ∃ v, e = .returned v ∧ ERow W v (doneR l ⟨1, src, dest, fi⟩) W' := by
  obtain ⟨Wb, hWb⟩ : ∃ Wb, W.alloc (.cells #[.int .i64 1, .string (S src), .string (S dest), .int .i64 (fi : Int)] 86) = Wb := ⟨_, rfl⟩
  have HWb := Aside0.mk hWb
  have HBW := Aside0.mk (show Below W.heap.size W Wb by rw [← hWb]; exact below_alloc (Below.refl _ _) _)
  have HC := Aside0.mk (fun X (hX : Below Wb.heap.size Wb X) => show X.cell? ⟨W.heap.size, 0, none⟩ = some (.int .i64 1) ∧ X.cell? ⟨W.heap.size, 1, none⟩ = some (.string (S src)) ∧ X.cell? ⟨W.heap.size, 2, none⟩ = some (.string (S dest)) ∧ X.cell? ⟨W.heap.size, 3, none⟩ = some (.int .i64 (fi : Int)) by
    subst hWb
    exact ⟨boxAt (j := 0) hX rfl, boxAt (j := 1) hX rfl, boxAt (j := 2) hX rfl, boxAt (j := 3) hX rfl⟩)
  have HE := Aside0.mk (fun X (hX : Below Wb.heap.size Wb X) => h.below (chain' HBW.out hX))
  have HS := Aside0.mk hs
  have HM := Aside0.mk hm
  clear hWb h hs hm
  go_enter Try.func56, Try.ntmps56
  go_wp2
  rw [HWb.out]
  go_loopw [5, 6, 7] (fun v5 v6 v7 wr => ∃ (i g c : Nat) (out : Dir) (fv : Int), i ≤ l.length ∧ v7 = .int .i64 i ∧ v5 = .slice (some ⟨g, 0, none⟩) out.length c ∧ v6 = .int .i64 fv ∧ out.length ≤ i ∧ Aside0 (out = outR (l.take i) ⟨1, src, dest, fi⟩) ∧ Aside0 (fv = fileI (get (l.take i) src)) ∧ Aside0 (ERow Wb v5 out wr)) (fun _ _ v7 _ => l.length - (intOf v7).toNat)
  case atStart =>
    have hz : Wb.heap.size = W.heap.size + 1 := by rw [← HWb.out]; simp
    have h1 := ERow.made (Below.refl Wb.heap.size Wb)
    rw [hz] at h1
    exact ⟨0, _, 0, [], -1, by omega, rfl, rfl, rfl, by simp, ⟨rfl⟩, ⟨rfl⟩, ⟨h1⟩⟩
  case round =>
    obtain ⟨i, g, c, out, fv, hi, rfl, rfl, rfl, hol, HO, HF, HR⟩ := hrel
    obtain ⟨c0, c1, c2, c3⟩ := HC.out _ HR.out.below
    by_cases hlt : i < l.length
    · obtain ⟨gl, rfl, -, k0, k1⟩ := (HE.out _ HR.out.below) i hlt
      have HSN := Aside0.mk (outR_snoc l ⟨1, src, dest, fi⟩ i hlt)
      have HGN := Aside0.mk (show get (l.take (i + 1)) src = match get (l.take i) src with | some x => some x | none => if l[i].1 = src then some l[i].2 else none by rw [List.take_add_one, List.getElem?_eq_getElem hlt, Option.toList_some, get_snoc]; rfl)
      have HNO := Aside0.mk (sorted_get HS.out hlt)
      obtain ⟨p, hp⟩ : ∃ p, l[i] = p := ⟨_, rfl⟩
      simp only [hp] at k0 k1 HSN HGN HNO
      obtain ⟨pn, pf⟩ := p
      clear hp
      by_cases hs : pn = src
      · subst hs
        go_wp2
        go_quiet (fail)
        go_wp2
        go_roundw
        case rel => exact ⟨i + 1, g, c, out, pf, by omega, by go_num, rfl, rfl, by omega, ⟨by rw [HSN.out, if_pos (by simp), List.append_nil]; exact HO.out⟩, ⟨by rw [HGN.out, HNO.out]; simp [fileI]⟩, ⟨HR.out.step (pw_below_drewN (Below.refl _ _) _)⟩⟩
        case measure => simp [intOf]; omega
      · have hne : (pn == src) = false := by simpa using hs
        have HNS := Aside0.mk hs
        have HFN := Aside0.mk (show fv = fileI (get (l.take (i + 1)) src) by
          rw [HF.out, HGN.out]
          cases get (l.take i) src with
          | some x => rfl
          | none => simp [hs])
        clear hs HNO HGN
        have HSN2 := Aside0.mk (show outR (l.take (i + 1)) ⟨1, src, dest, fi⟩ = out ++ [(pn, pf)] by rw [HSN.out, HO.out, if_neg (fun h => h.elim HNS.out (fun h2 => absurd h2.1 (by simp)))])
        have key : ∀ (W2 : World) (v1 : Value), ERow Wb v1 (out ++ [(pn, pf)]) W2 → ∃ (i' g c : Nat) (out' : Dir) (fv' : Int), i' ≤ l.length ∧ (Value.int .i64 ((i : Int) + 1) : Value) = .int .i64 i' ∧ v1 = .slice (some ⟨g, 0, none⟩) out'.length c ∧ (Value.int .i64 fv : Value) = .int .i64 fv' ∧ out'.length ≤ i' ∧ Aside0 (out' = outR (l.take i') ⟨1, src, dest, fi⟩) ∧ Aside0 (fv' = fileI (get (l.take i') src)) ∧ Aside0 (ERow Wb v1 out' W2) := fun W2 v1 h => by
          obtain ⟨g', c', e⟩ := h.form (by simp)
          exact ⟨i + 1, g', c', _, fv, by omega, by go_num, e, rfl, by simp; omega, ⟨HSN2.out.symm⟩, HFN, ⟨h⟩⟩
        have HKEY := Aside0.mk key
        have hol2 : out.length ≤ 1000000000000 := by omega
        clear key
        go_wp2
        go_quiet (fail)
        go_wp2
        go_quiet (fail)
        go_wp2_with (at_builtin; refine appendE (HR.out.step (below_alloc (pw_below_drewN (Below.refl _ _) _) _)) (pn, pf) hol2 rfl _ _ rfl rfl _ 1 rfl (entNew _ _ _ _ _ (by simp)) ?_; rintro v1 W4 h; have HR4 := Aside0.mk h; clear h)
        go_roundw
        case rel => exact HKEY.out _ _ HR4.out
        case measure => simp [intOf]; omega
    · have HOE := Aside0.mk (show out = outR l ⟨1, src, dest, fi⟩ by rw [HO.out, List.take_of_length_le (by omega)])
      have HFE := Aside0.mk (show fv = fileI (get l src) by rw [HF.out, List.take_of_length_le (by omega)])
      clear HO HF
      have HD := Aside0.mk (show doneR l ⟨1, src, dest, fi⟩ = insR (src, fi) out by rw [HOE.out]; rfl)
      go_wp2
      go_quiet (fail)
      go_wp2
      obtain ⟨w9, hw9, HR9⟩ : ∃ w9, wr.drewN nq = w9 ∧ Aside0 (ERow Wb (.slice (some ⟨g, 0, none⟩) out.length c) out w9) := ⟨_, rfl, ⟨HR.out.step (pw_below_drewN (Below.refl _ _) nq)⟩⟩
      rw [hw9]
      clear hw9 c0 c1 c2 c3 hlt
      have hol3 : out.length ≤ 1000000 := by omega
      have HCP := Aside0.mk (ERow.cap HR9.out)
      go_loopw [9] (fun v9 w2 => ∃ k : Nat, k ≤ out.length ∧ v9 = .int .i64 k ∧ Aside0 (∀ j (hj : j < k) (hl : j < out.length), before out[j].1 src = true) ∧ Aside0 (w2 = w9)) (fun v9 _ => out.length - (intOf v9).toNat)
      case atStart => exact ⟨0, by omega, rfl, ⟨fun j hj => by omega⟩, ⟨rfl⟩⟩
      case round =>
        obtain ⟨k, hk, rfl, HK, HW⟩ := hrel
        obtain rfl := HW.out
        clear HW
        have HEND0 : (∀ hk : k < out.length, before out[k].1 src = false) → Aside0 (insR (src, fi) out = out.take k ++ (src, fi) :: out.drop k) := fun h => ⟨insR_at hk HK.out h⟩
        have HEND := Aside0.mk HEND0
        clear HEND0
        by_cases hlt : k < out.length
        · obtain ⟨g', e, -, k0, k1⟩ := HR9.out.at_ k hlt
          injection e with e
          injection e with e _ _
          subst e
          have HBL := Aside0.mk (before_less out[k].1 src)
          have HKN0 : before out[k].1 src = true → Aside0 (∀ j (hj : j < k + 1) (hl : j < out.length), before out[j].1 src = true) := fun h => ⟨fun j hj hl => by
            rcases Nat.lt_or_ge j k with h2 | h2
            · exact HK.out j h2 hl
            · obtain rfl : j = k := by omega
              exact h⟩
          have HKN := Aside0.mk HKN0
          clear HKN0
          have HFN := Aside0.mk (fun (h : before out[k].1 src = false) => HEND.out (fun _ => h))
          obtain ⟨p, hp⟩ : ∃ p, out[k] = p := ⟨_, rfl⟩
          rw [hp] at k0 k1 HBL HKN HFN
          obtain ⟨pn, pf⟩ := p
          clear hp
          obtain ⟨b, hb⟩ : ∃ b, Op.bytesLess pn src = b := ⟨_, rfl⟩
          have HB' := Aside0.mk (show before pn src = b by rw [← hb]; exact HBL.out)
          cases b with
          | true =>
            have HK2 := HKN.out HB'.out
            go_wp2
            go_roundw
            case rel => exact ⟨k + 1, by omega, by go_num, HK2, ⟨trivial⟩⟩
            case measure => simp [intOf]; omega
          | false =>
            have HI := HFN.out HB'.out
            clear HEND HKN HFN
            go_wp2
            have hk0 : (0 : Int) ≤ (k : Int) := by omega
            have hk1 : (k : Int) ≤ (out.length : Int) := by omega
            have hk2 : (out.length : Int) ≤ (c : Int) := by have := HCP.out; omega
            have hk3 : (k : Int) ≤ (c : Int) := by omega
            have HTK := Aside0.mk (fun X (hX : Below wr.heap.size wr X) => partTake (HR9.out.at_.below hX) k hk)
            have HDK := Aside0.mk (fun X (hX : Below wr.heap.size wr X) => partDrop2 (c := c) (HR9.out.at_.below hX) k hk HCP.out)
            have HBWr := Aside0.mk (show Below wr.heap.size wr wr from Below.refl _ _)
            have HLT := Aside0.mk (show k = (out.take k).length by rw [List.length_take]; omega)
            have HZ := Aside0.mk (show Wb.heap.size ≤ wr.heap.size from HR9.out.below.size)
            have HBB := Aside0.mk (show Below Wb.heap.size Wb wr from HR9.out.below)
            have HL3 := Aside0.mk hol3
            have H1 := Aside0.mk hk
            clear hol3 hk
            go_region_law (first
              | (refine stepE rfl (.tmp 78) (.tmp 81) rfl (w0 := wr) (v := .slice (some ⟨_, 0, none⟩) 0 0) (l := []) (by first | (simp [Act.eval, Act.put]; done) | (simp [Act.eval, Act.put]; rfl)) (ERow.empty (by repeat (first | with_reducible exact at_new _ (by simp) | with_reducible apply at_drew | with_reducible refine at_old _ ?_)) (by simp) (by repeat (first | exact HBWr.out | apply below_drew1 | refine below_alloc ?_ _))) (l2 := out.take k) (A := some ⟨g, 0, none⟩) (m := k) (c := c) (by first | (simp [Act.eval, Act.put]; done) | (simp [Act.eval, Act.put]; rfl)) HLT.out (fun h => by cases h) (HTK.out _ (by repeat (first | exact HBWr.out | apply below_drew1 | refine below_alloc ?_ _))) (by have := HL3.out; have := H1.out; simp only [List.length_nil]; omega) ?_; intro v1 w1 h1 g1; have HE1 := Aside0.mk h1; have HG1 := Aside0.mk g1; obtain ⟨A1, n1, c1, rfl⟩ := h1.three; clear h1 g1)
              | (refine stepE rfl (.tmp 82) (.tmp 86) rfl (w0 := wr) (v := .slice A1 n1 c1) (l := [] ++ out.take k) (by first | (simp [Act.eval, Act.put]; done) | (simp [Act.eval, Act.put]; rfl)) (by first | with_reducible exact HE1.out | with_reducible exact HE1.out.step (below_alloc (Below.refl _ _) _)) (l2 := [(src, fi)]) (A := some ⟨_, 0, none⟩) (m := 1) (c := 1) (by first | (simp [Act.eval, Act.put]; done) | (simp [Act.eval, Act.put]; rfl)) rfl (fun h => by cases h) (by first | exact news_here (by repeat (first | with_reducible exact at_new _ (by simp) | with_reducible apply at_drew | with_reducible refine at_old _ ?_)) | exact news_far HG1.out (by repeat (first | with_reducible exact at_new _ (by simp) | with_reducible apply at_drew | with_reducible refine at_old _ ?_)) (by simp [Value.ownBlock])) (by have := HL3.out; have := H1.out; simp only [List.length_append, List.length_nil, List.length_take]; omega) ?_; intro v2 w2 h1 g1; have HE2 := Aside0.mk h1; obtain ⟨A2, n2, c2, rfl⟩ := h1.three; clear h1 g1)
              | (refine stepE rfl (.tmp 87) (.tmp 90) rfl (w0 := wr) (v := .slice A2 n2 c2) (l := [] ++ out.take k ++ [(src, fi)]) (by first | (simp [Act.eval, Act.put]; done) | (simp [Act.eval, Act.put]; rfl)) HE2.out (l2 := out.drop k) (A := if c = k then some ⟨g, 0, none⟩ else some ⟨g, k * 2, none⟩) (m := out.length - k) (c := c - k) (by first | (simp [Act.eval, Act.put]; done) | (simp [Act.eval, Act.put]; rfl)) (by simp) (fun h => (sel_none h).elim) (HDK.out _ HE2.out.below) (by have := HL3.out; have := H1.out; simp only [List.length_append, List.length_nil, List.length_take, List.length_cons]; omega) ?_; intro v3 w3 h1 g1; have HE3 := Aside0.mk h1; clear h1 g1))
            all_goals
              go_wp2
              all_goals
                go_ret
                rw [HD.out, HI.out]
                have h3 := HE3.out
                rw [List.nil_append, List.append_assoc, List.singleton_append] at h3
                exact ⟨_, rfl, own_weaken h3.row (Nat.le_trans HBW.out.size HZ.out), chain' HBW.out (chain' HBB.out h3.below)⟩
        · have HI := HEND.out (fun h => absurd h hlt)
          clear HEND
          go_wp2
          have hk0 : (0 : Int) ≤ (k : Int) := by omega
          have hk1 : (k : Int) ≤ (out.length : Int) := by omega
          have hk2 : (out.length : Int) ≤ (c : Int) := by have := HCP.out; omega
          have hk3 : (k : Int) ≤ (c : Int) := by omega
          have HTK := Aside0.mk (fun X (hX : Below wr.heap.size wr X) => partTake (HR9.out.at_.below hX) k hk)
          have HDK := Aside0.mk (fun X (hX : Below wr.heap.size wr X) => partDrop2 (c := c) (HR9.out.at_.below hX) k hk HCP.out)
          have HBWr := Aside0.mk (show Below wr.heap.size wr wr from Below.refl _ _)
          have HLT := Aside0.mk (show k = (out.take k).length by rw [List.length_take]; omega)
          have HZ := Aside0.mk (show Wb.heap.size ≤ wr.heap.size from HR9.out.below.size)
          have HBB := Aside0.mk (show Below Wb.heap.size Wb wr from HR9.out.below)
          have HL3 := Aside0.mk hol3
          have H1 := Aside0.mk hk
          clear hol3 hk
          go_region_law (first
            | (refine stepE rfl (.tmp 78) (.tmp 81) rfl (w0 := wr) (v := .slice (some ⟨_, 0, none⟩) 0 0) (l := []) (by first | (simp [Act.eval, Act.put]; done) | (simp [Act.eval, Act.put]; rfl)) (ERow.empty (by repeat (first | with_reducible exact at_new _ (by simp) | with_reducible apply at_drew | with_reducible refine at_old _ ?_)) (by simp) (by repeat (first | exact HBWr.out | apply below_drew1 | refine below_alloc ?_ _))) (l2 := out.take k) (A := some ⟨g, 0, none⟩) (m := k) (c := c) (by first | (simp [Act.eval, Act.put]; done) | (simp [Act.eval, Act.put]; rfl)) HLT.out (fun h => by cases h) (HTK.out _ (by repeat (first | exact HBWr.out | apply below_drew1 | refine below_alloc ?_ _))) (by have := HL3.out; have := H1.out; simp only [List.length_nil]; omega) ?_; intro v1 w1 h1 g1; have HE1 := Aside0.mk h1; have HG1 := Aside0.mk g1; obtain ⟨A1, n1, c1, rfl⟩ := h1.three; clear h1 g1)
            | (refine stepE rfl (.tmp 82) (.tmp 86) rfl (w0 := wr) (v := .slice A1 n1 c1) (l := [] ++ out.take k) (by first | (simp [Act.eval, Act.put]; done) | (simp [Act.eval, Act.put]; rfl)) (by first | with_reducible exact HE1.out | with_reducible exact HE1.out.step (below_alloc (Below.refl _ _) _)) (l2 := [(src, fi)]) (A := some ⟨_, 0, none⟩) (m := 1) (c := 1) (by first | (simp [Act.eval, Act.put]; done) | (simp [Act.eval, Act.put]; rfl)) rfl (fun h => by cases h) (by first | exact news_here (by repeat (first | with_reducible exact at_new _ (by simp) | with_reducible apply at_drew | with_reducible refine at_old _ ?_)) | exact news_far HG1.out (by repeat (first | with_reducible exact at_new _ (by simp) | with_reducible apply at_drew | with_reducible refine at_old _ ?_)) (by simp [Value.ownBlock])) (by have := HL3.out; have := H1.out; simp only [List.length_append, List.length_nil, List.length_take]; omega) ?_; intro v2 w2 h1 g1; have HE2 := Aside0.mk h1; obtain ⟨A2, n2, c2, rfl⟩ := h1.three; clear h1 g1)
            | (refine stepE rfl (.tmp 87) (.tmp 90) rfl (w0 := wr) (v := .slice A2 n2 c2) (l := [] ++ out.take k ++ [(src, fi)]) (by first | (simp [Act.eval, Act.put]; done) | (simp [Act.eval, Act.put]; rfl)) HE2.out (l2 := out.drop k) (A := if c = k then some ⟨g, 0, none⟩ else some ⟨g, k * 2, none⟩) (m := out.length - k) (c := c - k) (by first | (simp [Act.eval, Act.put]; done) | (simp [Act.eval, Act.put]; rfl)) (by simp) (fun h => (sel_none h).elim) (HDK.out _ HE2.out.below) (by have := HL3.out; have := H1.out; simp only [List.length_append, List.length_nil, List.length_take, List.length_cons]; omega) ?_; intro v3 w3 h1 g1; have HE3 := Aside0.mk h1; clear h1 g1))
          all_goals
            go_wp2
            all_goals
              go_ret
              rw [HD.out, HI.out]
              have h3 := HE3.out
              rw [List.nil_append, List.append_assoc, List.singleton_append] at h3
              exact ⟨_, rfl, own_weaken h3.row (Nat.le_trans HBW.out.size HZ.out), chain' HBW.out (chain' HBB.out h3.below)⟩
set_option maxHeartbeats 4000000 in
set_option maxRecDepth 100000 in
theorem doneIs2 {W : World} (l : Dir) (hs : Sorted l) (hl : l.length ≤ 1000000) (A : Option Addr) (cc : Nat) (h : EntsAt W A l) (src dest : Nm) (fi : Nat) (hm : mayC l ⟨2, src, dest, fi⟩) :
    Calls Try.prog 56 #[.slice A l.length cc, .agg #[.int .i64 2, .string (S src), .string (S dest), .int .i64 (fi : Int)]] W fun e W' => ∃ v, e = .returned v ∧ ERow W v (doneR l ⟨2, src, dest, fi⟩) W' := by
  obtain ⟨Wb, hWb⟩ : ∃ Wb, W.alloc (.cells #[.int .i64 2, .string (S src), .string (S dest), .int .i64 (fi : Int)] 86) = Wb := ⟨_, rfl⟩
  have HWb := Aside0.mk hWb
  have HBW := Aside0.mk (show Below W.heap.size W Wb by rw [← hWb]; exact below_alloc (Below.refl _ _) _)
  have HC := Aside0.mk (fun X (hX : Below Wb.heap.size Wb X) => show X.cell? ⟨W.heap.size, 0, none⟩ = some (.int .i64 2) ∧ X.cell? ⟨W.heap.size, 1, none⟩ = some (.string (S src)) ∧ X.cell? ⟨W.heap.size, 2, none⟩ = some (.string (S dest)) ∧ X.cell? ⟨W.heap.size, 3, none⟩ = some (.int .i64 (fi : Int)) by
    subst hWb
    exact ⟨boxAt (j := 0) hX rfl, boxAt (j := 1) hX rfl, boxAt (j := 2) hX rfl, boxAt (j := 3) hX rfl⟩)
  have HE := Aside0.mk (fun X (hX : Below Wb.heap.size Wb X) => h.below (chain' HBW.out hX))
  have HS := Aside0.mk hs
  have HM := Aside0.mk hm
  clear hWb h hs hm
  go_enter Try.func56, Try.ntmps56
  go_wp2
  rw [HWb.out]
  go_loopw [5, 6, 7] (fun v5 v6 v7 wr => ∃ (i g c : Nat) (out : Dir) (fv : Int), i ≤ l.length ∧ v7 = .int .i64 i ∧ v5 = .slice (some ⟨g, 0, none⟩) out.length c ∧ v6 = .int .i64 fv ∧ out.length ≤ i ∧ Aside0 (out = outR (l.take i) ⟨2, src, dest, fi⟩) ∧ Aside0 (fv = fileI (get (l.take i) src)) ∧ Aside0 (ERow Wb v5 out wr)) (fun _ _ v7 _ => l.length - (intOf v7).toNat)
  case atStart =>
    have hz : Wb.heap.size = W.heap.size + 1 := by rw [← HWb.out]; simp
    have h1 := ERow.made (Below.refl Wb.heap.size Wb)
    rw [hz] at h1
    exact ⟨0, _, 0, [], -1, by omega, rfl, rfl, rfl, by simp, ⟨rfl⟩, ⟨rfl⟩, ⟨h1⟩⟩
  case round =>
    obtain ⟨i, g, c, out, fv, hi, rfl, rfl, rfl, hol, HO, HF, HR⟩ := hrel
    obtain ⟨c0, c1, c2, c3⟩ := HC.out _ HR.out.below
    by_cases hlt : i < l.length
    · obtain ⟨gl, rfl, -, k0, k1⟩ := (HE.out _ HR.out.below) i hlt
      have HSN := Aside0.mk (outR_snoc l ⟨2, src, dest, fi⟩ i hlt)
      have HGN := Aside0.mk (show get (l.take (i + 1)) src = match get (l.take i) src with | some x => some x | none => if l[i].1 = src then some l[i].2 else none by rw [List.take_add_one, List.getElem?_eq_getElem hlt, Option.toList_some, get_snoc]; rfl)
      have HNO := Aside0.mk (sorted_get HS.out hlt)
      obtain ⟨p, hp⟩ : ∃ p, l[i] = p := ⟨_, rfl⟩
      simp only [hp] at k0 k1 HSN HGN HNO
      obtain ⟨pn, pf⟩ := p
      clear hp
      by_cases hs : pn = src
      · subst hs
        go_wp2
        go_quiet (fail)
        go_wp2
        go_roundw
        case rel => exact ⟨i + 1, g, c, out, pf, by omega, by go_num, rfl, rfl, by omega, ⟨by rw [HSN.out, if_pos (by simp), List.append_nil]; exact HO.out⟩, ⟨by rw [HGN.out, HNO.out]; simp [fileI]⟩, ⟨HR.out.step (pw_below_drewN (Below.refl _ _) _)⟩⟩
        case measure => simp [intOf]; omega
      · have hne : (pn == src) = false := by simpa using hs
        have HNS := Aside0.mk hs
        have HFN := Aside0.mk (show fv = fileI (get (l.take (i + 1)) src) by
          rw [HF.out, HGN.out]
          cases get (l.take i) src with
          | some x => rfl
          | none => simp [hs])
        clear hs HNO HGN
        by_cases hd : pn = dest
        · subst hd
          go_wp2
          go_quiet (fail)
          go_wp2
          go_quiet (fail)
          go_wp2
          go_roundw
          case rel => exact ⟨i + 1, g, c, out, fv, by omega, by go_num, rfl, rfl, by omega, ⟨by rw [HSN.out, if_pos (by simp), List.append_nil]; exact HO.out⟩, HFN, ⟨HR.out.step (pw_below_drewN (Below.refl _ _) _)⟩⟩
          case measure => simp [intOf]; omega
        · have hdd : (pn == dest) = false := by simpa using hd
          have HSN2 := Aside0.mk (show outR (l.take (i + 1)) ⟨2, src, dest, fi⟩ = out ++ [(pn, pf)] by rw [HSN.out, HO.out, if_neg (fun h => h.elim HNS.out (fun h2 => hd h2.2))])
          clear hd
          have key : ∀ (W2 : World) (v1 : Value), ERow Wb v1 (out ++ [(pn, pf)]) W2 → ∃ (i' g c : Nat) (out' : Dir) (fv' : Int), i' ≤ l.length ∧ (Value.int .i64 ((i : Int) + 1) : Value) = .int .i64 i' ∧ v1 = .slice (some ⟨g, 0, none⟩) out'.length c ∧ (Value.int .i64 fv : Value) = .int .i64 fv' ∧ out'.length ≤ i' ∧ Aside0 (out' = outR (l.take i') ⟨2, src, dest, fi⟩) ∧ Aside0 (fv' = fileI (get (l.take i') src)) ∧ Aside0 (ERow Wb v1 out' W2) := fun W2 v1 h => by
            obtain ⟨g', c', e⟩ := h.form (by simp)
            exact ⟨i + 1, g', c', _, fv, by omega, by go_num, e, rfl, by simp; omega, ⟨HSN2.out.symm⟩, HFN, ⟨h⟩⟩
          have HKEY := Aside0.mk key
          have hol2 : out.length ≤ 1000000000000 := by omega
          clear key
          go_wp2
          go_quiet (fail)
          go_wp2
          go_quiet (fail)
          go_wp2_with (at_builtin; refine appendE (HR.out.step (below_alloc (pw_below_drewN (Below.refl _ _) _) _)) (pn, pf) hol2 rfl _ _ rfl rfl _ 1 rfl (entNew _ _ _ _ _ (by simp)) ?_; rintro v1 W4 h; have HR4 := Aside0.mk h; clear h)
          go_roundw
          case rel => exact HKEY.out _ _ HR4.out
          case measure => simp [intOf]; omega
    · have HOE := Aside0.mk (show out = outR l ⟨2, src, dest, fi⟩ by rw [HO.out, List.take_of_length_le (by omega)])
      have HFE := Aside0.mk (show fv = fileI (get l src) by rw [HF.out, List.take_of_length_le (by omega)])
      clear HO HF
      have HV := HM.out
      obtain ⟨xf, hxf⟩ : ∃ xf, get l src = some xf := by
        rcases HV with h | h | ⟨_, _, h⟩
        · cases h
        · cases h
        · exact Option.isSome_iff_exists.1 h
      have HD := Aside0.mk (show doneR l ⟨2, src, dest, fi⟩ = insR (dest, xf) out by rw [HOE.out]; unfold doneR; rw [if_neg (by simp), if_neg (by simp), hxf]; rfl)
      obtain rfl : fv = (xf : Int) := by rw [HFE.out, hxf]; rfl
      clear HV hxf HFE HOE
      go_wp2
      obtain ⟨w9, hw9, HR9⟩ : ∃ w9, wr = w9 ∧ Aside0 (ERow Wb (.slice (some ⟨g, 0, none⟩) out.length c) out w9) := ⟨_, rfl, ⟨HR.out⟩⟩
      rw [hw9]
      clear hw9 c0 c1 c2 c3 hlt
      have hol3 : out.length ≤ 1000000 := by omega
      have HCP := Aside0.mk (ERow.cap HR9.out)
      go_loopw [9] (fun v9 w2 => ∃ k : Nat, k ≤ out.length ∧ v9 = .int .i64 k ∧ Aside0 (∀ j (hj : j < k) (hl : j < out.length), before out[j].1 dest = true) ∧ Aside0 (w2 = w9)) (fun v9 _ => out.length - (intOf v9).toNat)
      case atStart => exact ⟨0, by omega, rfl, ⟨fun j hj => by omega⟩, ⟨rfl⟩⟩
      case round =>
        obtain ⟨k, hk, rfl, HK, HW⟩ := hrel
        obtain rfl := HW.out
        clear HW
        have HEND0 : (∀ hk : k < out.length, before out[k].1 dest = false) → Aside0 (insR (dest, xf) out = out.take k ++ (dest, xf) :: out.drop k) := fun h => ⟨insR_at hk HK.out h⟩
        have HEND := Aside0.mk HEND0
        clear HEND0
        by_cases hlt : k < out.length
        · obtain ⟨g', e, -, k0, k1⟩ := HR9.out.at_ k hlt
          injection e with e
          injection e with e _ _
          subst e
          have HBL := Aside0.mk (before_less out[k].1 dest)
          have HKN0 : before out[k].1 dest = true → Aside0 (∀ j (hj : j < k + 1) (hl : j < out.length), before out[j].1 dest = true) := fun h => ⟨fun j hj hl => by
            rcases Nat.lt_or_ge j k with h2 | h2
            · exact HK.out j h2 hl
            · obtain rfl : j = k := by omega
              exact h⟩
          have HKN := Aside0.mk HKN0
          clear HKN0
          have HFN := Aside0.mk (fun (h : before out[k].1 dest = false) => HEND.out (fun _ => h))
          obtain ⟨p, hp⟩ : ∃ p, out[k] = p := ⟨_, rfl⟩
          rw [hp] at k0 k1 HBL HKN HFN
          obtain ⟨pn, pf⟩ := p
          clear hp
          obtain ⟨b, hb⟩ : ∃ b, Op.bytesLess pn dest = b := ⟨_, rfl⟩
          have HB' := Aside0.mk (show before pn dest = b by rw [← hb]; exact HBL.out)
          cases b with
          | true =>
            have HK2 := HKN.out HB'.out
            go_wp2
            go_roundw
            case rel => exact ⟨k + 1, by omega, by go_num, HK2, ⟨trivial⟩⟩
            case measure => simp [intOf]; omega
          | false =>
            have HI := HFN.out HB'.out
            clear HEND HKN HFN
            go_wp2
            have hk0 : (0 : Int) ≤ (k : Int) := by omega
            have hk1 : (k : Int) ≤ (out.length : Int) := by omega
            have hk2 : (out.length : Int) ≤ (c : Int) := by have := HCP.out; omega
            have hk3 : (k : Int) ≤ (c : Int) := by omega
            have HTK := Aside0.mk (fun X (hX : Below wr.heap.size wr X) => partTake (HR9.out.at_.below hX) k hk)
            have HDK := Aside0.mk (fun X (hX : Below wr.heap.size wr X) => partDrop2 (c := c) (HR9.out.at_.below hX) k hk HCP.out)
            have HBWr := Aside0.mk (show Below wr.heap.size wr wr from Below.refl _ _)
            have HLT := Aside0.mk (show k = (out.take k).length by rw [List.length_take]; omega)
            have HZ := Aside0.mk (show Wb.heap.size ≤ wr.heap.size from HR9.out.below.size)
            have HBB := Aside0.mk (show Below Wb.heap.size Wb wr from HR9.out.below)
            have HL3 := Aside0.mk hol3
            have H2 := Aside0.mk hk
            clear hol3 hk
            go_region_law (first
              | (refine stepE rfl (.tmp 78) (.tmp 81) rfl (w0 := wr) (v := .slice (some ⟨_, 0, none⟩) 0 0) (l := []) (by first | (simp [Act.eval, Act.put]; done) | (simp [Act.eval, Act.put]; rfl)) (ERow.empty (by repeat (first | with_reducible exact at_new _ (by simp) | with_reducible apply at_drew | with_reducible refine at_old _ ?_)) (by simp) (by repeat (first | exact HBWr.out | apply below_drew1 | refine below_alloc ?_ _))) (l2 := out.take k) (A := some ⟨g, 0, none⟩) (m := k) (c := c) (by first | (simp [Act.eval, Act.put]; done) | (simp [Act.eval, Act.put]; rfl)) HLT.out (fun h => by cases h) (HTK.out _ (by repeat (first | exact HBWr.out | apply below_drew1 | refine below_alloc ?_ _))) (by have := HL3.out; have := H2.out; simp only [List.length_nil]; omega) ?_; intro v1 w1 h1 g1; have HE1 := Aside0.mk h1; have HG1 := Aside0.mk g1; obtain ⟨A1, n1, c1, rfl⟩ := h1.three; clear h1 g1)
              | (refine stepE rfl (.tmp 82) (.tmp 86) rfl (w0 := wr) (v := .slice A1 n1 c1) (l := [] ++ out.take k) (by first | (simp [Act.eval, Act.put]; done) | (simp [Act.eval, Act.put]; rfl)) (by first | with_reducible exact HE1.out | with_reducible exact HE1.out.step (below_alloc (Below.refl _ _) _)) (l2 := [(dest, xf)]) (A := some ⟨_, 0, none⟩) (m := 1) (c := 1) (by first | (simp [Act.eval, Act.put]; done) | (simp [Act.eval, Act.put]; rfl)) rfl (fun h => by cases h) (by first | exact news_here (by repeat (first | with_reducible exact at_new _ (by simp) | with_reducible apply at_drew | with_reducible refine at_old _ ?_)) | exact news_far HG1.out (by repeat (first | with_reducible exact at_new _ (by simp) | with_reducible apply at_drew | with_reducible refine at_old _ ?_)) (by simp [Value.ownBlock])) (by have := HL3.out; have := H2.out; simp only [List.length_append, List.length_nil, List.length_take]; omega) ?_; intro v2 w2 h1 g1; have HE2 := Aside0.mk h1; obtain ⟨A2, n2, c2, rfl⟩ := h1.three; clear h1 g1)
              | (refine stepE rfl (.tmp 87) (.tmp 90) rfl (w0 := wr) (v := .slice A2 n2 c2) (l := [] ++ out.take k ++ [(dest, xf)]) (by first | (simp [Act.eval, Act.put]; done) | (simp [Act.eval, Act.put]; rfl)) HE2.out (l2 := out.drop k) (A := if c = k then some ⟨g, 0, none⟩ else some ⟨g, k * 2, none⟩) (m := out.length - k) (c := c - k) (by first | (simp [Act.eval, Act.put]; done) | (simp [Act.eval, Act.put]; rfl)) (by simp) (fun h => (sel_none h).elim) (HDK.out _ HE2.out.below) (by have := HL3.out; have := H2.out; simp only [List.length_append, List.length_nil, List.length_take, List.length_cons]; omega) ?_; intro v3 w3 h1 g1; have HE3 := Aside0.mk h1; clear h1 g1))
            all_goals
              go_wp2
              all_goals
                go_ret
                rw [HD.out, HI.out]
                have h3 := HE3.out
                rw [List.nil_append, List.append_assoc, List.singleton_append] at h3
                exact ⟨_, rfl, own_weaken h3.row (Nat.le_trans HBW.out.size HZ.out), chain' HBW.out (chain' HBB.out h3.below)⟩
        · have HI := HEND.out (fun h => absurd h hlt)
          clear HEND
          go_wp2
          have hk0 : (0 : Int) ≤ (k : Int) := by omega
          have hk1 : (k : Int) ≤ (out.length : Int) := by omega
          have hk2 : (out.length : Int) ≤ (c : Int) := by have := HCP.out; omega
          have hk3 : (k : Int) ≤ (c : Int) := by omega
          have HTK := Aside0.mk (fun X (hX : Below wr.heap.size wr X) => partTake (HR9.out.at_.below hX) k hk)
          have HDK := Aside0.mk (fun X (hX : Below wr.heap.size wr X) => partDrop2 (c := c) (HR9.out.at_.below hX) k hk HCP.out)
          have HBWr := Aside0.mk (show Below wr.heap.size wr wr from Below.refl _ _)
          have HLT := Aside0.mk (show k = (out.take k).length by rw [List.length_take]; omega)
          have HZ := Aside0.mk (show Wb.heap.size ≤ wr.heap.size from HR9.out.below.size)
          have HBB := Aside0.mk (show Below Wb.heap.size Wb wr from HR9.out.below)
          have HL3 := Aside0.mk hol3
          have H2 := Aside0.mk hk
          clear hol3 hk
          go_region_law (first
            | (refine stepE rfl (.tmp 78) (.tmp 81) rfl (w0 := wr) (v := .slice (some ⟨_, 0, none⟩) 0 0) (l := []) (by first | (simp [Act.eval, Act.put]; done) | (simp [Act.eval, Act.put]; rfl)) (ERow.empty (by repeat (first | with_reducible exact at_new _ (by simp) | with_reducible apply at_drew | with_reducible refine at_old _ ?_)) (by simp) (by repeat (first | exact HBWr.out | apply below_drew1 | refine below_alloc ?_ _))) (l2 := out.take k) (A := some ⟨g, 0, none⟩) (m := k) (c := c) (by first | (simp [Act.eval, Act.put]; done) | (simp [Act.eval, Act.put]; rfl)) HLT.out (fun h => by cases h) (HTK.out _ (by repeat (first | exact HBWr.out | apply below_drew1 | refine below_alloc ?_ _))) (by have := HL3.out; have := H2.out; simp only [List.length_nil]; omega) ?_; intro v1 w1 h1 g1; have HE1 := Aside0.mk h1; have HG1 := Aside0.mk g1; obtain ⟨A1, n1, c1, rfl⟩ := h1.three; clear h1 g1)
            | (refine stepE rfl (.tmp 82) (.tmp 86) rfl (w0 := wr) (v := .slice A1 n1 c1) (l := [] ++ out.take k) (by first | (simp [Act.eval, Act.put]; done) | (simp [Act.eval, Act.put]; rfl)) (by first | with_reducible exact HE1.out | with_reducible exact HE1.out.step (below_alloc (Below.refl _ _) _)) (l2 := [(dest, xf)]) (A := some ⟨_, 0, none⟩) (m := 1) (c := 1) (by first | (simp [Act.eval, Act.put]; done) | (simp [Act.eval, Act.put]; rfl)) rfl (fun h => by cases h) (by first | exact news_here (by repeat (first | with_reducible exact at_new _ (by simp) | with_reducible apply at_drew | with_reducible refine at_old _ ?_)) | exact news_far HG1.out (by repeat (first | with_reducible exact at_new _ (by simp) | with_reducible apply at_drew | with_reducible refine at_old _ ?_)) (by simp [Value.ownBlock])) (by have := HL3.out; have := H2.out; simp only [List.length_append, List.length_nil, List.length_take]; omega) ?_; intro v2 w2 h1 g1; have HE2 := Aside0.mk h1; obtain ⟨A2, n2, c2, rfl⟩ := h1.three; clear h1 g1)
            | (refine stepE rfl (.tmp 87) (.tmp 90) rfl (w0 := wr) (v := .slice A2 n2 c2) (l := [] ++ out.take k ++ [(dest, xf)]) (by first | (simp [Act.eval, Act.put]; done) | (simp [Act.eval, Act.put]; rfl)) HE2.out (l2 := out.drop k) (A := if c = k then some ⟨g, 0, none⟩ else some ⟨g, k * 2, none⟩) (m := out.length - k) (c := c - k) (by first | (simp [Act.eval, Act.put]; done) | (simp [Act.eval, Act.put]; rfl)) (by simp) (fun h => (sel_none h).elim) (HDK.out _ HE2.out.below) (by have := HL3.out; have := H2.out; simp only [List.length_append, List.length_nil, List.length_take, List.length_cons]; omega) ?_; intro v3 w3 h1 g1; have HE3 := Aside0.mk h1; clear h1 g1))
          all_goals
            go_wp2
            all_goals
              go_ret
              rw [HD.out, HI.out]
              have h3 := HE3.out
              rw [List.nil_append, List.append_assoc, List.singleton_append] at h3
              exact ⟨_, rfl, own_weaken h3.row (Nat.le_trans HBW.out.size HZ.out), chain' HBW.out (chain' HBB.out h3.below)⟩
set_option maxHeartbeats 4000000 in
set_option maxRecDepth 100000 in
theorem doneIs3 {W : World} (l : Dir) (hs : Sorted l) (hl : l.length ≤ 1000000) (A : Option Addr) (cc : Nat) (h : EntsAt W A l) (src dest : Nm) (fi : Nat) (hm : mayC l ⟨3, src, dest, fi⟩) :
    Calls Try.prog 56 #[.slice A l.length cc, .agg #[.int .i64 3, .string (S src), .string (S dest), .int .i64 (fi : Int)]] W fun e W' => ∃ v, e = .returned v ∧ ERow W v (doneR l ⟨3, src, dest, fi⟩) W' := by
  obtain ⟨Wb, hWb⟩ : ∃ Wb, W.alloc (.cells #[.int .i64 3, .string (S src), .string (S dest), .int .i64 (fi : Int)] 86) = Wb := ⟨_, rfl⟩
  have HWb := Aside0.mk hWb
  have HBW := Aside0.mk (show Below W.heap.size W Wb by rw [← hWb]; exact below_alloc (Below.refl _ _) _)
  have HC := Aside0.mk (fun X (hX : Below Wb.heap.size Wb X) => show X.cell? ⟨W.heap.size, 0, none⟩ = some (.int .i64 3) ∧ X.cell? ⟨W.heap.size, 1, none⟩ = some (.string (S src)) ∧ X.cell? ⟨W.heap.size, 2, none⟩ = some (.string (S dest)) ∧ X.cell? ⟨W.heap.size, 3, none⟩ = some (.int .i64 (fi : Int)) by
    subst hWb
    exact ⟨boxAt (j := 0) hX rfl, boxAt (j := 1) hX rfl, boxAt (j := 2) hX rfl, boxAt (j := 3) hX rfl⟩)
  have HE := Aside0.mk (fun X (hX : Below Wb.heap.size Wb X) => h.below (chain' HBW.out hX))
  have HS := Aside0.mk hs
  have HM := Aside0.mk hm
  clear hWb h hs hm
  go_enter Try.func56, Try.ntmps56
  go_wp2
  rw [HWb.out]
  go_loopw [5, 6, 7] (fun v5 v6 v7 wr => ∃ (i g c : Nat) (out : Dir) (fv : Int), i ≤ l.length ∧ v7 = .int .i64 i ∧ v5 = .slice (some ⟨g, 0, none⟩) out.length c ∧ v6 = .int .i64 fv ∧ out.length ≤ i ∧ Aside0 (out = outR (l.take i) ⟨3, src, dest, fi⟩) ∧ Aside0 (fv = fileI (get (l.take i) src)) ∧ Aside0 (ERow Wb v5 out wr)) (fun _ _ v7 _ => l.length - (intOf v7).toNat)
  case atStart =>
    have hz : Wb.heap.size = W.heap.size + 1 := by rw [← HWb.out]; simp
    have h1 := ERow.made (Below.refl Wb.heap.size Wb)
    rw [hz] at h1
    exact ⟨0, _, 0, [], -1, by omega, rfl, rfl, rfl, by simp, ⟨rfl⟩, ⟨rfl⟩, ⟨h1⟩⟩
  case round =>
    obtain ⟨i, g, c, out, fv, hi, rfl, rfl, rfl, hol, HO, HF, HR⟩ := hrel
    obtain ⟨c0, c1, c2, c3⟩ := HC.out _ HR.out.below
    by_cases hlt : i < l.length
    · obtain ⟨gl, rfl, -, k0, k1⟩ := (HE.out _ HR.out.below) i hlt
      have HSN := Aside0.mk (outR_snoc l ⟨3, src, dest, fi⟩ i hlt)
      have HGN := Aside0.mk (show get (l.take (i + 1)) src = match get (l.take i) src with | some x => some x | none => if l[i].1 = src then some l[i].2 else none by rw [List.take_add_one, List.getElem?_eq_getElem hlt, Option.toList_some, get_snoc]; rfl)
      have HNO := Aside0.mk (sorted_get HS.out hlt)
      obtain ⟨p, hp⟩ : ∃ p, l[i] = p := ⟨_, rfl⟩
      simp only [hp] at k0 k1 HSN HGN HNO
      obtain ⟨pn, pf⟩ := p
      clear hp
      by_cases hs : pn = src
      · subst hs
        go_wp2
        go_quiet (fail)
        go_wp2
        go_roundw
        case rel => exact ⟨i + 1, g, c, out, pf, by omega, by go_num, rfl, rfl, by omega, ⟨by rw [HSN.out, if_pos (by simp), List.append_nil]; exact HO.out⟩, ⟨by rw [HGN.out, HNO.out]; simp [fileI]⟩, ⟨HR.out.step (pw_below_drewN (Below.refl _ _) _)⟩⟩
        case measure => simp [intOf]; omega
      · have hne : (pn == src) = false := by simpa using hs
        have HNS := Aside0.mk hs
        have HFN := Aside0.mk (show fv = fileI (get (l.take (i + 1)) src) by
          rw [HF.out, HGN.out]
          cases get (l.take i) src with
          | some x => rfl
          | none => simp [hs])
        clear hs HNO HGN
        have HSN2 := Aside0.mk (show outR (l.take (i + 1)) ⟨3, src, dest, fi⟩ = out ++ [(pn, pf)] by rw [HSN.out, HO.out, if_neg (fun h => h.elim HNS.out (fun h2 => absurd h2.1 (by simp)))])
        have key : ∀ (W2 : World) (v1 : Value), ERow Wb v1 (out ++ [(pn, pf)]) W2 → ∃ (i' g c : Nat) (out' : Dir) (fv' : Int), i' ≤ l.length ∧ (Value.int .i64 ((i : Int) + 1) : Value) = .int .i64 i' ∧ v1 = .slice (some ⟨g, 0, none⟩) out'.length c ∧ (Value.int .i64 fv : Value) = .int .i64 fv' ∧ out'.length ≤ i' ∧ Aside0 (out' = outR (l.take i') ⟨3, src, dest, fi⟩) ∧ Aside0 (fv' = fileI (get (l.take i') src)) ∧ Aside0 (ERow Wb v1 out' W2) := fun W2 v1 h => by
          obtain ⟨g', c', e⟩ := h.form (by simp)
          exact ⟨i + 1, g', c', _, fv, by omega, by go_num, e, rfl, by simp; omega, ⟨HSN2.out.symm⟩, HFN, ⟨h⟩⟩
        have HKEY := Aside0.mk key
        have hol2 : out.length ≤ 1000000000000 := by omega
        clear key
        go_wp2
        go_quiet (fail)
        go_wp2
        go_quiet (fail)
        go_wp2_with (at_builtin; refine appendE (HR.out.step (below_alloc (pw_below_drewN (Below.refl _ _) _) _)) (pn, pf) hol2 rfl _ _ rfl rfl _ 1 rfl (entNew _ _ _ _ _ (by simp)) ?_; rintro v1 W4 h; have HR4 := Aside0.mk h; clear h)
        go_roundw
        case rel => exact HKEY.out _ _ HR4.out
        case measure => simp [intOf]; omega
    · have HOE := Aside0.mk (show out = outR l ⟨3, src, dest, fi⟩ by rw [HO.out, List.take_of_length_le (by omega)])
      have HFE := Aside0.mk (show fv = fileI (get l src) by rw [HF.out, List.take_of_length_le (by omega)])
      clear HO HF
      go_wp2
      go_ret
      have e : doneR l ⟨3, src, dest, fi⟩ = out := by rw [HOE.out]; rfl
      rw [e]
      exact ⟨_, rfl, own_weaken HR.out.row HBW.out.size, chain' HBW.out HR.out.below⟩
theorem doneIs {W : World} (l : Dir) (hs : Sorted l) (hl : l.length ≤ 1000000) (A : Option Addr) (cc : Nat) (h : EntsAt W A l) (K : Nat) (src dest : Nm) (fi : Nat) (hkd : K = 1 ∨ K = 2 ∨ K = 3) (hm : mayC l ⟨K, src, dest, fi⟩) :
    Calls Try.prog 56 #[.slice A l.length cc, .agg #[.int .i64 (K : Int), .string (S src), .string (S dest), .int .i64 (fi : Int)]] W fun e W' => ∃ v, e = .returned v ∧ ERow W v (doneR l ⟨K, src, dest, fi⟩) W' := by
  rcases hkd with rfl | rfl | rfl
  · exact doneIs1 l hs hl A cc h src dest fi hm
  · exact doneIs2 l hs hl A cc h src dest fi hm
  · exact doneIs3 l hs hl A cc h src dest fi hm
end Go.Proofs.Ytibmgcihpbofdaa.Fs
