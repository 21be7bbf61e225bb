/- script: read. -/
import Derived.Test.YtkcdlfkicopmoaaDoorScrCuts
namespace Go.Proofs.YtkcdlfkicopmoaaDoor.Fs
open Go.RowKit Go.Proofs.YtkcdlfkicopmoaaDoor Go.Proofs.YtkcdlfkicopmoaaDoor.Plain Go.Proofs.YtkcdlfkicopmoaaDoorW.PrintWords Go.Maps
set_option linter.unusedVariables false
set_option linter.unusedSimpArgs false
theorem infoStep : (Tryd.prog.info? 39).map (fun i => i.size) = some 4 := by kernel_rfl
/-- a result that lies in a cell -/
theorem resStep {fn : Func} {a t : Tmp} (h : fn.results = #[.cell a 39, .tmp t]) (tmps : Array Value) {w : World} {b : Nat} {v0 v1 v2 v3 : Value} (ha : tmps.getD a undef = .pointer (some ⟨b, 0, none⟩))
    (hc : w.cell? ⟨b, 0, none⟩ = some v0 ∧ w.cell? ⟨b, 1, none⟩ = some v1 ∧ w.cell? ⟨b, 2, none⟩ = some v2 ∧ w.cell? ⟨b, 3, none⟩ = some v3) :
    (results fn tmps).run Tryd.prog w = .ok (.tuple #[.agg #[v0, v1, v2, v3], tmps.getD t undef]) w := by
  obtain ⟨h0, h1, h2, h3⟩ := hc
  obtain ⟨i, hi, hs⟩ := Option.map_eq_some_iff.1 infoStep
  have hu := run_underlying (P := Tryd.prog) Tryd.underlying39
  have ha' : tmps[a]?.getD undef = .pointer (some ⟨b, 0, none⟩) := by simpa using ha
  simp only [results, h]
  simp [ha', asAddr, loadVar, isAgg, hu, sizeOf, typeInfo, hi, hs, loadCells, loadCellsFrom, h0, h1, h2, h3, go_sem]
theorem fourCells {X : World} {b : Nat} {c0 c1 c2 c3 : Value} {t : TypeId} (h : X.heap[b]? = some (.cells #[c0, c1, c2, c3] t (0, 0))) :
    (X.cell? ⟨b, 0, none⟩ = some c0 ∧ X.cell? ⟨b, 1, none⟩ = some c1 ∧ X.cell? ⟨b, 2, none⟩ = some c2 ∧ X.cell? ⟨b, 3, none⟩ = some c3) ∧
    (X.frozen? ⟨b, 0, none⟩ = false ∧ X.frozen? ⟨b, 1, none⟩ = false ∧ X.frozen? ⟨b, 2, none⟩ = false ∧ X.frozen? ⟨b, 3, none⟩ = false) := by
  constructor
  · unfold World.cell?
    simp only []
    rw [h]
    exact ⟨rfl, rfl, rfl, rfl⟩
  · unfold World.frozen?
    simp only []
    rw [h]
    exact ⟨rfl, rfl, rfl, rfl⟩
def zeroS : StepD := ⟨0, 0, 0, []⟩
def readX (s : Nm) : StepD := (readP s).getD zeroS
def readO (s : Nm) : Bool := (readP s).isSome
/-- three numbers of four parts -/
theorem nums3 (w X : World) (p0 p1 p2 p3 : Nm) (a0 a1 a2 : Int) (ha0 : atoiVal p0 = a0) (ha1 : atoiVal p1 = a1) (ha2 : atoiVal p2 = a2) (b1 b2 b3 : Nat) (hB : Below w.heap.size w X) (hb0 : w.heap.size ≤ b2) (hb : X.heap[b2]? = some (.cells #[.int .i64 0, .int .i64 0, .int .i64 0, .string ⟨#[]⟩] 39 (0, 0)))
    (hA : NamesAt X (some ⟨b1, 0, none⟩) [p0, p1, p2, p3]) (h12 : b1 ≠ b2) (hpl : ∀ p ∈ [p0, p1, p2, p3], p.length ≤ 1099511627776) (hP : PtrsAt X (some ⟨b3, 0, none⟩) b2 0 3) (h32 : b3 ≠ b2) (hG : GI w) :
    Calls Tryd.prog 31 #[.slice (some ⟨b1, 0, none⟩) 4 4, .slice (some ⟨b3, 0, none⟩) 3 3] X fun e W' => e = .returned (.tuple #[]) ∧ Below w.heap.size w W' ∧ Apart b2 X W' ∧ W'.heap[b2]? = some (.cells #[.int .i64 a0, .int .i64 a1, .int .i64 a2, .string ⟨#[]⟩] 39 (0, 0)) := by
  have h := numbersIs (some ⟨b1, 0, none⟩) 4 4 [p0, p1, p2, p3] rfl (some ⟨b3, 0, none⟩) 3 3 w b2 0 _ _ X hB hb0 hb (by decide) (show 3 ≤ 4 by omega) (by omega) hA (fun a e => by cases e; exact h12) hpl hP (fun a e => by cases e; exact h32) hG
  refine h.mono ?_
  rintro e W' ⟨rfl, k1, k2, k3⟩
  refine ⟨rfl, k1, k2, ?_⟩
  rw [k3, ← ha0, ← ha1, ← ha2]
  rfl
theorem carry {W X : World} {k : Nat} {o : Obj} (hb : Below W.heap.size W X) (h : W.heap[k]? = some o) : X.heap[k]? = some o := (hb.block k (Array.getElem?_eq_some_iff.1 h).1).trans h
theorem ptrs3 {X : World} {b b2 : Nat} {t : TypeId} {fr : Nat × Nat} (h : X.heap[b]? = some (.cells #[.pointer (some ⟨b2, 0, none⟩), .pointer (some ⟨b2, 1, none⟩), .pointer (some ⟨b2, 2, none⟩)] t fr)) : PtrsAt X (some ⟨b, 0, none⟩) b2 0 3 := by
  intro j hj
  refine ⟨_, rfl, ?_⟩
  have h5 : (⟨b, 0, none⟩ : Addr).add j = ⟨b, j, none⟩ := by unfold Addr.add; split <;> simp_all
  rw [h5]
  unfold World.cell?
  simp only []
  rw [h]
  have : j = 0 ∨ j = 1 ∨ j = 2 := by omega
  rcases this with rfl | rfl | rfl <;> rfl
theorem set3 {X : World} {b : Nat} {c0 c1 c2 c3 : Value} {t : TypeId} (T : Nm) (h : X.heap[b]? = some (.cells #[c0, c1, c2, c3] t (0, 0))) : (X.setCell ⟨b, 3, none⟩ (.string (S T))).heap[b]? = some (.cells #[c0, c1, c2, .string (S T)] t (0, 0)) :=
  heap_setCell_same X b 3 _ _ _ h
theorem set4 {X : World} {b : Nat} {c0 c1 c2 c3 v0 v1 v2 v3 : Value} {t : TypeId} (h : X.heap[b]? = some (.cells #[c0, c1, c2, c3] t (0, 0))) :
    ((((X.setCell ⟨b, 0, none⟩ v0).setCell ⟨b, 1, none⟩ v1).setCell ⟨b, 2, none⟩ v2).setCell ⟨b, 3, none⟩ v3).heap[b]? = some (.cells #[v0, v1, v2, v3] t (0, 0)) :=
  heap_setCell_same _ b 3 _ _ _ (heap_setCell_same _ b 2 _ _ _ (heap_setCell_same _ b 1 _ _ _ (heap_setCell_same X b 0 _ _ _ h)))
/-- the fourth part, behind the numbers -/
theorem partAt {w W4 : World} {z o4 : Obj} {p0 p1 p2 p3 : Nm} {o3 : Obj} {t : TypeId} (h : Apart (w.heap.size + 1 + 1) ((((w.alloc z).alloc (.cells (strs [p0, p1, p2, p3]).toArray t)).alloc o3).alloc o4) W4) : W4.cell? ⟨w.heap.size + 1, 3, none⟩ = some (.string (S p3)) := by
  have h1 : ((((w.alloc z).alloc (.cells (strs [p0, p1, p2, p3]).toArray t)).alloc o3).alloc o4).heap[w.heap.size + 1]? = some (.cells (strs [p0, p1, p2, p3]).toArray t) :=
    heapAt (by simp) (below_alloc (below_alloc (Below.refl _ _) _) _)
  have h2 := (h.block (w.heap.size + 1) (Array.getElem?_eq_some_iff.1 h1).1 (by omega)).trans h1
  unfold World.cell?
  simp only []
  rw [h2]
  rfl
theorem zeroAt4 {w W4 : World} {z o2 o3 o4 : Obj} (h : Apart (w.heap.size + 1 + 1) ((((w.alloc z).alloc o2).alloc o3).alloc o4) W4) : W4.heap[w.heap.size]? = some z := by
  have h1 : ((((w.alloc z).alloc o2).alloc o3).alloc o4).heap[w.heap.size]? = some z := heapAt rfl (below_alloc (below_alloc (below_alloc (Below.refl _ _) _) _) _)
  exact (h.block w.heap.size (Array.getElem?_eq_some_iff.1 h1).1 (by omega)).trans h1
set_option maxHeartbeats 2000000 in
set_option maxRecDepth 100000 in
theorem readIs (s : Nm) (hs : s.length ≤ 1073741824) (w : World) (hG : GI w) :
    Calls Tryd.prog 26 #[.string (S s)] w fun e W' => e = .returned (.tuple #[.agg #[.int .i64 (readX s).kind, .int .i64 (readX s).a, .int .i64 (readX s).b, .string (S (readX s).text)], .bool (readO s)]) ∧ Below w.heap.size w W' := by
  have HB0 := Aside0.mk (Below.refl w.heap.size w)
  have HG := Aside0.mk hG
  have XS := splitIs s (by omega) (w.alloc (.cells #[.int .i64 0, .int .i64 0, .int .i64 0, .string ⟨#[]⟩] 39)) (hG.below (below_alloc (Below.refl _ _) _))
  have HML := Aside0.mk (fun p (hp : p ∈ cuts 32 s) => Nat.le_trans (cuts_mem_length hp) hs)
  clear hG
  by_cases h4 : (cuts 32 s).length = 4
  · obtain ⟨p0, p1, p2, p3, hc⟩ : ∃ p0 p1 p2 p3, cuts 32 s = [p0, p1, p2, p3] := by
      match cuts 32 s, h4 with
      | [a, b, c, d], _ => exact ⟨a, b, c, d, rfl⟩
    have hrp : readP s = if stepL (stepOf p0 p1 p2 p3) = s ++ [10] then some (stepOf p0 p1 p2 p3) else none := by unfold readP; rw [hc]
    rw [hc] at XS HML
    have h3 := HML.out p3 (by simp)
    have hpl : ∀ p ∈ [p0, p1, p2, p3], p.length ≤ 1073741824 := HML.out
    have XU := Aside0.mk (fun X => unhexIs p3 (by omega) X)
    have hxt : (unhexT p3).length ≤ 1073741824 := by
      unfold unhexT
      cases hu : unhexB p3 with
      | none => simp
      | some t =>
        have := congrArg List.length (unhexB_iff.1 hu)
        rw [List.length_cons, hexL_length] at this
        show t.length ≤ _
        omega
    obtain ⟨T, hT⟩ : ∃ T, unhexT p3 = T := ⟨_, rfl⟩
    obtain ⟨O, hO⟩ : ∃ O, unhexO p3 = O := ⟨_, rfl⟩
    rw [hT] at XU hxt
    rw [hO] at XU
    have hsx : stepOf p0 p1 p2 p3 = ⟨atoiVal p0, atoiVal p1, atoiVal p2, T⟩ := by unfold stepOf; rw [hT]
    rw [hsx] at hrp
    have i0 := atoiVal_I64 p0
    have i1 := atoiVal_I64 p1
    have i2 := atoiVal_I64 p2
    obtain ⟨a0, ha0⟩ : ∃ a, atoiVal p0 = a := ⟨_, rfl⟩
    obtain ⟨a1, ha1⟩ : ∃ a, atoiVal p1 = a := ⟨_, rfl⟩
    obtain ⟨a2, ha2⟩ : ∃ a, atoiVal p2 = a := ⟨_, rfl⟩
    rw [ha0, ha1, ha2] at hrp
    rw [ha0] at i0
    rw [ha1] at i1
    rw [ha2] at i2
    have HST := Aside0.mk (fun (X : World) (hX : Below w.heap.size w X) => stepIs ⟨a0, a1, a2, T⟩ i0 i1 i2 hxt X (HG.out.below hX))
    have HNUM := Aside0.mk (fun (X : World) (b1 b2 b3 : Nat) (hB : Below w.heap.size w X) (hb0 : w.heap.size ≤ b2) (hb : X.heap[b2]? = some (.cells #[.int .i64 0, .int .i64 0, .int .i64 0, .string ⟨#[]⟩] 39 (0, 0))) (hA : NamesAt X (some ⟨b1, 0, none⟩) [p0, p1, p2, p3]) (h12 : b1 ≠ b2) (hP : PtrsAt X (some ⟨b3, 0, none⟩) b2 0 3) (h32 : b3 ≠ b2) =>
      nums3 w X p0 p1 p2 p3 a0 a1 a2 ha0 ha1 ha2 b1 b2 b3 hB hb0 hb hA h12 (fun p hp => Nat.le_trans (hpl p hp) (by omega)) hP h32 HG.out)
    obtain ⟨L, hL⟩ : ∃ L, stepL ⟨a0, a1, a2, T⟩ = L := ⟨_, rfl⟩
    rw [hL] at HST hrp
    have HRP := Aside0.mk hrp
    have HE := Aside0.mk (show S s ++ (⟨#[10]⟩ : ByteArray) = S (s ++ [10]) by rw [show (⟨#[10]⟩ : ByteArray) = S [10] from rfl, S_append])
    have HPL := Aside0.mk (fun p (hp : p ∈ [p0, p1, p2, p3]) => Nat.le_trans (hpl p hp) (show 1073741824 ≤ 140737488351232 by omega))
    clear hc hrp HML hpl h3 hT hO hsx i0 i1 i2 ha0 ha1 ha2 hL h4
    by_cases heq : L = s ++ [10]
    · have HX := Aside0.mk (show readX s = ⟨a0, a1, a2, T⟩ by unfold readX; rw [HRP.out, if_pos heq]; rfl)
      have HO := Aside0.mk (show readO s = true by unfold readO; rw [HRP.out, if_pos heq]; rfl)
      subst heq
      have heq2 : (S s ++ (⟨#[10]⟩ : ByteArray)).toList = s ++ [10] := by rw [HE.out, S_toList]
      clear HRP
      go_enter Tryd.func26, Tryd.ntmps26
      go_wp2_with (first
        | (go_at_call 30; refine XS.mono ?_; rintro e W1 ⟨rfl, rfl⟩)
        | (go_at_call 31; refine (HNUM.out _ (w.heap.size + 1) (w.heap.size + 1 + 1) (w.heap.size + 1 + 1 + 1) (below_alloc (below_alloc (below_alloc (below_alloc HB0.out _) _) _) _) (by omega) (heapAt (by simp) (below_alloc (Below.refl _ _) _)) (namesNew (heapAt (by simp) (below_alloc (below_alloc (Below.refl _ _) _) _)) rfl HPL.out) (by omega) (ptrs3 (heapAt (by simp) (Below.refl _ _))) (by omega)).mono ?_; rintro e W4 ⟨rfl, hb4, hap, hc4⟩; have hp3 := partAt hap; have hz4 := zeroAt4 hap; have HB4 := Aside0.mk hb4; have HC4 := Aside0.mk hc4; have HZ4 := Aside0.mk hz4; clear hb4 hap hc4 hz4)
        | (go_at_call 32; refine (XU.out _).mono ?_; rintro e W5 ⟨rfl, hb⟩; have hc5 := carry hb HC4.out; have hz5 := carry hb HZ4.out; obtain ⟨⟨k0, k1, k2, k3⟩, f0, f1, f2, f3⟩ := fourCells hc5; have HB5 := Aside0.mk (chain' HB4.out hb); have HC5 := Aside0.mk hc5; have HZ5 := Aside0.mk hz5; clear hb hc5 hz5)
        | (go_at_call 23; refine (HST.out _ (Below.setCell HB5.out (by show _ ≤ w.heap.size + 1 + 1; omega) _)).mono ?_; rintro e W6 ⟨rfl, hb⟩; have hc6 := carry hb (set3 T HC5.out); have hz6 := carry hb ((heap_setCell_other _ _ _ _ (by show w.heap.size ≠ w.heap.size + 1 + 1; omega)).trans HZ5.out); clear k0 k1 k2 k3 f0 f1 f2 f3; obtain ⟨⟨k0, k1, k2, k3⟩, -⟩ := fourCells hc6; obtain ⟨⟨z0, z1, z2, z3⟩, g0, g1, g2, g3⟩ := fourCells hz6; have HZ6 := Aside0.mk hz6; have HB6 := Aside0.mk (chain' (Below.setCell HB5.out (by show _ ≤ w.heap.size + 1 + 1; omega) _) hb); clear hb hc6 hz6))
      refine bodyPost_ret (resStep rfl _ rfl (fourCells (set4 HZ6.out)).1) rfl ?_
      rw [HX.out, HO.out]
      exact ⟨rfl, Below.setCell (Below.setCell (Below.setCell (Below.setCell HB6.out (Nat.le_refl _) _) (Nat.le_refl _) _) (Nat.le_refl _) _) (Nat.le_refl _) _⟩
    · have HX := Aside0.mk (show readX s = zeroS by unfold readX; rw [HRP.out, if_neg heq]; rfl)
      have HO := Aside0.mk (show readO s = false by unfold readO; rw [HRP.out, if_neg heq]; rfl)
      have heq2 : (S s ++ (⟨#[10]⟩ : ByteArray)).toList = s ++ [10] := by rw [HE.out, S_toList]
      have hne : (L == s ++ [10]) = false := by simpa using heq
      clear HRP heq
      go_enter Tryd.func26, Tryd.ntmps26
      go_wp2_with (first
        | (go_at_call 30; refine XS.mono ?_; rintro e W1 ⟨rfl, rfl⟩)
        | (go_at_call 31; refine (HNUM.out _ (w.heap.size + 1) (w.heap.size + 1 + 1) (w.heap.size + 1 + 1 + 1) (below_alloc (below_alloc (below_alloc (below_alloc HB0.out _) _) _) _) (by omega) (heapAt (by simp) (below_alloc (Below.refl _ _) _)) (namesNew (heapAt (by simp) (below_alloc (below_alloc (Below.refl _ _) _) _)) rfl HPL.out) (by omega) (ptrs3 (heapAt (by simp) (Below.refl _ _))) (by omega)).mono ?_; rintro e W4 ⟨rfl, hb4, hap, hc4⟩; have hp3 := partAt hap; have hz4 := zeroAt4 hap; have HB4 := Aside0.mk hb4; have HC4 := Aside0.mk hc4; have HZ4 := Aside0.mk hz4; clear hb4 hap hc4 hz4)
        | (go_at_call 32; refine (XU.out _).mono ?_; rintro e W5 ⟨rfl, hb⟩; have hc5 := carry hb HC4.out; have hz5 := carry hb HZ4.out; obtain ⟨⟨k0, k1, k2, k3⟩, f0, f1, f2, f3⟩ := fourCells hc5; have HB5 := Aside0.mk (chain' HB4.out hb); have HC5 := Aside0.mk hc5; have HZ5 := Aside0.mk hz5; clear hb hc5 hz5)
        | (go_at_call 23; refine (HST.out _ (Below.setCell HB5.out (by show _ ≤ w.heap.size + 1 + 1; omega) _)).mono ?_; rintro e W6 ⟨rfl, hb⟩; have hc6 := carry hb (set3 T HC5.out); have hz6 := carry hb ((heap_setCell_other _ _ _ _ (by show w.heap.size ≠ w.heap.size + 1 + 1; omega)).trans HZ5.out); clear k0 k1 k2 k3 f0 f1 f2 f3; obtain ⟨⟨k0, k1, k2, k3⟩, -⟩ := fourCells hc6; obtain ⟨⟨z0, z1, z2, z3⟩, g0, g1, g2, g3⟩ := fourCells hz6; have HZ6 := Aside0.mk hz6; have HB6 := Aside0.mk (chain' (Below.setCell HB5.out (by show _ ≤ w.heap.size + 1 + 1; omega) _) hb); clear hb hc6 hz6))
      refine bodyPost_ret (resStep rfl _ rfl (fourCells (set4 HZ6.out)).1) rfl ?_
      rw [HX.out, HO.out]
      exact ⟨rfl, Below.setCell (Below.setCell (Below.setCell (Below.setCell HB6.out (Nat.le_refl _) _) (Nat.le_refl _) _) (Nat.le_refl _) _) (Nat.le_refl _) _⟩
  · have e : readP s = none := by
      unfold readP
      split
      · rename_i h; rw [h] at h4; exact absurd rfl h4
      · rfl
    have HX := Aside0.mk (show readX s = zeroS by unfold readX; rw [e]; rfl)
    have HO := Aside0.mk (show readO s = false by unfold readO; rw [e]; rfl)
    obtain ⟨n, hn⟩ : ∃ n, (cuts 32 s).length = n := ⟨_, rfl⟩
    obtain ⟨ps, hps⟩ : ∃ ps, cuts 32 s = ps := ⟨_, rfl⟩
    rw [hn, hps] at XS
    rw [hn] at h4
    have hne : ((n : Int) == 4) = false := by simp only [beq_eq_false_iff_ne, ne_eq]; omega
    clear e hn hps
    go_enter Tryd.func26, Tryd.ntmps26
    go_wp2_with (go_at_call 30; refine XS.mono ?_; rintro e W1 ⟨rfl, rfl⟩)
    refine bodyPost_ret (resStep rfl _ rfl (fourCells (heapAt rfl (below_alloc (Below.refl _ _) _))).1) rfl ?_
    rw [HX.out, HO.out]
    exact ⟨rfl, below_alloc (below_alloc HB0.out _) _⟩
end Go.Proofs.YtkcdlfkicopmoaaDoor.Fs
