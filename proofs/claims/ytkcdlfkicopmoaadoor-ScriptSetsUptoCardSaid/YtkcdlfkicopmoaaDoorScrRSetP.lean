/- ref27: Set: plain law. -/
import Derived.Test.YtkcdlfkicopmoaaDoorScrRR
import Derived.Test.YtkcdlfkicopmoaaDoorScrRSetting
namespace Go.Proofs.YtkcdlfkicopmoaaDoor.Fs
open Go.RowKit Go.Proofs.YtkcdlfkicopmoaaDoor Go.Proofs.YtkcdlfkicopmoaaDoor.Plain Go.Proofs.YtkcdlfkicopmoaaDoorW.PrintWords Go.Maps
set_option linter.unusedVariables false
set_option linter.unusedSimpArgs false
theorem trim_end (x : Nm) : trimL (x ++ [10]) = x := by
  unfold trimL Lib.trimSuffix Lib.hasSuffix
  simp
theorem setP_parts {s : Nm} {c : ConfD} (h : setP s = some c) : s = settingL c ∧ ∀ n ∈ c.ints, I64 n := by
  unfold setP at h
  split at h
  · rename_i c' hc'
    split at h
    · rename_i he
      cases h
      refine ⟨he.symm, ?_⟩
      unfold confOf at hc'
      split at hc'
      · cases hc'
        intro n hn
        simp only [ConfD.ints, List.mem_cons, List.not_mem_nil, or_false] at hn
        rcases hn with rfl | rfl | rfl | rfl | rfl | rfl | rfl | rfl | rfl | rfl <;> exact atoiVal_I64 _
      · cases hc'
    · cases h
  · cases h
theorem setP_end {s : Nm} {c : ConfD} (h : setP s = some c) : ∃ x, s = x ++ [10] ∧ cuts 32 x = allW c ∧ ∀ n ∈ c.ints, I64 n := by
  obtain ⟨e, hI⟩ := setP_parts h
  refine ⟨Lib.join (allW c) [32], e.trans (settingL_eq c), ?_, hI⟩
  have := cuts_setting c
  rw [trim_setting] at this
  exact this
theorem setP_nil : setP [] = none := by
  cases h : setP [] with
  | none => rfl
  | some c => obtain ⟨x, e, -⟩ := setP_end h; have := congrArg List.length e; simp at this
theorem setP_last {x : Nm} {b : UInt8} (hb : b ≠ 10) : setP (x ++ [b]) = none := by
  cases h : setP (x ++ [b]) with
  | none => rfl
  | some c =>
    obtain ⟨y, e, -⟩ := setP_end h
    have := List.append_inj_right' e rfl
    exact absurd (by simpa using this) hb
theorem setP_cuts {x : Nm} {c : ConfD} (h : setP (x ++ [10]) = some c) : cuts 32 x = allW c ∧ ∀ n ∈ c.ints, I64 n := by
  obtain ⟨y, e, h1, h2⟩ := setP_end h
  rw [List.append_cancel_right e]
  exact ⟨h1, h2⟩
theorem allW_eq (c : ConfD) : allW c = Lib.itoa c.i0 :: Lib.itoa c.i1 :: Lib.itoa c.i2 :: Lib.itoa c.i3 :: Lib.itoa c.i4 :: Lib.itoa c.i5 :: Lib.itoa c.i6 :: Lib.itoa c.i7 :: Lib.itoa c.i8 :: Lib.itoa c.i9 :: (120 :: hexL c.host) :: Lib.itoa (c.locals.length : Int) :: c.locals.map fun t => 120 :: hexL t := rfl
theorem setP_short {x : Nm} (h : (cuts 32 x).length < 12) : setP (x ++ [10]) = none := by
  cases hr : setP (x ++ [10]) with
  | none => rfl
  | some c => rw [(setP_cuts hr).1, allW_eq] at h; simp at h; omega
theorem unhexO_hex (t : Nm) : unhexO (120 :: hexL t) = true := by unfold unhexO; rw [unhexB_iff.2 rfl]; rfl
theorem numV_itoa {n : Int} (h : I64 n) : numV (Lib.itoa n) = n := by unfold numV; rw [numP_itoa h]; rfl
theorem setP_all {x : Nm} {c : ConfD} (h : setP (x ++ [10]) = some c) (hx : x.length ≤ 268435456) {p0 p1 p2 p3 p4 p5 p6 p7 p8 p9 p10 p11 : Nm} {qs : List Nm} (hc : cuts 32 x = p0 :: p1 :: p2 :: p3 :: p4 :: p5 :: p6 :: p7 :: p8 :: p9 :: p10 :: p11 :: qs) :
    (∀ p ∈ [p0, p1, p2, p3, p4, p5, p6, p7, p8, p9], numO p = true) ∧ unhexO p10 = true ∧ numO p11 = true ∧ numV p11 = (qs.length : Int) ∧ ∀ q ∈ qs, unhexO q = true := by
  obtain ⟨e, hI⟩ := setP_cuts h
  have hl := cuts_length 32 x
  rw [hc] at e hl
  rw [allW_eq] at e
  simp only [List.cons.injEq] at e
  obtain ⟨e0, e1, e2, e3, e4, e5, e6, e7, e8, e9, e10, e11, eq⟩ := e
  have hql : qs.length = c.locals.length := by rw [eq, List.length_map]
  simp only [List.length_cons] at hl
  have hI11 : I64 (c.locals.length : Int) := ⟨by omega, by omega⟩
  subst e0 e1 e2 e3 e4 e5 e6 e7 e8 e9 e10 e11
  refine ⟨?_, unhexO_hex _, numO_itoa hI11, by rw [numV_itoa hI11, hql], ?_⟩
  · intro p hp
    simp only [List.mem_cons, List.not_mem_nil, or_false] at hp
    rcases hp with rfl | rfl | rfl | rfl | rfl | rfl | rfl | rfl | rfl | rfl <;> exact numO_itoa (hI _ (by simp [ConfD.ints]))
  · intro q hq
    rw [eq] at hq
    obtain ⟨t, _, rfl⟩ := List.mem_map.1 hq
    exact unhexO_hex t
theorem itoa_of {p : Nm} (h : numO p = true) : p = Lib.itoa (numV p) ∧ I64 (numV p) := numP_iff.1 (numO_some h)
theorem setP_make {x p0 p1 p2 p3 p4 p5 p6 p7 p8 p9 p10 p11 : Nm} {qs : List Nm} (hc : cuts 32 x = p0 :: p1 :: p2 :: p3 :: p4 :: p5 :: p6 :: p7 :: p8 :: p9 :: p10 :: p11 :: qs)
    (hn : ∀ p ∈ [p0, p1, p2, p3, p4, p5, p6, p7, p8, p9], numO p = true) (h10 : unhexO p10 = true) (h11 : numO p11 = true) (hv : numV p11 = (qs.length : Int)) (hq : ∀ q ∈ qs, unhexO q = true) :
    setP (x ++ [10]) = some ⟨unhexT p10, qs.map unhexT, numV p0, numV p1, numV p2, numV p3, numV p4, numV p5, numV p6, numV p7, numV p8, numV p9⟩ := by
  have hqs : qs = (qs.map unhexT).map fun t => 120 :: hexL t := by
    rw [List.map_map]
    conv => lhs; rw [← List.map_id qs]
    exact List.map_congr_left (fun q h => by show q = _; exact unhexB_iff.1 (unhexO_some (hq q h)))
  have key : settingL ⟨unhexT p10, qs.map unhexT, numV p0, numV p1, numV p2, numV p3, numV p4, numV p5, numV p6, numV p7, numV p8, numV p9⟩ = x ++ [10] := by
    rw [settingL_eq, allW_eq]
    have hj := join_cuts 32 x
    rw [hc] at hj
    rw [← hj]
    congr 2
    show Lib.itoa (numV p0) :: Lib.itoa (numV p1) :: Lib.itoa (numV p2) :: Lib.itoa (numV p3) :: Lib.itoa (numV p4) :: Lib.itoa (numV p5) :: Lib.itoa (numV p6) :: Lib.itoa (numV p7) :: Lib.itoa (numV p8) :: Lib.itoa (numV p9) :: (120 :: hexL (unhexT p10)) :: Lib.itoa ((qs.map unhexT).length : Int) :: ((qs.map unhexT).map fun t => 120 :: hexL t) = _
    rw [← hqs, ← unhexB_iff.1 (unhexO_some h10), List.length_map, ← hv, ← (itoa_of h11).1, ← (itoa_of (hn p0 (by simp))).1, ← (itoa_of (hn p1 (by simp))).1, ← (itoa_of (hn p2 (by simp))).1, ← (itoa_of (hn p3 (by simp))).1, ← (itoa_of (hn p4 (by simp))).1, ← (itoa_of (hn p5 (by simp))).1, ← (itoa_of (hn p6 (by simp))).1, ← (itoa_of (hn p7 (by simp))).1, ← (itoa_of (hn p8 (by simp))).1, ← (itoa_of (hn p9 (by simp))).1]
  rw [← key]
  refine set_setting _ (fun n hn2 => ?_)
  simp only [ConfD.ints, List.mem_cons, List.not_mem_nil, or_false] at hn2
  rcases hn2 with rfl | rfl | rfl | rfl | rfl | rfl | rfl | rfl | rfl | rfl <;> exact (itoa_of (hn _ (by simp))).2
theorem setP_bad {x p0 p1 p2 p3 p4 p5 p6 p7 p8 p9 p10 p11 : Nm} {qs : List Nm} (hx : x.length ≤ 268435456) (hc : cuts 32 x = p0 :: p1 :: p2 :: p3 :: p4 :: p5 :: p6 :: p7 :: p8 :: p9 :: p10 :: p11 :: qs)
    (h : ¬ ((∀ p ∈ [p0, p1, p2, p3, p4, p5, p6, p7, p8, p9], numO p = true) ∧ unhexO p10 = true ∧ numO p11 = true ∧ numV p11 = (qs.length : Int) ∧ ∀ q ∈ qs, unhexO q = true)) : setP (x ++ [10]) = none := by
  cases hr : setP (x ++ [10]) with
  | none => rfl
  | some c => exact absurd (setP_all hr hx hc) h
end Go.Proofs.YtkcdlfkicopmoaaDoor.Fs
