/- What is printed is read again. -/
import Derived.Test.YtkcdlfkicopmoaaDoorScrSet
namespace Go.Proofs.YtkcdlfkicopmoaaDoor.Fs
open Go.RowKit Go.Proofs.YtkcdlfkicopmoaaDoor Go.Proofs.YtkcdlfkicopmoaaDoor.Plain Go.Proofs.YtkcdlfkicopmoaaDoorW.PrintWords Go.Maps
set_option linter.unusedVariables false
set_option linter.unusedSimpArgs false
theorem step_line (x : StepD) : stepL x = Lib.join (wordsL [x.kind, x.a, x.b] [x.text]) [32] ++ [10] := rfl
theorem join_no10 (ns : List Int) (ts : List Nm) : (10 : UInt8) ∉ Lib.join (wordsL ns ts) [32] := join_no (by decide) _ (fun s hs => (wordsL_no ns ts s hs).2)
theorem cuts_print (x : StepD) (l : List StepD) (u : Nm) : cuts 10 (printL (x :: l) ++ u) = Lib.join (wordsL [x.kind, x.a, x.b] [x.text]) [32] :: cuts 10 (printL l ++ u) := by
  have e : printL (x :: l) ++ u = Lib.join (wordsL [x.kind, x.a, x.b] [x.text]) [32] ++ 10 :: (printL l ++ u) := by
    show stepL x ++ printL l ++ u = _
    rw [step_line]
    simp
  rw [e, cuts_app (join_no10 _ _)]
/-- steps ahead of a text -/
theorem goP_print : ∀ (l : List StepD) (n : Nat) (u : Nm), (∀ x ∈ l, StepOk x) → goP readP n (cuts 10 (printL l ++ u)) = pre l (goP readP (n + l.length) (cuts 10 u))
  | [], n, u, _ => by
    show goP readP n (cuts 10 u) = _
    rw [pre_nil]
    rfl
  | x :: l, n, u, h => by
    have hx := h x (by simp)
    rw [cuts_print, goP_line, readP_step hx.kind hx.a hx.b (step_line x)]
    show pre [x] (goP readP (n + 1) (cuts 10 (printL l ++ u))) = _
    rw [goP_print l (n + 1) u (fun y hy => h y (by simp [hy])), pre_pre, List.length_cons, show n + 1 + l.length = n + (l.length + 1) by omega]
    rfl
theorem parse_print (l : List StepD) (h : ∀ x ∈ l, StepOk x) : parseP readP (printL l) = .inl l := by
  have := goP_print l 1 [] h
  rw [List.append_nil] at this
  unfold parseP
  rw [this, show goP readP (1 + l.length) (cuts 10 []) = .inl [] from by rw [cuts_none (by simp)]; rfl]
  show Sum.inl (l ++ []) = _
  rw [List.append_nil]
theorem join_append (a b : List Nm) (ha : a ≠ []) (hb : b ≠ []) : Lib.join (a ++ b) [32] = Lib.join a [32] ++ [32] ++ Lib.join b [32] := by
  induction a with
  | nil => exact absurd rfl ha
  | cons x a ih =>
    cases a with
    | nil =>
      cases b with
      | nil => exact absurd rfl hb
      | cons y b =>
        show Lib.join (x :: y :: b) [32] = _
        rw [Lib.join_cons, Lib.join_one, Lib.join_cons]
        simp [Lib.joinTail]
    | cons z a =>
      have h2 := ih (by simp)
      have e1 : Lib.join (x :: (z :: a ++ b)) [32] = x ++ [32] ++ Lib.join (z :: a ++ b) [32] := by
        rw [List.cons_append, Lib.join_cons, Lib.join_cons]
        simp [Lib.joinTail]
      have e2 : Lib.join (x :: z :: a) [32] = x ++ [32] ++ Lib.join (z :: a) [32] := by
        rw [Lib.join_cons, Lib.join_cons]
        simp [Lib.joinTail]
      show Lib.join (x :: (z :: a ++ b)) [32] = _
      rw [e1, h2, e2]
      simp
def allW (c : ConfD) : List Nm := wordsL c.ints [c.host] ++ wordsL [(c.locals.length : Int)] c.locals
theorem settingL_eq (c : ConfD) : settingL c = Lib.join (allW c) [32] ++ [10] := by
  unfold settingL allW
  rw [join_append _ _ (by simp [wordsL, ConfD.ints]) (by simp [wordsL]), lineL_eq]
  simp
theorem trim_setting (c : ConfD) : trimL (settingL c) = Lib.join (allW c) [32] := by
  rw [settingL_eq]
  unfold trimL Lib.trimSuffix Lib.hasSuffix
  simp
theorem cuts_setting (c : ConfD) : cuts 32 (trimL (settingL c)) = allW c := by
  rw [trim_setting]
  refine cuts_join _ (by simp [allW, wordsL]) (fun s hs => ?_)
  rcases List.mem_append.1 hs with h | h
  · exact (wordsL_no _ _ s h).1
  · exact (wordsL_no _ _ s h).1
theorem confOf_all (c : ConfD) (h : ∀ n ∈ c.ints, I64 n) : confOf (allW c) = some c := by
  obtain ⟨ho, lo, i0, i1, i2, i3, i4, i5, i6, i7, i8, i9⟩ := c
  have hl : (lo.map fun t => 120 :: hexL t).map unhexT = lo := by
    rw [List.map_map]
    conv => rhs; rw [← List.map_id lo]
    exact List.map_congr_left (fun t _ => unhexT_hex t)
  show some (⟨unhexT (120 :: hexL ho), (lo.map fun t => 120 :: hexL t).map unhexT, atoiVal (Lib.itoa i0), atoiVal (Lib.itoa i1), atoiVal (Lib.itoa i2), atoiVal (Lib.itoa i3), atoiVal (Lib.itoa i4), atoiVal (Lib.itoa i5), atoiVal (Lib.itoa i6), atoiVal (Lib.itoa i7), atoiVal (Lib.itoa i8), atoiVal (Lib.itoa i9)⟩ : ConfD) = _
  rw [hl, unhexT_hex, atoi_itoa (h i0 (by simp [ConfD.ints])), atoi_itoa (h i1 (by simp [ConfD.ints])), atoi_itoa (h i2 (by simp [ConfD.ints])), atoi_itoa (h i3 (by simp [ConfD.ints])), atoi_itoa (h i4 (by simp [ConfD.ints])), atoi_itoa (h i5 (by simp [ConfD.ints])), atoi_itoa (h i6 (by simp [ConfD.ints])), atoi_itoa (h i7 (by simp [ConfD.ints])), atoi_itoa (h i8 (by simp [ConfD.ints])), atoi_itoa (h i9 (by simp [ConfD.ints]))]
theorem set_setting (c : ConfD) (h : ∀ n ∈ c.ints, I64 n) : setP (settingL c) = some c := by
  unfold setP
  rw [cuts_setting, confOf_all c h]
  show (if settingL c = settingL c then some c else none) = _
  rw [if_pos rfl]
end Go.Proofs.YtkcdlfkicopmoaaDoor.Fs
