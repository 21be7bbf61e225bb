/- law27: a list of steps, opened. -/
import Derived.Test.YtkcdlfkicopmoaaDoorScrParse
import Derived.Test.YtkcdlfkicopmoaaDoorRows
namespace Go.Proofs.YtkcdlfkicopmoaaDoor.Fs
open Go.RowKit Go.Proofs.YtkcdlfkicopmoaaDoor Go.Proofs.YtkcdlfkicopmoaaDoor.Plain Go.Proofs.YtkcdlfkicopmoaaDoorW.PrintWords Go.Maps Go.ChangeShapes Go.WideShapes
set_option linter.unusedVariables false
set_option linter.unusedSimpArgs false
def bulkS (l : List StepD) : Nat := (l.map fun x => x.text.length + 5).sum
def StepI (x : StepD) : Prop := I64 x.kind ∧ I64 x.a ∧ I64 x.b
def StepsOf (W : World) (v : Value) : Prop := ∃ (A : Option Addr) (c : Nat) (l : List StepD), v = .slice A l.length c ∧ StepsAt W A l ∧ (∀ x ∈ l, StepI x) ∧ bulkS l ≤ 1048576
theorem i64_of {n : Int} (h : (Lit.int .i64 n).wf = true) : I64 n := by
  simp [Lit.wf] at h
  have e1 : IntKind.i64.min = -9223372036854775808 := by decide
  have e2 : IntKind.i64.max = 9223372036854775807 := by decide
  exact ⟨by omega, by omega⟩
theorem cellsOfStep : Tryd.prog.cellsOf 39 = 4 := by kernel_rfl
theorem four {α : Type} {l : List α} (h : l.length = 4) : ∃ a b c d, l = [a, b, c, d] := by
  match l, h with
  | [a, b, c, d], _ => exact ⟨a, b, c, d, rfl⟩
set_option maxRecDepth 100000 in
theorem openStep {H : Type} {enc : TypeId × Value → H} {W : World} {base fuel : Nat} {spare : Nat → Bool} {held : Bool} {cs : List Value} {x : DataW H × List MemPlace} (h : DataW.trod enc Tryd.prog W base spare held fuel 39 cs = some x) : ∃ s : StepD, cs = (stepV s).toList ∧ StepI s ∧ Rows.uptoBulk x.1 = s.text.length + 5 := by
  obtain ⟨xs, n, _, hx, hl, hxl, hf⟩ := DataW.trod_struct Tryd.underlying39 h
  rw [cellsOfStep] at hl
  obtain ⟨c0, c1, c2, c3, rfl⟩ := four hl
  obtain ⟨y0, y1, y2, y3, rfl⟩ := four (l := xs) (by simpa using hxl)
  have k3 : Tryd.prog.cellsOf 3 = 1 := by kernel_rfl
  have k9 : Tryd.prog.cellsOf 9 = 1 := by kernel_rfl
  have f0 := hf 0 _ rfl
  have f1 := hf 1 _ rfl
  have f2 := hf 2 _ rfl
  have f3 := hf 3 _ rfl
  simp only [k3, k9, List.drop_succ_cons, List.drop_zero, List.take_succ_cons, List.take_zero, List.getElem?_cons_zero, List.getElem?_cons_succ] at f0 f1 f2 f3
  obtain ⟨m0, e0, q0, w0⟩ := DataW.trod_int Tryd.underlying3 f0
  obtain ⟨m1, e1, q1, w1⟩ := DataW.trod_int Tryd.underlying3 f1
  obtain ⟨m2, e2, q2, w2⟩ := DataW.trod_int Tryd.underlying3 f2
  obtain ⟨s3, e3, q3, -⟩ := DataW.trod_string Tryd.underlying9 f3
  obtain ⟨u3, rfl⟩ := exS s3
  injection e0 with e0
  injection e1 with e1
  injection e2 with e2
  injection e3 with e3
  subst e0 e1 e2 e3
  refine ⟨⟨m0, m1, m2, u3⟩, rfl, ⟨i64_of w0, i64_of w1, i64_of w2⟩, ?_⟩
  rw [hx, q0, q1, q2, q3]
  simp only [List.map_cons, List.map_nil, Rows.uptoBulk, Rows.uptoBulkAll]
  show 1 + (1 + (1 + ((S u3).data.toList.length + 1 + 0))) + 1 = u3.length + 5
  have : (S u3).data.toList.length = u3.length := rfl
  omega
theorem bulkAll_map {H : Type} (D : Nat → DataW H) (g : Nat → Nat) : ∀ (js : List Nat), (∀ j ∈ js, g j ≤ Rows.uptoBulk (D j)) → (js.map g).sum ≤ Rows.uptoBulkAll (js.map D)
  | [], _ => Nat.le_refl _
  | j :: js, h => by
    have h1 := h j (by simp)
    have h2 := bulkAll_map D g js (fun i hi => h i (by simp [hi]))
    simp only [List.map_cons, List.sum_cons, Rows.uptoBulkAll]
    omega
set_option maxRecDepth 100000 in
theorem stepsOf {H : Type} {enc : TypeId × Value → H} {W : World} {base : Nat} {v : Value} {d : DataW H} {p : List MemPlace} (hv : Value.okWide Tryd.prog W .any base 22 v) (h : DataW.Trod enc Tryd.prog W 0 (fun _ => true) true 22 v d p) (hb : Rows.uptoBulk d ≤ 1048576) : StepsOf W v := by
  obtain ⟨A, n, c, rfl⟩ := okWide_slice Tryd.underlying22 hv
  obtain ⟨fuel, hf⟩ := h
  rcases Deep.open_slice Tryd.underlying22 hf with ⟨hcs, _⟩ | ⟨a, len, cap, m, k, D, Pl, hcs, _, hl, hm, hmm, hx, hr⟩
  · simp [Value.cells] at hcs
    obtain ⟨rfl, rfl, rfl⟩ := hcs
    exact ⟨none, 0, [], rfl, fun j hj => by simp at hj, fun x hx => by simp at hx, by simp [bulkS]⟩
  · simp [Value.cells] at hcs
    obtain ⟨rfl, rfl, rfl⟩ := hcs
    have hop : ∀ j, j < n → ∃ s : StepD, (∀ i, i < 4 → W.cell? (a.add (j * 4 + i)) = (stepV s)[i]?) ∧ StepI s ∧ Rows.uptoBulk (D j) = s.text.length + 5 := by
      intro j hj
      obtain ⟨cs', hc, ht⟩ := hr j (by rw [hmm]; split <;> omega)
      obtain ⟨s, e, hs, hbk⟩ := openStep ht
      refine ⟨s, fun i hi => ?_, hs, hbk⟩
      obtain ⟨_, _, h3⟩ := World.cells?_some hc
      rw [cellsOfStep] at h3
      have h4 := h3 i hi
      rw [e] at h4
      rw [← Addr.add_add, h4, Array.getElem?_toList]
    have e : ∀ j (hj : j < n), ((List.range n).map fun j => if hj : j < n then (hop j hj).choose else (⟨0, 0, 0, []⟩ : StepD))[j]'(by simpa using hj) = (hop j hj).choose := fun j hj => by simp [hj]
    refine ⟨some a, c, (List.range n).map fun j => if hj : j < n then (hop j hj).choose else ⟨0, 0, 0, []⟩, by simp, fun j hj => ?_, fun x hx2 => ?_, ?_⟩
    · have hjn : j < n := by simpa using hj
      refine ⟨a, rfl, ?_⟩
      rw [e j hjn]
      exact (hop j hjn).choose_spec.1
    · obtain ⟨j, hj, rfl⟩ := List.mem_map.1 hx2
      have hjn : j < n := List.mem_range.1 hj
      simp only [hjn, dif_pos]
      exact (hop j hjn).choose_spec.2.1
    · have hd : d = .slice ((List.range n).map D) ((List.range (m - n)).map fun j => D (n + j)) := (Prod.mk.inj hx).1
      rw [hd] at hb
      simp only [Rows.uptoBulk] at hb
      have key := bulkAll_map D (fun j => (if hj : j < n then (hop j hj).choose else (⟨0, 0, 0, []⟩ : StepD)).text.length + 5) (List.range n) (fun j hj => by
        have hjn : j < n := List.mem_range.1 hj
        simp only [hjn, dif_pos]
        exact Nat.le_of_eq (hop j hjn).choose_spec.2.2.symm)
      unfold bulkS
      rw [List.map_map]
      refine Nat.le_trans (Nat.le_of_eq ?_) (Nat.le_trans key (by omega))
      rfl
theorem bulk_len : ∀ l : List StepD, 5 * l.length ≤ bulkS l
  | [] => Nat.zero_le _
  | x :: l => by have := bulk_len l; simp only [bulkS, List.map_cons, List.sum_cons, List.length_cons] at this ⊢; omega
theorem bulk_mem : ∀ (l : List StepD) (x : StepD), x ∈ l → x.text.length ≤ bulkS l
  | y :: l, x, h => by
    simp only [bulkS, List.map_cons, List.sum_cons]
    rcases List.mem_cons.1 h with rfl | h
    · omega
    · have := bulk_mem l x h; simp only [bulkS] at this; omega
theorem stepL_length {x : StepD} (h : StepI x) : (stepL x).length ≤ 2 * x.text.length + 67 := by
  have := lineL_length [x.kind, x.a, x.b] [x.text] (by
    intro n hn
    simp only [List.mem_cons, List.not_mem_nil, or_false] at hn
    rcases hn with rfl | rfl | rfl
    · exact h.1
    · exact h.2.1
    · exact h.2.2)
  unfold stepL
  simp [Lib.lens] at this ⊢
  omega
theorem printL_length : ∀ (l : List StepD), (∀ x ∈ l, StepI x) → (printL l).length ≤ 15 * bulkS l
  | [], _ => by simp [printL]
  | x :: l, h => by
    have h1 := printL_length l (fun y hy => h y (by simp [hy]))
    have h2 := stepL_length (h x (by simp))
    simp only [printL, bulkS, List.flatMap_cons, List.length_append, List.map_cons, List.sum_cons] at h1 ⊢
    omega
theorem stepsOk {l : List StepD} (h : ∀ x ∈ l, StepI x) (hb : bulkS l ≤ 1048576) : ∀ x ∈ l, StepOk x := fun x hx => by
  obtain ⟨h1, h2, h3⟩ := h x hx
  exact ⟨h1, h2, h3, by have := bulk_mem l x hx; omega⟩
end Go.Proofs.YtkcdlfkicopmoaaDoor.Fs
