/- A parameter of strings, opened. -/
import Derived.Test.YtilgfpljjjbgdaaGreatDoorFsB1
import Derived.Deep.Slices
import Derived.OpenShut
import Derived.DataReads
import Derived.HandedShaped
namespace Go.Proofs.YtilgfpljjjbgdaaGreatDoor.Fs
open Go.RowKit Go.Proofs.YtilgfpljjjbgdaaGreatDoor Go.Proofs.YtilgfpljjjbgdaaGreatDoor.Plain Go.Proofs.YtilgfpljjjbgdaaGreatDoorW.PrintWords Go.Maps Go.ChangeShapes Go.WideShapes
set_option linter.unusedVariables false
set_option linter.unusedSimpArgs false
def StrsOf (W : World) (v : Value) : Prop := ∃ (A : Option Addr) (c : Nat) (l : List Nm), v = .slice A l.length c ∧ l.length ≤ 9223372036854775807 ∧ NamesAt W A l
theorem weightsAll_mem' {H : Type} {P : Program} {t : TypeId} : ∀ {ds : List (DataW H)} {d : DataW H}, d ∈ ds → ∀ q ∈ d.weights P t, q ∈ DataW.weightsAll P t ds
  | d0 :: ds, d, hd, q, hq => by
    simp only [DataW.weightsAll, List.mem_append]
    rcases List.mem_cons.1 hd with e | e
    · subst e; exact .inl hq
    · exact .inr (weightsAll_mem' e q hq)
theorem cellsOfStr : Tryz.prog.cellsOf 9 = 1 := by kernel_rfl
set_option maxRecDepth 100000 in
theorem strsOf {H : Type} {enc : TypeId × Value → H} {W : World} {base : Nat} {v : Value} {d : DataW H} {p : List MemPlace} (hv : Value.okWide Tryz.prog W .any base 38 v) (h : DataW.Trod enc Tryz.prog W 0 (fun _ => true) true 38 v d p) (hw : ∀ x ∈ d.weights Tryz.prog 38, x ≤ reachBytes) : StrsOf W v := by
  obtain ⟨A, n, c, rfl⟩ := okWide_slice Tryz.underlying38 hv
  obtain ⟨fuel, hf⟩ := h
  rcases Deep.open_slice Tryz.underlying38 hf with ⟨hcs, _⟩ | ⟨a, len, cap, m, k, D, Pl, hcs, _, hl, hm, hmm, hx, hr⟩
  · simp [Value.cells] at hcs
    obtain ⟨rfl, rfl, rfl⟩ := hcs
    exact ⟨none, 0, [], rfl, by simp, fun j hj => by simp at hj⟩
  · simp [Value.cells] at hcs
    obtain ⟨rfl, rfl, rfl⟩ := hcs
    have hd : d = .slice ((List.range n).map D) ((List.range (m - n)).map fun j => D (n + j)) := (Prod.mk.inj hx).1
    have hop : ∀ j, j < n → ∃ s : Nm, W.cell? (a.add j) = some (.string (S s)) ∧ s.length ≤ 140737488351232 := by
      intro j hj
      obtain ⟨cs', hc, ht⟩ := hr j (by rw [hmm]; split <;> omega)
      obtain ⟨s3, e3, q3, -⟩ := DataW.trod_string Tryz.underlying9 ht
      obtain ⟨u3, rfl⟩ := exS s3
      obtain ⟨_, _, h3⟩ := World.cells?_some hc
      rw [cellsOfStr] at h3
      have h4 := h3 0 (by omega)
      rw [e3] at h4
      have hlen3 : u3.length ≤ 140737488351232 := by
        have := hw u3.length (by
          rw [hd]
          simp only [DataW.weights, Tryz.underlying38, List.mem_cons, List.mem_append]
          refine .inr (.inl (weightsAll_mem' (List.mem_map.2 ⟨j, List.mem_range.2 hj, rfl⟩) _ ?_))
          rw [(Prod.mk.inj q3).1]
          simp [DataW.weights])
        simpa [reachBytes] using this
      refine ⟨u3, ?_, hlen3⟩
      have e5 : (a.add (j * 1)).add 0 = a.add j := by rw [Addr.add_add, Nat.mul_one, Nat.add_zero]
      first
        | exact h4
        | (rw [← e5]; simpa using h4)
        | simpa using h4
    refine ⟨some a, c, (List.range n).map fun j => if hj : j < n then (hop j hj).choose else [], by simp, by simp only [List.length_map, List.length_range]; simp only [maxLen] at hm; omega, fun j hj => ?_⟩
    have hjn : j < n := by simpa using hj
    obtain ⟨q1, q2⟩ := (hop j hjn).choose_spec
    have e : ((List.range n).map fun j => if hj : j < n then (hop j hj).choose else ([] : Nm))[j] = (hop j hjn).choose := by simp [hjn]
    rw [e]
    exact ⟨a, rfl, q1, q2⟩
end Go.Proofs.YtilgfpljjjbgdaaGreatDoor.Fs
