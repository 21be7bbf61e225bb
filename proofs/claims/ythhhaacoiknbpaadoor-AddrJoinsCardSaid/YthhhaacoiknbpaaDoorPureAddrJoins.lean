/- AddrJoins: the pure statement. -/
import Derived.Test.YthhhaacoiknbpaaDoorAddrParts
namespace Go.Proofs.YthhhaacoiknbpaaDoor.Pure
open Go.RowKit Go.Proofs.YthhhaacoiknbpaaDoor.PALL Go.Proofs.YthhhaacoiknbpaaDoor.Plain Go.Proofs.YthhhaacoiknbpaaDoorW.PrintWords
set_option linter.unusedVariables false
set_option linter.unusedSimpArgs false

theorem dom_nil : domB [] = false := by decide
theorem dom_front (a : List UInt8) : domB (46 :: a) = false := by
  have := cuts_app (c := 46) (a := []) (by simp) a
  rw [List.nil_append] at this
  rw [domB, this]
  rfl
theorem cuts_back (a : List UInt8) : [] ∈ cuts 46 (a ++ [46]) := by
  induction a using split_ind 46 with
  | h0 u h => rw [cuts_app h]; simp [cuts, cutsA]
  | h1 x y h ih => rw [List.append_assoc, List.cons_append, cuts_app h]; exact List.mem_cons_of_mem _ ih
theorem dom_back (a : List UInt8) : domB (a ++ [46]) = false := by
  rw [domB]
  have : (cuts 46 (a ++ [46])).all labelB = false := by
    rw [List.all_eq_false]
    exact ⟨[], cuts_back a, by decide⟩
  rw [this]
  rfl
theorem AddrJoins : ∀ (a0 : ByteArray) (a1 : ByteArray), a0.size ≤ 140737488351232 → a1.size ≤ 140737488351232 → ∃ k, pillarboxlaw05_AddrJoins.f k a0 a1 = some true := by
  intro s t hs ht
  obtain ⟨u, rfl⟩ := exS s
  obtain ⟨v, rfl⟩ := exS t
  rw [S_size] at hs ht
  obtain ⟨KA, hA⟩ := answers_f
  dsimp only at hA
  have hw : wrap64 ((u.length : Int) + (v.length : Int)) = (u.length : Int) + (v.length : Int) := by unfold wrap64; omega
  by_cases h5 : u.length + v.length > 500
  · refine ⟨KA, ?_⟩
    unfold pillarboxlaw05_AddrJoins.f
    rw [S_size, S_size, hw, if_pos (by omega), hA _ (Nat.le_refl _)]
    rfl
  · obtain ⟨K1, h1⟩ := dom_f (u ++ [46] ++ v) (by simp; omega)
    obtain ⟨K2, h2⟩ := refdom_f (u ++ [46] ++ v) (by simp; omega)
    obtain ⟨K3, h3⟩ := dom_f (u ++ [46]) (by simp; omega)
    obtain ⟨K4, h4⟩ := dom_f (46 :: u) (by simp; omega)
    obtain ⟨K5, h5'⟩ := dom_f [] (by simp)
    dsimp only at h1 h2 h3 h4 h5'
    rw [dom_back] at h3
    rw [dom_front] at h4
    rw [dom_nil] at h5'
    refine ⟨KA + K1 + K2 + K3 + K4 + K5, ?_⟩
    unfold pillarboxlaw05_AddrJoins.f
    rw [S_size, S_size, hw, if_neg (by omega), hA _ (by omega), show (⟨#[46]⟩ : ByteArray) = S [46] from rfl, S_append, S_append, h1 _ (by omega), h2 _ (by omega), h3 _ (by omega), S_append, List.singleton_append, h4 _ (by omega), show (⟨#[]⟩ : ByteArray) = S [] from rfl, h5' _ (by omega)]
    simp only [Option.bind_some, if_true]
    rw [if_pos (by omega), if_pos (by omega), if_pos (by simp)]
    rw [if_neg (by simp), if_pos (by omega), if_neg (by simp)]
    rfl
end Go.Proofs.YthhhaacoiknbpaaDoor.Pure
