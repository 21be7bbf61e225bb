/- AddrFixed: the pure statement. -/
import Derived.Test.YthhhaacoiknbpaaDoorAddrCaseLaws
namespace Go.Proofs.YthhhaacoiknbpaaDoor.Pure
open Go.RowKit Go.Proofs.YthhhaacoiknbpaaDoor.PALL Go.Proofs.YthhhaacoiknbpaaDoor.Plain Go.Proofs.YthhhaacoiknbpaaDoorW.PrintWords
set_option linter.unusedVariables false
set_option linter.unusedSimpArgs false
theorem AddrFixed : ∀ (a0 : ByteArray), a0.size ≤ 140737488351232 → ∃ k, pillarboxlaw05_AddrFixed.f k a0 = some true := by
  intro s hs
  obtain ⟨u, rfl⟩ := exS s
  rw [S_size] at hs
  obtain ⟨KA, hA⟩ := answers_f
  dsimp only at hA
  by_cases h5 : u.length > 500
  · refine ⟨KA, ?_⟩
    unfold pillarboxlaw05_AddrFixed.f
    rw [S_size, if_pos (by omega), hA _ (Nat.le_refl _)]
    rfl
  · obtain ⟨K1, h1⟩ := addrParse_f u (by omega)
    dsimp only at h1
    cases hp : partsB u with
    | none =>
      rw [hp] at h1
      refine ⟨KA + K1, ?_⟩
      unfold pillarboxlaw05_AddrFixed.f
      rw [S_size, if_neg (by omega), hA _ (by omega), h1 _ (by omega)]
      simp [toParse]
    | some p =>
      obtain ⟨n, d⟩ := p
      obtain ⟨b, g1, g2, g3, g4, g5, g6⟩ := parts_some hp
      subst g6
      have hl : (n ++ 64 :: b.map smallB).length = u.length := by rw [g2]; simp
      have hd : domB (b.map smallB) = true := by rw [caseSmall.dom]; exact g4
      have hq : partsB (n ++ 64 :: b.map smallB) = some (n, b.map smallB) := by
        rw [parts_good g1 g3 hd (by omega), map_small_small]
      have hs : n.length + (b.map smallB).length ≤ 64 := by simp at hl ⊢; omega
      obtain ⟨K2, h2⟩ := addrParse_f (n ++ 64 :: b.map smallB) (by omega)
      obtain ⟨K3, h3⟩ := addrSplit_f (n ++ 64 :: b.map smallB) (by omega)
      obtain ⟨K4, h4⟩ := dom_f (b.map smallB) (by omega)
      dsimp only at h2 h3 h4
      rw [hp] at h1
      rw [hq] at h2 h3
      rw [hd] at h4
      refine ⟨KA + K1 + K2 + K3 + K4, ?_⟩
      unfold pillarboxlaw05_AddrFixed.f
      rw [S_size, if_neg (by omega), hA _ (by omega), h1 _ (by omega)]
      simp only [Option.bind_some, toParse, if_true]
      rw [h2 _ (by omega), h3 _ (by omega)]
      simp only [Option.bind_some, toParse, toSplit, if_true, S_size]
      rw [if_pos (by omega), if_pos (by omega), show (⟨#[64]⟩ : ByteArray) = S [64] from rfl, S_append, S_append, S_toList, S_toList, if_pos (by simp), h4 _ (by omega), small_f (by omega), map_small_small]
      simp only [Option.bind_some, if_true]
      rw [decide_eq_true (by omega)]
end Go.Proofs.YthhhaacoiknbpaaDoor.Pure
