/- AddrParses: the pure statement. -/
import Derived.Test.YthhhaacoiknbpaaDoorAddrParts
namespace Go.Proofs.YthhhaacoiknbpaaDoor.Pure
open Go.RowKit Go.Proofs.YthhhaacoiknbpaaDoor.PALL Go.Proofs.YthhhaacoiknbpaaDoor.Plain Go.Proofs.YthhhaacoiknbpaaDoorW.PrintWords
set_option linter.unusedVariables false
set_option linter.unusedSimpArgs false

theorem AddrParses : ∀ (a0 : ByteArray), a0.size ≤ 140737488351232 → ∃ k, pillarboxlaw05_AddrParses.f k a0 = some true := by
  intro s hs
  obtain ⟨u, rfl⟩ := exS s
  obtain ⟨KA, hA⟩ := answers_f
  dsimp only at hA
  by_cases h5 : u.length > 500
  · refine ⟨KA, ?_⟩
    unfold pillarboxlaw05_AddrParses.f
    rw [S_size, if_pos (by omega), hA _ (Nat.le_refl _)]
    rfl
  · obtain ⟨K1, h1⟩ := addrParse_f u (by omega)
    obtain ⟨K2, h2⟩ := refParse_f u (by omega)
    obtain ⟨K3, h3⟩ := addrSplit_f u (by omega)
    obtain ⟨K4, h4⟩ := refSplit_f u (by omega)
    obtain ⟨K5, h5'⟩ := dom_f u (by omega)
    obtain ⟨K6, h6⟩ := refdom_f u (by omega)
    dsimp only at h1 h2 h3 h4 h5' h6
    refine ⟨KA + K1 + K2 + K3 + K4 + K5 + K6, ?_⟩
    unfold pillarboxlaw05_AddrParses.f
    rw [S_size, if_neg (by omega), hA _ (by omega), h1 _ (by omega), h2 _ (by omega), h3 _ (by omega), h4 _ (by omega), h5' _ (by omega), h6 _ (by omega)]
    simp
end Go.Proofs.YthhhaacoiknbpaaDoor.Pure
