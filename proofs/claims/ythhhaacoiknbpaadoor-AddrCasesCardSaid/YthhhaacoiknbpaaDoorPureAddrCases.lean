/- AddrCases: the pure statement. -/
import Derived.Test.YthhhaacoiknbpaaDoorAddrCaseLaws
namespace Go.Proofs.YthhhaacoiknbpaaDoor.Pure
open Go.RowKit Go.Proofs.YthhhaacoiknbpaaDoor.PALL Go.Proofs.YthhhaacoiknbpaaDoor.Plain Go.Proofs.YthhhaacoiknbpaaDoorW.PrintWords
set_option linter.unusedVariables false
set_option linter.unusedSimpArgs false
theorem AddrCases : ∀ (a0 : ByteArray), a0.size ≤ 140737488351232 → ∃ k, pillarboxlaw05_AddrCases.f k a0 = some true := by
  intro s hs
  obtain ⟨u, rfl⟩ := exS s
  rw [S_size] at hs
  obtain ⟨KA, hA⟩ := answers_f
  obtain ⟨K1, h1⟩ := refSplit_f u (by omega)
  dsimp only at hA h1
  cases hp : partsB u with
  | none =>
    rw [hp] at h1
    refine ⟨KA + K1 + 1, ?_⟩
    unfold pillarboxlaw05_AddrCases.f
    rw [h1 _ (by omega)]
    simp only [Option.bind_some, toSplit]
    rw [if_neg (by simp), pillarboxlaw05_AddrCases.j0, if_pos rfl, hA _ (by omega)]
    rfl
  | some p =>
    obtain ⟨n, d⟩ := p
    obtain ⟨b, g1, g2, g3, g4, g5, g6⟩ := parts_some hp
    subst g6
    have hl : n.length + b.length + 1 = u.length := by rw [g2]; simp; omega
    have hd : domB (b.map smallB) = true := by rw [caseSmall.dom]; exact g4
    have q1 : partsB (n ++ 64 :: (b.map smallB).map greatB) = some (n, b.map smallB) := by
      rw [parts_good g1 g3 (by rw [caseGreat.dom]; exact hd) (by simp; omega), map_small_great, map_small_small]
    have q2 : partsB (n ++ 64 :: b.map smallB) = some (n, b.map smallB) := by
      rw [parts_good g1 g3 hd (by simp; omega), map_small_small]
    have q3 : partsB (n.map greatB ++ 64 :: b.map smallB) = some (n.map greatB, b.map smallB) := by
      rw [parts_good (fun e => g1 ((caseGreat.mem n 64 (by simp)).1 e)) (by rw [caseGreat.loc]; exact g3) hd (by simp; omega), map_small_small]
    obtain ⟨K2, h2⟩ := addrParse_f (n ++ 64 :: (b.map smallB).map greatB) (by simp; omega)
    obtain ⟨K3, h3⟩ := addrParse_f (n ++ 64 :: b.map smallB) (by simp; omega)
    obtain ⟨K4, h4⟩ := addrParse_f (n.map greatB ++ 64 :: b.map smallB) (by simp; omega)
    dsimp only at h2 h3 h4
    rw [hp] at h1
    rw [q1] at h2
    rw [q2] at h3
    rw [q3] at h4
    have e64 : (⟨#[64]⟩ : ByteArray) = S [64] := rfl
    have e2 : S n ++ S [64] ++ S ((b.map smallB).map greatB) = S (n ++ 64 :: (b.map smallB).map greatB) := by rw [S_append, S_append]; simp
    have e3 : S n ++ S [64] ++ S (b.map smallB) = S (n ++ 64 :: b.map smallB) := by rw [S_append, S_append]; simp
    have e4 : S (n.map greatB) ++ S [64] ++ S (b.map smallB) = S (n.map greatB ++ 64 :: b.map smallB) := by rw [S_append, S_append]; simp
    refine ⟨KA + K1 + K2 + K3 + K4 + 1, ?_⟩
    unfold pillarboxlaw05_AddrCases.f
    rw [h1 _ (by omega)]
    simp only [Option.bind_some, toSplit, if_true]
    rw [S_size, decide_eq_false (by omega), pillarboxlaw05_AddrCases.j0, if_neg (by simp), S_size, if_pos (by omega), great_f (by simp; omega)]
    simp only [Option.bind_some, S_size]
    rw [if_pos (by simp; omega), e64, e2, h2 _ (by omega)]
    simp only [Option.bind_some]
    rw [if_pos (by simp; omega), e3, h3 _ (by omega)]
    simp only [Option.bind_some]
    rw [great_f (by omega)]
    simp only [Option.bind_some, S_size]
    rw [if_pos (by simp; omega), if_pos (by simp; omega), e4, h4 _ (by omega)]
    simp only [Option.bind_some, toParse, if_true]
    rw [hA _ (by omega)]
    simp only [Option.bind_some, if_true, S_toList]
    rw [Option.some.injEq, beq_iff_eq, Bool.eq_iff_iff, beq_iff_eq, beq_iff_eq]
    exact ⟨fun h => (List.append_inj h (by simp)).1, fun h => by rw [h]⟩
end Go.Proofs.YthhhaacoiknbpaaDoor.Pure
