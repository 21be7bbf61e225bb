import Derived.Test.YthdjeikfbbdehaaDotsPure
namespace Go.Proofs.Ythdjeikfbbdehaa.Pure
open Go.RowKit Go.Proofs.Ythdjeikfbbdehaa.PALL Go.Proofs.Ythdjeikfbbdehaa.Plain Go.Proofs.YthdjeikfbbdehaaW.PrintWords
theorem refUnstuff_f (u : List UInt8) (hz : u.length ≤ 4611686018427387904) : pillarboxref05_Unstuff.f (S u) = some (if u = [46] then (S [], true) else (S (if [46].isPrefixOf u then u.drop 1 else u), false)) := by
  unfold pillarboxref05_Unstuff.f
  rw [S_toList, S_size]
  by_cases h : u = [46]
  · rw [if_pos h, if_pos h]; rfl
  · rw [if_neg h, if_neg h]
    cases u with
    | nil => rw [if_neg (by simp)]; rfl
    | cons b u =>
      have hb : bt (S (b :: u)) 0 = (b.toNat : Int) := bt_S (u := b :: u) (i := 0) (by simp)
      rw [if_pos (by simp), if_pos (by simp), hb]
      by_cases h46 : b = 46
      · subst h46
        have h46 : (((46 : UInt8).toNat : Int)) = 46 := rfl
        rw [if_pos h46, if_pos (by simp only [List.length_cons]; omega), S_extract]
        simp
      · have hn : ¬ ((b.toNat : Int) = 46) := fun e => h46 ((u8_is 46 rfl).1 e)
        have hn' : ¬ (46 : UInt8) = b := fun e => h46 e.symm
        rw [if_neg hn]
        simp [hn']
theorem DotsUnstuffs : ∀ (a0 : ByteArray), a0.size ≤ 140737488351232 → ∃ k, pillarboxlaw08_DotsUnstuffs.f k a0 = some true := by
  intro a0 hz
  obtain ⟨u, rfl⟩ := exS a0
  rw [S_size] at hz
  obtain ⟨K, hK⟩ := answers_f
  dsimp only at hK
  refine ⟨K, ?_⟩
  unfold pillarboxlaw08_DotsUnstuffs.f
  rw [unstuff_f, refUnstuff_f u (by omega), hK K (Nat.le_refl _)]
  simp
end Go.Proofs.Ythdjeikfbbdehaa.Pure
