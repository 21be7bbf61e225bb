import Derived.Test.YthdjeikfbbdehaaDotsPure
namespace Go.Proofs.Ythdjeikfbbdehaa.Pure
open Go.RowKit Go.Proofs.Ythdjeikfbbdehaa.PALL Go.Proofs.Ythdjeikfbbdehaa.Plain Go.Proofs.YthdjeikfbbdehaaW.PrintWords
/-- the first line of bytes -/
theorem line_l0 (a rest : List UInt8) (hz : (a ++ 13 :: 10 :: rest).length ≤ 4611686018427387000) (h13 : (13 : UInt8) ∉ a) (d : Nat) : ∀ i : Nat, i + d = a.length →
    Ev (fun k => pillarboxref05_Line.l0 k (B (a ++ 13 :: 10 :: rest)) (i : Int)) (S a, ((a.length + 2 : Nat) : Int)) := by
  have hl : (a ++ 13 :: 10 :: rest).length = a.length + rest.length + 2 := by simp; omega
  rw [hl] at hz
  induction d with
  | zero =>
    intro i hi
    have hi' : i = a.length := by omega
    subst hi'
    have e1 : (a ++ 13 :: 10 :: rest)[a.length]'(by omega) = 13 := by simp
    have e2 : (a ++ 13 :: 10 :: rest)[a.length + 1]'(by omega) = 10 := by
      rw [List.getElem_append_right (by omega)]
      simp
    have f1 : (((a ++ 13 :: 10 :: rest)[a.length]'(by omega)).toNat : Int) = 13 := by rw [e1]; rfl
    have f2 : (((a ++ 13 :: 10 :: rest)[a.length + 1]'(by omega)).toNat : Int) = 10 := by rw [e2]; rfl
    have w2 : wrap64 ((a.length : Int) + 2) = ((a.length + 2 : Nat) : Int) := by rw [wrap_in (by omega) (by omega)]; omega
    refine Ev.succ ⟨0, fun k _ => ?_⟩
    rw [pillarboxref05_Line.l0, wrap_succ (by omega), B_length, if_pos (by omega), if_pos (by omega), if_pos (by omega), rd_B (by omega), if_pos f1, if_pos (by omega), rd_B (by omega), if_pos f2, if_pos (by omega), w2, Int.toNat_natCast, B_take, strOfNums_B, List.take_append_of_le_length (Nat.le_refl _), List.take_length]
  | succ d ih =>
    intro i hi
    obtain ⟨K, hK⟩ := ih (i + 1) (by omega)
    dsimp only at hK
    have hlt : i < a.length := by omega
    have hne : ¬ ((((a ++ 13 :: 10 :: rest)[i]'(by omega)).toNat : Int) = 13) := by
      intro e
      have := (u8_is 13 rfl).1 e
      rw [List.getElem_append_left hlt] at this
      exact h13 (this ▸ List.getElem_mem _)
    refine Ev.succ ⟨K, fun k hk => ?_⟩
    rw [pillarboxref05_Line.l0, wrap_succ (by omega), B_length, if_pos (by omega), if_pos (by omega), if_pos (by omega), rd_B (by omega), if_neg hne]
    exact hK k hk
theorem line_f (a rest : List UInt8) (hz : (a ++ 13 :: 10 :: rest).length ≤ 4611686018427387000) (h13 : (13 : UInt8) ∉ a) : Ev (fun k => pillarboxref05_Line.f k (B (a ++ 13 :: 10 :: rest))) (S a, ((a.length + 2 : Nat) : Int)) :=
  line_l0 a rest hz h13 a.length 0 (by omega)
theorem back_l0 (x0 : List UInt8) (ls : List (List UInt8)) : ∀ out : List UInt8, x0 = out ++ unl ls → (∀ l ∈ ls, (13 : UInt8) ∉ l) → out.length + 4 * (unl ls).length ≤ 1000000 →
    Ev (fun k => pillarboxlaw08_DotsBack.l0 k (B x0) (B (stuffU ls ++ [46, 13, 10])) (S out)) true := by
  obtain ⟨KA, hA⟩ := answers_f
  dsimp only at hA
  induction ls with
  | nil =>
    intro out hx _ hz
    obtain ⟨K, hK⟩ := line_f [46] [] (by simp) (by decide)
    dsimp only at hK
    refine Ev.succ ⟨K + KA, fun k hk => ?_⟩
    have e : B (stuffU [] ++ [46, 13, 10]) = B ([46] ++ 13 :: 10 :: []) := rfl
    have hx0 : x0 = out := by simpa [unl] using hx
    rw [pillarboxlaw08_DotsBack.l0, e, hK k (by omega)]
    simp only [Option.bind_some]
    rw [if_neg (by decide), if_pos (by decide), if_pos (by decide), unstuff_f]
    simp only [Option.bind_some, if_true]
    rw [hA k (by omega)]
    simp only [Option.bind_some, if_true]
    rw [if_pos (by decide), strOfNums_B, S_toList, S_toList, hx0]
    simp
  | cons l ls ih =>
    intro out hx h13 hz
    rw [unl_cons] at hx hz
    simp only [List.length_append, List.length_cons] at hz
    have hsl := stuffU_length ls
    obtain ⟨K1, h1⟩ := ih (out ++ l ++ [10]) (by rw [hx]; simp) (fun x hx => h13 x (by simp [hx])) (by simp; omega)
    have hl13 : (13 : UInt8) ∉ l := h13 l (by simp)
    obtain ⟨a, ha, ha13, hal, haU⟩ : ∃ a, stuff1 l = a ++ [13, 10] ∧ (13 : UInt8) ∉ a ∧ a.length ≤ l.length + 1 ∧ dots_Unstuff.f (S a) = some (S l, false) := by
      by_cases hp : [46].isPrefixOf l = true
      · refine ⟨46 :: l, by simp [stuff1, hp], by simp [hl13], by simp, ?_⟩
        have hne : ¬ (46 :: l = [46]) := by
          intro e
          have : l = [] := by simpa using e
          subst this
          simp at hp
        rw [unstuff_f, if_neg hne]
        simp
      · refine ⟨l, by simp [stuff1, hp], hl13, by omega, ?_⟩
        have hne : ¬ (l = [46]) := by
          rintro rfl
          exact hp (by decide)
        rw [unstuff_f, if_neg hne, if_neg hp]
    have e : stuffU (l :: ls) ++ [46, 13, 10] = a ++ 13 :: 10 :: (stuffU ls ++ [46, 13, 10]) := by rw [stuffU_cons, ha]; simp
    obtain ⟨K2, h2⟩ := line_f a (stuffU ls ++ [46, 13, 10]) (by simp; omega) ha13
    dsimp only at h1 h2
    refine Ev.succ ⟨K1 + K2, fun k hk => ?_⟩
    rw [pillarboxlaw08_DotsBack.l0, e, h2 k (by omega)]
    simp only [Option.bind_some]
    rw [if_neg (by omega), if_pos (by omega), B_length, if_pos (by simp; omega), haU]
    simp only [Option.bind_some, S_size]
    rw [if_neg (by simp), if_pos (by omega), if_pos (by omega), S_append, show (⟨#[10]⟩ : ByteArray) = S [10] from rfl, S_append, Int.toNat_natCast, B_drop]
    have ed : (a ++ 13 :: 10 :: (stuffU ls ++ [46, 13, 10])).drop (a.length + 2) = stuffU ls ++ [46, 13, 10] := by
      rw [← List.drop_drop, List.drop_left]
      rfl
    rw [ed]
    exact h1 k (by omega)
theorem mem_unl {ls : List (List UInt8)} {l : List UInt8} {c : UInt8} (h : l ∈ ls) (hc : c ∈ l) : c ∈ unl ls := by
  unfold unl
  rw [List.mem_flatten]
  exact ⟨l ++ [10], List.mem_map.2 ⟨l, h, rfl⟩, by simp [hc]⟩
theorem DotsBack : ∀ (l0 : List Int), l0.length ≤ 9223372036854775807 → l0.length * 1 ≤ 140737488351232 → (∀ x ∈ l0, (Lit.int .u8 x).wf = true) → ∃ k, pillarboxlaw08_DotsBack.f k l0 = some true := by
  intro l0 _ _ hw
  obtain ⟨u, rfl⟩ := exB l0 hw
  refine Ev.rounds (r := true) ?_
  obtain ⟨KA, hA⟩ := answers_f
  dsimp only at hA
  have hjt : ∀ k, KA ≤ k → pillarboxlaw08_DotsBack.j0 (k + 1) (B u) true = some true := by
    intro k hk
    rw [pillarboxlaw08_DotsBack.j0, if_pos rfl, hA k hk]
    rfl
  by_cases hlen : u.length > 2000
  · refine ⟨KA + 1, fun k hk => ?_⟩
    obtain ⟨k, rfl⟩ : ∃ m, k = m + 1 := ⟨k - 1, by omega⟩
    dsimp only
    unfold pillarboxlaw08_DotsBack.f
    rw [B_length, if_pos (by omega), hjt k (by omega)]
  · obtain ⟨KU, hU⟩ := body_f u (by omega)
    dsimp only at hU
    cases hb : isBody u with
    | false =>
      rw [hb] at hU
      refine ⟨KA + KU + 1, fun k hk => ?_⟩
      obtain ⟨k, rfl⟩ : ∃ m, k = m + 1 := ⟨k - 1, by omega⟩
      dsimp only
      unfold pillarboxlaw08_DotsBack.f
      rw [B_length, if_neg (by omega), hU _ (by omega), Option.bind_some, show (!false) = true from rfl, hjt k (by omega)]
    | true =>
      rw [hb] at hU
      obtain ⟨ls, t, rfl, hl, ht⟩ := decomp u
      obtain ⟨h13, rfl⟩ := (isBody_decomp ht).1 hb
      rw [List.append_nil] at *
      have hsl := stuffU_length ls
      obtain ⟨K1, h1⟩ := stuff_f hl h13 (by omega)
      obtain ⟨K2, h2⟩ := back_l0 (unl ls) ls [] rfl (fun l hx hc => h13 (mem_unl hx hc)) (by simp; omega)
      dsimp only at h1 h2
      refine ⟨KU + K1 + K2 + 1, fun k hk => ?_⟩
      obtain ⟨k, rfl⟩ : ∃ m, k = m + 1 := ⟨k - 1, by omega⟩
      dsimp only
      unfold pillarboxlaw08_DotsBack.f
      rw [B_length, if_neg (by omega), hU _ (by omega), Option.bind_some, show (!true) = false from rfl, pillarboxlaw08_DotsBack.j0, if_neg (by simp), h1 _ (by omega)]
      simp only [Option.bind_some, S_size]
      rw [if_pos (by simp; omega), bytesOf_S]
      exact h2 k (by omega)
end Go.Proofs.Ythdjeikfbbdehaa.Pure
