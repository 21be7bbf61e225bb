import Derived.Test.YthdjeikfbbdehaaDotsPure
namespace Go.Proofs.Ythdjeikfbbdehaa.Pure
open Go.RowKit Go.Proofs.Ythdjeikfbbdehaa.PALL Go.Proofs.Ythdjeikfbbdehaa.Plain Go.Proofs.YthdjeikfbbdehaaW.PrintWords
set_option linter.unusedVariables false
set_option linter.unusedSimpArgs false
theorem joins_l0 (xs ys : List (List UInt8)) (hz : xs.length + ys.length ≤ 1000000) (d : Nat) : ∀ i : Nat, i + d = xs.length + ys.length →
    Ev (fun k => pillarboxlaw08_DotsJoins.l0 k (xs.map S) (ys.map S) ((xs ++ ys).map S) (i : Int)) true := by
  obtain ⟨KA, hA⟩ := answers_f
  dsimp only at hA
  induction d with
  | zero =>
    intro i hi
    refine Ev.succ ⟨KA, fun k hk => ?_⟩
    rw [pillarboxlaw08_DotsJoins.l0, List.length_map, List.length_append, if_neg (by omega), hA k hk]
    rfl
  | succ d ih =>
    intro i hi
    obtain ⟨K, hK⟩ := ih (i + 1) (by omega)
    dsimp only at hK
    refine Ev.succ ⟨K, fun k hk => ?_⟩
    rw [pillarboxlaw08_DotsJoins.l0, List.length_map, List.length_map, List.length_map, List.length_append, if_pos (by omega)]
    by_cases ha : i < xs.length
    · have e1 : rdOf ByteArray.empty ((xs ++ ys).map S) (i : Int) = S xs[i] := by simp [rdOf, List.getD, List.getElem?_append_left, ha]
      have e2 : rdOf ByteArray.empty (xs.map S) (i : Int) = S xs[i] := by simp [rdOf, List.getD, ha]
      rw [if_pos (by omega), if_pos (by omega), e1, e2, if_pos rfl, if_neg (by omega), wrap_succ (by omega)]
      exact hK k hk
    · have hb : i - xs.length < ys.length := by omega
      have e0 : wrap64 ((i : Int) - (xs.length : Int)) = ((i - xs.length : Nat) : Int) := by rw [wrap_in (by omega) (by omega)]; omega
      have e1 : rdOf ByteArray.empty ((xs ++ ys).map S) (i : Int) = S ys[i - xs.length] := by
        have h1 : xs.length ≤ i := by omega
        simp [rdOf, List.getD, List.getElem?_append_right, h1, hb]
      have e2 : rdOf ByteArray.empty (ys.map S) ((i - xs.length : Nat) : Int) = S ys[i - xs.length] := by simp [rdOf, List.getD, hb]
      rw [if_neg (by omega), if_pos (by omega), if_pos (by omega), e0, if_pos (by omega), if_pos (by omega), e1, e2, if_pos rfl, wrap_succ (by omega)]
      exact hK k hk
theorem lines_body {ls : List (List UInt8)} (h1 : ∀ l ∈ ls, (10 : UInt8) ∉ l) (h13 : 13 ∉ unl ls) (hz : (unl ls).length ≤ 300000) : Ev (fun k => dots_Lines.f k (B (unl ls))) (ls.map S, true) := by
  have hl := unl_length ls
  obtain ⟨K, hK⟩ := lines_l0 [] (by simp) ls [] h1 (by simp; omega) (by simp; omega)
  dsimp only at hK
  rw [if_pos rfl, List.nil_append, List.append_nil] at hK
  refine ⟨K, fun k hk => ?_⟩
  dsimp only
  unfold dots_Lines.f
  rw [strOfNums_B, show (⟨#[13]⟩ : ByteArray) = S [13] from rfl, contains_S _ _ (by omega)]
  simp only [Option.bind_some, decide_eq_true_eq]
  rw [if_neg h13, hK k hk]
theorem joins_bodies (xs ys : List (List UInt8)) (hl : ∀ l ∈ xs, (10 : UInt8) ∉ l) (hl' : ∀ l ∈ ys, (10 : UInt8) ∉ l) (h13 : 13 ∉ unl xs) (h13' : 13 ∉ unl ys) (hbu : isBody (unl xs) = true) (hbv : isBody (unl ys) = true)
    (hlen : (unl xs).length + (unl ys).length ≤ 1000) : Ev (fun k => pillarboxlaw08_DotsJoins.f k (B (unl xs)) (B (unl ys))) true := by
  have hla := unl_length xs
  have hlb := unl_length ys
  have hw : wrap64 (((unl xs).length : Int) + ((unl ys).length : Int)) = ((unl xs).length : Int) + ((unl ys).length : Int) := wrap_in (by omega) (by omega)
  have hwl : wrap64 ((xs.length : Int) + (ys.length : Int)) = (xs.length : Int) + (ys.length : Int) := wrap_in (by omega) (by omega)
  obtain ⟨KU, hU⟩ := body_f (unl xs) (by omega)
  obtain ⟨KV, hV⟩ := body_f (unl ys) (by omega)
  obtain ⟨K1, h1⟩ := lines_body hl h13 (by omega)
  obtain ⟨K2, h2⟩ := lines_body hl' h13' (by omega)
  obtain ⟨K3, h3⟩ := lines_body (ls := xs ++ ys) (fun x hx => (List.mem_append.1 hx).elim (hl x) (hl' x)) (by rw [unl_append]; simp [h13, h13']) (by rw [unl_append]; simp; omega)
  obtain ⟨K4, h4⟩ := joins_l0 xs ys (by omega) (xs.length + ys.length) 0 (by omega)
  dsimp only at hU hV h1 h2 h3 h4
  rw [hbu] at hU
  rw [hbv] at hV
  rw [unl_append] at h3
  refine ⟨KU + KV + K1 + K2 + K3 + K4 + 3, fun k hk => ?_⟩
  obtain ⟨k, rfl⟩ : ∃ m, k = m + 2 := ⟨k - 2, by omega⟩
  have g1 := hU (k + 2) (by omega)
  have g2 := hV (k + 2) (by omega)
  have g3 := h1 (k + 1) (by omega)
  have g4 := h2 (k + 1) (by omega)
  have g5 := h3 (k + 1) (by omega)
  have g6 := h4 k (by omega)
  clear hU hV h1 h2 h3 h4 hk
  have hj1 : pillarboxlaw08_DotsJoins.j1 (k + 1) (xs.map S) (ys.map S) ((xs ++ ys).map S) false = some true := by
    rw [pillarboxlaw08_DotsJoins.j1, if_neg (by simp)]
    exact g6
  have hj0 : pillarboxlaw08_DotsJoins.j0 (k + 2) (B (unl xs)) (B (unl ys)) false = some true := by
    rw [pillarboxlaw08_DotsJoins.j0, if_neg (by simp), g3, Option.bind_some, g4, Option.bind_some, Option.bind_some, if_pos (by rw [B_length, List.length_nil]; omega), Option.bind_some, if_pos (by rw [List.nil_append, B_length, B_length]; omega), List.nil_append, B_append, g5, Option.bind_some, if_pos rfl]
    simp only [List.length_map, List.length_append]
    have hne : ((((xs.length + ys.length : Nat)) : Int) != wrap64 ((xs.length : Int) + (ys.length : Int))) = false := by
      rw [hwl, bne_eq_false_iff_eq]; omega
    rw [hne]
    exact hj1
  dsimp only
  unfold pillarboxlaw08_DotsJoins.f
  rw [B_length, B_length, hw, if_neg (by omega), g1, Option.bind_some, if_pos rfl, g2, Option.bind_some]
  exact hj0
theorem DotsJoins : ∀ (l0 : List Int) (l1 : List Int), l0.length ≤ 9223372036854775807 → l0.length * 1 ≤ 140737488351232 → (∀ x ∈ l0, (Lit.int .u8 x).wf = true) → l1.length ≤ 9223372036854775807 → l1.length * 1 ≤ 140737488351232 → (∀ x ∈ l1, (Lit.int .u8 x).wf = true) → ∃ k, pillarboxlaw08_DotsJoins.f k l0 l1 = some true := by
  intro l0 l1 _ hz0 hw0 _ hz1 hw1
  obtain ⟨u, rfl⟩ := exB l0 hw0
  obtain ⟨v, rfl⟩ := exB l1 hw1
  rw [B_length] at hz0 hz1
  refine Ev.rounds (r := true) ?_
  obtain ⟨KA, hA⟩ := answers_f
  dsimp only at hA
  have hjt : ∀ k, KA ≤ k → pillarboxlaw08_DotsJoins.j0 (k + 1) (B u) (B v) true = some true := by
    intro k hk
    rw [pillarboxlaw08_DotsJoins.j0, if_pos rfl, hA k hk]
    rfl
  have hw : wrap64 ((u.length : Int) + (v.length : Int)) = (u.length : Int) + (v.length : Int) := wrap_in (by omega) (by omega)
  by_cases hlen : u.length + v.length > 1000
  · refine ⟨KA + 1, fun k hk => ?_⟩
    obtain ⟨k, rfl⟩ : ∃ m, k = m + 1 := ⟨k - 1, by omega⟩
    dsimp only
    unfold pillarboxlaw08_DotsJoins.f
    rw [B_length, B_length, hw, if_pos (by omega), hjt k (by omega)]
  · obtain ⟨KU, hU⟩ := body_f u (by omega)
    obtain ⟨KV, hV⟩ := body_f v (by omega)
    dsimp only at hU hV
    by_cases hb : isBody u = true ∧ isBody v = true
    · obtain ⟨hbu, hbv⟩ := hb
      obtain ⟨xs, t, rfl, hl, ht⟩ := decomp u
      obtain ⟨h13, rfl⟩ := (isBody_decomp ht).1 hbu
      obtain ⟨ys, t, rfl, hl', ht'⟩ := decomp v
      obtain ⟨h13', rfl⟩ := (isBody_decomp ht').1 hbv
      simp only [List.append_nil] at *
      exact joins_bodies xs ys hl hl' h13 h13' hbu hbv (by omega)
    · refine ⟨KA + KU + KV + 1, fun k hk => ?_⟩
      obtain ⟨k, rfl⟩ : ∃ m, k = m + 1 := ⟨k - 1, by omega⟩
      dsimp only
      unfold pillarboxlaw08_DotsJoins.f
      rw [B_length, B_length, hw, if_neg (by omega), hU _ (by omega), Option.bind_some]
      cases hbu : isBody u with
      | false => rw [if_neg (by simp), hjt k (by omega)]
      | true =>
        have hbv : isBody v = false := by
          cases h : isBody v with
          | false => rfl
          | true => exact absurd ⟨hbu, h⟩ hb
        rw [if_pos rfl, hV _ (by omega), Option.bind_some, hbv, show (!false) = true from rfl, hjt k (by omega)]
end Go.Proofs.Ythdjeikfbbdehaa.Pure
