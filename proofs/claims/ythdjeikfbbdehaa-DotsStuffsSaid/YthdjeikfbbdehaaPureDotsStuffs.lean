import Derived.Test.YthdjeikfbbdehaaDotsPure
namespace Go.Proofs.Ythdjeikfbbdehaa.Pure
open Go.RowKit Go.Proofs.Ythdjeikfbbdehaa.PALL Go.Proofs.Ythdjeikfbbdehaa.Plain Go.Proofs.YthdjeikfbbdehaaW.PrintWords
/-- the reference, inside a line -/
theorem ref_scan (u : List UInt8) (s : ByteArray) (r : ByteArray) (hz : u.length ≤ 1000000) (pre l post : List UInt8) (hu : u = pre ++ l ++ 10 :: post) (h10 : (10 : UInt8) ∉ l) (d : Nat) : ∀ j : Nat, j + d = l.length →
    Ev (fun k => pillarboxref05_Stuff.l0 k (B u) s (pre.length : Int) ((pre.length + l.length : Nat) : Int)) r → Ev (fun k => pillarboxref05_Stuff.l0 k (B u) s (pre.length : Int) ((pre.length + j : Nat) : Int)) r := by
  induction d with
  | zero => intro j hj h; have : j = l.length := by omega
            subst this; exact h
  | succ d ih =>
    intro j hj h
    obtain ⟨K, hK⟩ := ih (j + 1) (by omega) h
    dsimp only at hK
    have hlu : u.length = pre.length + l.length + post.length + 1 := by rw [hu]; simp; omega
    have hlt : pre.length + j < u.length := by omega
    have hg : u[pre.length + j] = l[j]'(by omega) := by
      subst hu
      rw [List.getElem_append_left (by simp; omega), List.getElem_append_right (by omega)]
      simp
    have hne : ¬ ((u[pre.length + j].toNat : Int) = 10) := by
      intro e
      have := (u8_is 10 rfl).1 e
      rw [hg] at this
      exact h10 (this ▸ List.getElem_mem _)
    refine Ev.succ ⟨K, fun k hk => ?_⟩
    rw [pillarboxref05_Stuff.l0, B_length, if_pos (by omega), if_pos (by omega), rd_B hlt, if_neg hne, wrap_succ (by omega)]
    exact hK k hk
theorem ref_line (u : List UInt8) (s : List UInt8) (r : ByteArray) (hz : u.length ≤ 1000000) (hs : s.length ≤ 4000000) (pre l post : List UInt8) (hu : u = pre ++ l ++ 10 :: post)
    (h : Ev (fun k => pillarboxref05_Stuff.l0 k (B u) (S (s ++ stuff1 l)) ((pre.length + l.length + 1 : Nat) : Int) ((pre.length + l.length + 1 : Nat) : Int)) r) :
    Ev (fun k => pillarboxref05_Stuff.l0 k (B u) (S s) (pre.length : Int) ((pre.length + l.length : Nat) : Int)) r := by
  obtain ⟨K, hK⟩ := h
  dsimp only at hK
  have hlu : u.length = pre.length + l.length + post.length + 1 := by rw [hu]; simp; omega
  have hlt : pre.length + l.length < u.length := by omega
  have hg : u[pre.length + l.length] = 10 := by
    subst hu
    rw [List.getElem_append_right (by simp)]
    simp
  have h10 : ((u[pre.length + l.length].toNat : Int) = 10) := by rw [hg]; rfl
  have hcut : strOfNums (((B u).take ((pre.length + l.length : Nat) : Int).toNat).drop ((pre.length : Int)).toNat) = S l := by
    rw [Int.toNat_natCast, Int.toNat_natCast, B_take, B_drop, strOfNums_B]
    subst hu
    rw [List.take_append_of_le_length (by simp), List.take_of_length_le (by simp)]
    simp
  refine Ev.succ ⟨K, fun k hk => ?_⟩
  rw [pillarboxref05_Stuff.l0, B_length, if_pos (by omega), if_pos (by omega), rd_B hlt, if_pos h10, wrap_succ (by omega), hcut]
  cases l with
  | nil =>
    rw [if_neg (by simp), if_pos (by omega), if_pos (by simp), if_pos (by omega), S_size, S_size, if_pos (by simp; omega), if_pos (by simp; omega), S_append, show (⟨#[13, 10]⟩ : ByteArray) = S [13, 10] from rfl, S_append]
    have := hK k hk
    simpa [stuff1] using this
  | cons b l =>
    have hgp : u[pre.length]'(by omega) = b := by
      subst hu
      rw [List.getElem_append_left (by simp), List.getElem_append_right (by omega)]
      simp
    simp only [List.length_cons] at hlu hlt
    rw [if_pos (by simp only [List.length_cons]; omega), if_pos (by omega), if_pos (by omega), rd_B (by omega), hgp]
    by_cases hb : b = 46
    · subst hb
      have h46 : (((46 : UInt8).toNat : Int)) = 46 := rfl
      rw [if_pos h46, S_size, S_size, if_pos (by omega), if_pos (by omega), if_pos (by simp only [List.length_cons]; omega), if_pos (by simp only [List.length_cons]; omega), if_pos (by simp only [List.length_cons]; omega), show (⟨#[46]⟩ : ByteArray) = S [46] from rfl, S_append, S_append, show (⟨#[13, 10]⟩ : ByteArray) = S [13, 10] from rfl, S_append]
      have := hK k hk
      simpa [stuff1] using this
    · have hn : ¬ ((b.toNat : Int) = 46) := fun e => hb ((u8_is 46 rfl).1 e)
      have hn' : ¬ (46 : UInt8) = b := fun e => hb e.symm
      rw [if_neg hn, S_size, S_size, if_pos (by omega), if_pos (by simp only [List.length_cons]; omega), if_pos (by simp only [List.length_cons]; omega), if_pos (by simp only [List.length_cons]; omega), S_append, show (⟨#[13, 10]⟩ : ByteArray) = S [13, 10] from rfl, S_append]
      have := hK k hk
      simpa [stuff1, hn'] using this
theorem ref_all (u : List UInt8) (hz : u.length ≤ 1000000) (ls : List (List UInt8)) : ∀ (pre s : List UInt8), u = pre ++ unl ls → (∀ l ∈ ls, (10 : UInt8) ∉ l) → s.length + (stuffU ls).length ≤ 4000000 →
    Ev (fun k => pillarboxref05_Stuff.l0 k (B u) (S s) (pre.length : Int) (pre.length : Int)) (S (s ++ stuffU ls ++ [46, 13, 10])) := by
  induction ls with
  | nil =>
    intro pre s hu _ hs
    refine Ev.succ ⟨0, fun k _ => ?_⟩
    have hl : u.length = pre.length := by rw [hu]; simp [unl]
    rw [pillarboxref05_Stuff.l0, B_length, if_neg (by omega), S_size, if_pos (by omega), show (⟨#[46, 13, 10]⟩ : ByteArray) = S [46, 13, 10] from rfl, S_append]
    simp [stuffU]
  | cons l ls ih =>
    intro pre s hu h1 hs
    rw [unl_cons] at hu
    rw [stuffU_cons] at hs ⊢
    simp only [List.length_append] at hs
    have hu' : u = pre ++ l ++ 10 :: unl ls := by rw [hu]; simp
    have h2 := ih (pre ++ l ++ [10]) (s ++ stuff1 l) (by rw [hu']; simp) (fun x hx => h1 x (by simp [hx])) (by simp; omega)
    have e1 : (pre ++ l ++ [10]).length = pre.length + l.length + 1 := by simp; omega
    rw [e1] at h2
    have h3 := ref_line u s _ hz (by omega) pre l (unl ls) hu' h2
    have h4 := ref_scan u (S s) _ hz pre l (unl ls) hu' (h1 l (by simp)) l.length 0 (by omega) h3
    simpa using h4
theorem all_l0 (x0 : List Int) (x3 : ByteArray) (x4 : Bool) (x6 : Bool) (r : Bool) (ls : List (List UInt8)) (hz : (unl ls).length ≤ 1000000) (d : Nat) : ∀ i : Nat, i + d = ls.length →
    Ev (fun k => pillarboxlaw08_DotsStuffs.l0 k x0 x3 x4 (ls.map S) x6 (S (unl ls)) (ls.length : Int)) r → Ev (fun k => pillarboxlaw08_DotsStuffs.l0 k x0 x3 x4 (ls.map S) x6 (S (unl (ls.take i))) (i : Int)) r := by
  induction d with
  | zero => intro i hi h; have : i = ls.length := by omega
            subst this; rw [List.take_length]; exact h
  | succ d ih =>
    intro i hi h
    obtain ⟨K, hK⟩ := ih (i + 1) (by omega) h
    dsimp only at hK
    have hlt : i < ls.length := by omega
    have hg : rdOf ByteArray.empty (ls.map S) (i : Int) = S ls[i] := by simp [rdOf, List.getD, hlt]
    have ht : unl (ls.take (i + 1)) = unl (ls.take i) ++ ls[i] ++ [10] := by
      rw [List.take_succ_eq_append_getElem hlt, unl_append, unl_cons, unl_nil]; simp
    have hle : (unl (ls.take (i + 1))).length ≤ (unl ls).length := by
      conv => rhs; rw [← List.take_append_drop (i + 1) ls, unl_append]
      simp
    rw [ht] at hle hK
    simp only [List.length_append, List.length_singleton] at hle
    have hll := unl_length ls
    refine Ev.succ ⟨K, fun k hk => ?_⟩
    rw [pillarboxlaw08_DotsStuffs.l0, List.length_map, if_pos (by omega), if_pos (by omega), hg, S_size, S_size, if_pos (by omega), if_pos (by omega), S_append, show (⟨#[10]⟩ : ByteArray) = S [10] from rfl, S_append, wrap_succ (by omega)]
    exact hK k hk
theorem DotsStuffs : ∀ (l0 : List Int), l0.length ≤ 9223372036854775807 → l0.length * 1 ≤ 140737488351232 → (∀ x ∈ l0, (Lit.int .u8 x).wf = true) → ∃ k, pillarboxlaw08_DotsStuffs.f k l0 = some true := by
  intro l0 _ _ hw
  obtain ⟨u, rfl⟩ := exB l0 hw
  refine Ev.rounds (r := true) ?_
  obtain ⟨KA, hA⟩ := answers_f
  dsimp only at hA
  by_cases hlen : u.length > 2000
  · refine ⟨KA, fun k hk => ?_⟩
    dsimp only
    unfold pillarboxlaw08_DotsStuffs.f
    rw [B_length, if_pos (by omega), hA k hk]
    rfl
  · obtain ⟨KB, hB⟩ := body_f u (by omega)
    dsimp only at hB
    cases hb : isBody u with
    | false =>
      rw [hb] at hB
      obtain ⟨⟨K1, h1⟩, ⟨K2, h2⟩⟩ := stuff_not (u := u) (by omega) hb
      dsimp only at h1 h2
      refine ⟨KA + KB + K1 + K2, fun k hk => ?_⟩
      dsimp only
      unfold pillarboxlaw08_DotsStuffs.f
      rw [B_length, if_neg (by omega), h1 k (by omega), Option.bind_some, h2 k (by omega), Option.bind_some, hB k (by omega), Option.bind_some, if_neg (by simp), hA k (by omega)]
      simp
    | true =>
      rw [hb] at hB
      obtain ⟨ls, t, rfl, hl, ht, hE⟩ := lines_f u (by omega)
      obtain ⟨h13, rfl⟩ := (isBody_decomp ht).1 hb
      rw [if_neg h13, if_pos rfl] at hE
      rw [List.append_nil] at *
      obtain ⟨K1, h1⟩ := stuff_f hl h13 (by omega)
      obtain ⟨K2, h2⟩ := hE
      have hsz := stuffU_length ls
      obtain ⟨K3, h3⟩ := ref_all (unl ls) (by omega) ls [] [] rfl hl (by simp; omega)
      dsimp only at h1 h2 h3
      obtain ⟨K4, h4⟩ := all_l0 (B (unl ls)) (S (stuffU ls ++ [46, 13, 10])) true true true ls (by omega) ls.length 0 (by omega) ⟨KA + K3 + 1, fun k hk => by
        obtain ⟨m, rfl⟩ : ∃ m, k = m + 1 := ⟨k - 1, by omega⟩
        dsimp only
        rw [pillarboxlaw08_DotsStuffs.l0, List.length_map, if_neg (by omega), hA m (by omega), Option.bind_some, if_pos rfl, if_pos rfl, if_pos rfl]
        unfold pillarboxref05_Stuff.f
        have := h3 m (by omega)
        rw [show (⟨#[]⟩ : ByteArray) = S [] from rfl]
        simp only [List.length_nil, List.nil_append] at this
        rw [show ((0 : Nat) : Int) = 0 from rfl] at this
        rw [this, Option.bind_some, if_pos rfl, strOfNums_B]
        simp⟩
      dsimp only at h4
      refine ⟨KA + KB + K1 + K2 + K4, fun k hk => ?_⟩
      dsimp only
      unfold pillarboxlaw08_DotsStuffs.f
      rw [B_length, if_neg (by omega), h1 k (by omega), Option.bind_some, h2 k (by omega), Option.bind_some, hB k (by omega), Option.bind_some, if_pos rfl]
      have := h4 k (by omega)
      rw [List.take_zero, unl_nil] at this
      exact this
end Go.Proofs.Ythdjeikfbbdehaa.Pure
