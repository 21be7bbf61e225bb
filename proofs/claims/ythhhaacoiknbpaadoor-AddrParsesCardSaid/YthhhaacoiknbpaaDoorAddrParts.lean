/- The pure side of layer 5: a mailbox's parts, by lists of bytes. -/
import Derived.Test.YthhhaacoiknbpaaDoorAddrPure
namespace Go.Proofs.YthhhaacoiknbpaaDoor.Pure
open Go.RowKit Go.Proofs.YthhhaacoiknbpaaDoor.PALL Go.Proofs.YthhhaacoiknbpaaDoor.Plain Go.Proofs.YthhhaacoiknbpaaDoorW.PrintWords
set_option linter.unusedVariables false
set_option linter.unusedSimpArgs false

def partsB (u : List UInt8) : Option (List UInt8 × List UInt8) :=
  if 64 ∈ u then
    (if (localB (u.takeWhile (· ≠ 64)) && (domB ((u.dropWhile (· ≠ 64)).drop 1) && decide (u.length ≤ 64))) = true then some (u.takeWhile (· ≠ 64), ((u.dropWhile (· ≠ 64)).drop 1).map smallB) else none)
  else none
theorem first_take {c : UInt8} {a : List UInt8} (h : c ∉ a) (b : List UInt8) : (a ++ c :: b).takeWhile (· ≠ c) = a ∧ (a ++ c :: b).dropWhile (· ≠ c) = c :: b := by
  induction a with
  | nil => simp
  | cons x a ih =>
    have hx : ¬ x = c := fun e => h (by simp [e])
    have := ih (fun e => h (by simp [e]))
    simp [hx] at this ⊢
    exact this
theorem parts_none {u : List UInt8} (h : 64 ∉ u) : partsB u = none := by rw [partsB, if_neg h]
theorem parts_app {a : List UInt8} (h : 64 ∉ a) (b : List UInt8) : partsB (a ++ 64 :: b) = if (localB a && (domB b && decide ((a ++ 64 :: b).length ≤ 64))) = true then some (a, b.map smallB) else none := by
  rw [partsB, if_pos (by simp), (first_take h b).1, (first_take h b).2]
  rfl
theorem parts_some {u n d : List UInt8} (h : partsB u = some (n, d)) : ∃ b, 64 ∉ n ∧ u = n ++ 64 :: b ∧ localB n = true ∧ domB b = true ∧ u.length ≤ 64 ∧ d = b.map smallB := by
  by_cases hc : 64 ∈ u
  · obtain ⟨a, b, rfl, ha⟩ := List.eq_append_cons_of_mem hc
    rw [parts_app ha] at h
    by_cases hx : (localB a && (domB b && decide ((a ++ 64 :: b).length ≤ 64))) = true
    · rw [if_pos hx] at h
      simp only [Option.some.injEq, Prod.mk.injEq] at h
      obtain ⟨rfl, rfl⟩ := h
      simp only [Bool.and_eq_true, decide_eq_true_eq] at hx
      exact ⟨b, ha, rfl, hx.1, hx.2.1, hx.2.2, rfl⟩
    · rw [if_neg hx] at h
      cases h
  · rw [parts_none hc] at h
    cases h
def toSplit : Option (List UInt8 × List UInt8) → ByteArray × ByteArray × Bool
  | none => (S [], S [], false)
  | some (n, d) => (S n, S d, true)
def toParse : Option (List UInt8 × List UInt8) → ByteArray × Bool
  | none => (S [], false)
  | some (n, d) => (S (n ++ 64 :: d), true)

theorem dom_bytes (u : List UInt8) : (cuts 46 u).all labelB = true → ∀ x ∈ u, okB [45] x = true ∨ x = 46 := by
  induction u using split_ind 46 with
  | h0 u h =>
    intro hl x hx
    rw [cuts_none h] at hl
    simp only [List.all_cons, List.all_nil, Bool.and_true, labelB, Bool.and_eq_true, List.all_eq_true] at hl
    exact Or.inl (hl.2.1 x hx)
  | h1 a b h ih =>
    intro hl x hx
    rw [cuts_app h, List.all_cons, Bool.and_eq_true] at hl
    rcases List.mem_append.1 hx with hx | hx
    · have := hl.1
      simp only [labelB, Bool.and_eq_true, List.all_eq_true] at this
      exact Or.inl (this.2.1 x hx)
    · rcases List.mem_cons.1 hx with rfl | hx
      · exact Or.inr rfl
      · exact ih hl.2 x hx
theorem plainB_lt {b : UInt8} (h : plainB b = true) : b.toNat < 123 := by
  simp only [plainB, decide_eq_true_eq] at h
  omega
theorem dom_ascii {u : List UInt8} (h : domB u = true) : ∀ x ∈ u, x.toNat < 128 := by
  intro x hx
  rw [domB, Bool.and_eq_true] at h
  rcases dom_bytes u h.1 x hx with h | rfl
  · rw [okL, Bool.or_eq_true] at h
    rcases h with h | h
    · have := plainB_lt h; omega
    · rw [beq_iff_eq] at h; subst h; decide
  · decide
theorem lower_small (b : UInt8) : Lib.lowerB b = smallB b := by
  simp [Lib.lowerB, Lib.isUpperB, smallB, UInt8.le_iff_toNat_le]
theorem toLower_f {u : List UInt8} (hz : u.length ≤ 1000000) (h : ∀ x ∈ u, x.toNat < 128) : strings_ToLower.f (S u) = some (S (u.map smallB)) := by
  unfold strings_ToLower.f
  rw [if_pos ⟨by simpa using hz, h⟩, S_data, Lib.toLowerA, show Lib.lowerB = smallB from funext lower_small]
  rfl
theorem small_f {u : List UInt8} (hz : u.length ≤ 1000000) : pillarboxref05_Small.f (S u) = some (S (u.map smallB)) := by
  unfold pillarboxref05_Small.f
  rw [if_pos (by simpa using hz)]
  rfl
theorem great_f {u : List UInt8} (hz : u.length ≤ 1000000) : pillarboxref05_Great.f (S u) = some (S (u.map greatB)) := by
  unfold pillarboxref05_Great.f
  rw [if_pos (by simpa using hz)]
  rfl
theorem cut_found {a b : List UInt8} {c : UInt8} (h : c ∉ a) (hs : (a ++ c :: b).length < 4294967281) : strings_Cut.f (S (a ++ c :: b)) (S [c]) = some (S a, S b, true) := by
  unfold strings_Cut.f
  rw [if_pos (by simpa using hs)]
  simp only [S_data, cut_one a b c h]
  rfl
theorem cut_not {a : List UInt8} {c : UInt8} (h : c ∉ a) (hs : a.length < 4294967281) : strings_Cut.f (S a) (S [c]) = some (S a, S [], false) := by
  unfold strings_Cut.f
  rw [if_pos (by simpa using hs)]
  simp only [S_data, cut_none a c h]
  rfl

theorem addrSplit_f (u : List UInt8) (hz : u.length ≤ 500000) : Ev (fun k => addr_Split.f k (S u)) (toSplit (partsB u)) := by
  by_cases hc : 64 ∈ u
  · obtain ⟨a, b, rfl, ha⟩ := List.eq_append_cons_of_mem hc
    have hl : (a ++ 64 :: b).length = a.length + b.length + 1 := by simp; omega
    obtain ⟨K, hK⟩ := dom_f b (by omega)
    dsimp only at hK
    refine ⟨K, fun k hk => ?_⟩
    dsimp only
    unfold addr_Split.f
    rw [show (⟨#[64]⟩ : ByteArray) = S [64] from rfl, cut_found ha (by omega), parts_app ha]
    simp only [Option.bind_some, if_true]
    rw [local_f _ (by omega), hK k hk]
    simp only [Option.bind_some]
    cases h1 : localB a
    · rfl
    · cases h2 : domB b
      · rfl
      · rw [if_pos rfl, if_pos rfl, S_size]
        by_cases h3 : (a ++ 64 :: b).length ≤ 64
        · rw [if_neg (by omega), toLower_f (by omega) (dom_ascii h2), decide_eq_true h3]
          rfl
        · rw [if_pos (by omega), decide_eq_false h3]
          rfl
  · refine ⟨0, fun k _ => ?_⟩
    dsimp only
    unfold addr_Split.f
    rw [show (⟨#[64]⟩ : ByteArray) = S [64] from rfl, cut_not hc (by omega), parts_none hc]
    rfl
theorem refsplit_scan (u : List UInt8) (hz : u.length ≤ 4611686018427387000) (e : Nat) (he : e ≤ u.length) (r : ByteArray × ByteArray × Bool)
    (hend : Ev (fun k => pillarboxref05_Split.l0 k (S u) (e : Int)) r) (d : Nat) : ∀ i : Nat, i + d = e → (∀ j (hj : j < u.length), i ≤ j → j < e → u[j] ≠ 64) →
    Ev (fun k => pillarboxref05_Split.l0 k (S u) (i : Int)) r := by
  induction d with
  | zero =>
    intro i hi _
    have : i = e := by omega
    subst this
    exact hend
  | succ d ih =>
    intro i hi hne
    obtain ⟨K, hK⟩ := ih (i + 1) (by omega) (fun j hj h1 h2 => hne j hj (by omega) h2)
    dsimp only at hK
    refine Ev.succ ⟨K, fun k hk => ?_⟩
    have hlt : i < u.length := by omega
    rw [pillarboxref05_Split.l0, S_size, if_pos (by omega), if_pos (by omega), bt_S hlt, if_neg (fun e => hne i hlt (Nat.le_refl _) (by omega) ((u8_is (n := 64) 64 rfl).1 e)), wrap_succ (by omega)]
    exact hK k hk
theorem refSplit_f (u : List UInt8) (hz : u.length ≤ 4611686018427387000) : Ev (fun k => pillarboxref05_Split.f k (S u)) (toSplit (partsB u)) := by
  by_cases hc : 64 ∈ u
  · obtain ⟨a, b, rfl, ha⟩ := List.eq_append_cons_of_mem hc
    have hl : (a ++ 64 :: b).length = a.length + b.length + 1 := by simp; omega
    refine refsplit_scan _ hz a.length (by omega) _ ?_ a.length 0 (by omega) ?_
    · have hlt : a.length < (a ++ 64 :: b).length := by omega
      have hget : (a ++ 64 :: b)[a.length]'hlt = 64 := by simp
      by_cases h64 : (a ++ 64 :: b).length ≤ 64
      · obtain ⟨K1, h1⟩ := refloc_f a (by omega)
        obtain ⟨K2, h2⟩ := refdom_f b (by omega)
        dsimp only at h1 h2
        have hx1 : (S (a ++ 64 :: b)).extract 0 a.length = S a := by rw [S_extract, List.take_left' rfl]; rfl
        have hx2 : (S (a ++ 64 :: b)).extract (a.length + 1) (a ++ 64 :: b).length = S b := by
          rw [S_extract, List.take_length, show a ++ 64 :: b = (a ++ [64]) ++ b by simp, List.drop_left' (by simp)]
        refine Ev.succ ⟨K1 + K2, fun k hk => ?_⟩
        rw [pillarboxref05_Split.l0, S_size, if_pos (by omega), if_pos (by omega), bt_S hlt, hget, if_pos (show (((64 : UInt8).toNat : Nat) : Int) = 64 from rfl), if_neg (by omega), if_pos (by omega), Int.toNat_natCast, hx1, h1 k (by omega), parts_app ha, wrap_succ (by omega), if_pos (by omega), if_pos (by omega), Int.toNat_natCast, hx2, h2 k (by omega), small_f (by omega), decide_eq_true h64]
        simp only [Option.bind_some]
        cases localB a
        · rfl
        · cases domB b
          · rfl
          · rfl
      · refine Ev.succ ⟨0, fun k hk => ?_⟩
        rw [pillarboxref05_Split.l0, S_size, if_pos (by omega), if_pos (by omega), bt_S hlt, hget, if_pos (show (((64 : UInt8).toNat : Nat) : Int) = 64 from rfl), if_pos (by omega), parts_app ha, decide_eq_false h64, Bool.and_false, Bool.and_false, if_neg (by simp)]
        rfl
    · intro j hj h1 h2
      rw [List.getElem_append_left h2]
      intro e
      exact ha (e ▸ List.getElem_mem _)
  · refine refsplit_scan _ hz u.length (Nat.le_refl _) _ ?_ u.length 0 (by omega) ?_
    · refine Ev.succ ⟨0, fun k hk => ?_⟩
      rw [pillarboxref05_Split.l0, S_size, if_neg (by omega), parts_none hc]
      rfl
    · intro j hj h1 h2 e
      exact hc (e ▸ List.getElem_mem _)
theorem addrParse_f (u : List UInt8) (hz : u.length ≤ 500000) : Ev (fun k => addr_Parse.f k (S u)) (toParse (partsB u)) := by
  obtain ⟨K, hK⟩ := addrSplit_f u hz
  dsimp only at hK
  refine ⟨K, fun k hk => ?_⟩
  dsimp only
  unfold addr_Parse.f
  rw [hK k hk]
  cases h : partsB u with
  | none => rfl
  | some p =>
    obtain ⟨n, d⟩ := p
    obtain ⟨b, h1, h2, h3, h4, h5, h6⟩ := parts_some h
    have hl : n.length + d.length ≤ 64 := by
      have := congrArg List.length h2
      rw [h6, List.length_map]
      simp at this
      omega
    simp only [Option.bind_some, toSplit, toParse, if_true, S_size]
    rw [if_pos (by omega), if_pos (by omega), show (⟨#[64]⟩ : ByteArray) = S [64] from rfl, S_append, S_append]
    simp
theorem refParse_f (u : List UInt8) (hz : u.length ≤ 4611686018427387000) : Ev (fun k => pillarboxref05_Parse.f k (S u)) (toParse (partsB u)) := by
  obtain ⟨K, hK⟩ := refSplit_f u hz
  dsimp only at hK
  refine ⟨K, fun k hk => ?_⟩
  dsimp only
  unfold pillarboxref05_Parse.f
  rw [hK k hk]
  cases h : partsB u with
  | none => rfl
  | some p =>
    obtain ⟨n, d⟩ := p
    obtain ⟨b, h1, h2, h3, h4, h5, h6⟩ := parts_some h
    have hl : n.length + d.length ≤ 64 := by
      have := congrArg List.length h2
      rw [h6, List.length_map]
      simp at this
      omega
    simp only [Option.bind_some, toSplit, toParse, if_true, S_size]
    rw [if_pos (by omega), if_pos (by omega), show (⟨#[64]⟩ : ByteArray) = S [64] from rfl, S_append, S_append]
    simp
theorem answers_f : Ev (fun k => pillarboxlaw05_answers.f k) true := by
  obtain ⟨K1, h1⟩ := addrParse_f [65, 110, 110, 46, 66, 64, 77, 120, 46, 84, 101, 115, 116] (by decide)
  obtain ⟨K2, h2⟩ := addrParse_f [97, 64, 98, 45] (by decide)
  obtain ⟨K3, h3⟩ := dom_f [97, 46, 98] (by decide)
  dsimp only at h1 h2 h3
  have e1 : partsB [65, 110, 110, 46, 66, 64, 77, 120, 46, 84, 101, 115, 116] = some ([65, 110, 110, 46, 66], [109, 120, 46, 116, 101, 115, 116]) := by decide
  have e2 : partsB [97, 64, 98, 45] = none := by decide
  have e3 : domB [97, 46, 98] = true := by decide
  rw [e1] at h1
  rw [e2] at h2
  rw [e3] at h3
  refine ⟨K1 + K2 + K3, fun k hk => ?_⟩
  dsimp only
  unfold pillarboxlaw05_answers.f
  rw [show (⟨#[65, 110, 110, 46, 66, 64, 77, 120, 46, 84, 101, 115, 116]⟩ : ByteArray) = S [65, 110, 110, 46, 66, 64, 77, 120, 46, 84, 101, 115, 116] from rfl, h1 k (by omega), show (⟨#[97, 64, 98, 45]⟩ : ByteArray) = S [97, 64, 98, 45] from rfl, h2 k (by omega), show (⟨#[97, 46, 98]⟩ : ByteArray) = S [97, 46, 98] from rfl, h3 k (by omega)]
  simp only [Option.bind_some, toParse, S_toList]
  rfl
end Go.Proofs.YthhhaacoiknbpaaDoor.Pure
