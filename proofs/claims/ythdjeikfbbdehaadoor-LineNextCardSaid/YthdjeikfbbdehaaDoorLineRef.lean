/- ref05.Line: the first line of bytes: what it answers, in lists. -/
import Derived.Test.YthdjeikfbbdehaaDoorPREFx1
import Derived.Test.YthdjeikfbbdehaaDoorLineHas
namespace Go.Proofs.YthdjeikfbbdehaaDoor.LineFns
open Go.RowKit Go.Proofs.YthdjeikfbbdehaaDoor Go.Proofs.YthdjeikfbbdehaaDoor.Plain Go.Proofs.YthdjeikfbbdehaaDoorW.PrintWords Go.Proofs.YthdjeikfbbdehaaDoorW.PrintLast Go.Proofs.YthdjeikfbbdehaaDoorW.PrintMore
set_option linter.unusedVariables false
set_option linter.unusedSimpArgs false
theorem index_cons (b : UInt8) (u : List UInt8) : Lib.index (b :: u) [13, 10] = if b = 13 ∧ u.head? = some 10 then 0 else if Lib.index u [13, 10] = -1 then -1 else Lib.index u [13, 10] + 1 := by
  cases u with
  | nil => by_cases h : b = 13 <;> simp [Lib.index, List.isPrefixOf, h]
  | cons c u =>
    by_cases h : b = 13 ∧ c = 10
    · obtain ⟨rfl, rfl⟩ := h
      simp [Lib.index, List.isPrefixOf]
    · have h' : ¬ (13 = b ∧ 10 = c) := fun e => h ⟨e.1.symm, e.2.symm⟩
      have hp : List.isPrefixOf [(13 : UInt8), 10] (b :: c :: u) = false := by
        simp [List.isPrefixOf]
        intro e1 e2
        exact h' ⟨e1, e2⟩
      rw [Lib.index.eq_def]
      simp only [hp]
      simp [h]
      try rfl
theorem index_ge (u : List UInt8) : -1 ≤ Lib.index u [13, 10] := by
  induction u with
  | nil => decide
  | cons b u ih => rw [index_cons]; split; omega; split <;> omega
/-- bytes have a line, or none -/
theorem index_cases (u : List UInt8) : Lib.index u [13, 10] = -1 ∨ ∃ a r, u = a ++ 13 :: 10 :: r ∧ Lib.index (a ++ 13 :: 10 :: r) [13, 10] = (a.length : Int) := by
  induction u with
  | nil => exact .inl (by decide)
  | cons b u ih =>
    by_cases h : b = 13 ∧ u.head? = some 10
    · obtain ⟨rfl, h⟩ := h
      cases u with
      | nil => cases h
      | cons c u =>
        obtain rfl : c = 10 := by simpa using h
        exact .inr ⟨[], u, rfl, by rw [List.nil_append, index_cons]; simp⟩
    · rcases ih with h1 | ⟨a, r, rfl, h1⟩
      · left
        rw [index_cons, if_neg h, if_pos h1]
      · refine .inr ⟨b :: a, r, rfl, ?_⟩
        rw [List.cons_append, index_cons, if_neg h, h1, if_neg (by omega)]
        simp
theorem rd_mid (p s : List UInt8) (b : UInt8) : rd (B (p ++ b :: s)) (p.length : Int) = (b.toNat : Int) := by
  rw [rd_B (by simp)]
  simp
open PREF in
theorem l0_none (s : List UInt8) : ∀ (p : List UInt8) (k : Nat), (p ++ s).length ≤ 1000000 → Lib.index s [13, 10] = -1 → s.length < k → pillarboxref05_Line.l0 k (B (p ++ s)) (p.length : Int) = some (S [], 0) := by
  induction s with
  | nil =>
    intro p k hz hi hk
    obtain ⟨k, rfl⟩ : ∃ m, k = m + 1 := ⟨k - 1, by simp at hk; omega⟩
    rw [List.append_nil] at hz ⊢
    simp only [pillarboxref05_Line.l0]
    rw [wrap_succ (by omega), B_length, if_neg (by omega)]
    rfl
  | cons b s ih =>
    intro p k hz hi hk
    obtain ⟨k, rfl⟩ : ∃ m, k = m + 1 := ⟨k - 1, by simp at hk; omega⟩
    have hz' : p.length + s.length + 1 ≤ 1000000 := by simp at hz; omega
    rw [index_cons] at hi
    have hb : ¬ (b = 13 ∧ s.head? = some 10) := fun h => by rw [if_pos h] at hi; omega
    rw [if_neg hb] at hi
    have hi' : Lib.index s [13, 10] = -1 := by
      split at hi
      · assumption
      · have := index_ge s; omega
    have hrec := ih (p ++ [b]) k (by simpa using hz) hi' (by simp at hk; omega)
    simp only [List.append_assoc, List.singleton_append, List.length_append, List.length_cons, List.length_nil, Nat.zero_add] at hrec
    simp only [pillarboxref05_Line.l0]
    rw [wrap_succ (by omega), B_length]
    simp only [List.length_append, List.length_cons]
    cases s with
    | nil =>
      rw [if_neg (by simp)]
      rfl
    | cons c s =>
      rw [if_pos (by simp; omega), if_pos (by omega), if_pos (by omega), rd_mid]
      have e2 : rd (B (p ++ b :: c :: s)) ((p.length + 1 : Nat) : Int) = (c.toNat : Int) := by
        have := rd_mid (p ++ [b]) s c
        simpa using this
      rw [e2]
      by_cases h13 : (b.toNat : Int) = 13
      · have hb13 : b = 13 := (u8_is 13 rfl).1 h13
        have hc10 : ¬ (c.toNat : Int) = 10 := fun h => hb ⟨hb13, by have := (u8_is 10 rfl).1 h; simp [this]⟩
        rw [if_pos h13, if_pos (by omega), if_neg hc10]
        exact hrec
      · rw [if_neg h13]
        exact hrec
open PREF in
theorem l0_some (a : List UInt8) : ∀ (p r : List UInt8) (k : Nat), (p ++ (a ++ 13 :: 10 :: r)).length ≤ 1000000 → Lib.index (a ++ 13 :: 10 :: r) [13, 10] = (a.length : Int) → a.length < k → pillarboxref05_Line.l0 k (B (p ++ (a ++ 13 :: 10 :: r))) (p.length : Int) = some (S (p ++ a), ((p.length + a.length + 2 : Nat) : Int)) := by
  induction a with
  | nil =>
    intro p r k hz hi hk
    obtain ⟨k, rfl⟩ : ∃ m, k = m + 1 := ⟨k - 1, by omega⟩
    have hz' : p.length + r.length + 2 ≤ 1000000 := by simp at hz; omega
    simp only [pillarboxref05_Line.l0]
    rw [wrap_succ (by omega), B_length]
    simp only [List.nil_append, List.length_append, List.length_cons]
    rw [if_pos (by omega), if_pos (by omega), if_pos (by omega), rd_mid]
    have e2 : rd (B (p ++ 13 :: 10 :: r)) ((p.length + 1 : Nat) : Int) = ((10 : UInt8).toNat : Int) := by
      have := rd_mid (p ++ [13]) r 10
      simpa using this
    rw [e2, if_pos (by decide), if_pos (by omega), if_pos (by decide), if_pos (by omega)]
    rw [Int.toNat_natCast, B_take, List.take_left' rfl, strOfNums_B, List.append_nil, wrap_in (by omega) (by omega)]
    simp
  | cons b a ih =>
    intro p r k hz hi hk
    obtain ⟨k, rfl⟩ : ∃ m, k = m + 1 := ⟨k - 1, by simp at hk; omega⟩
    have hz' : p.length + a.length + r.length + 3 ≤ 1000000 := by simp at hz; omega
    rw [List.cons_append, index_cons] at hi
    have hb : ¬ (b = 13 ∧ (a ++ 13 :: 10 :: r).head? = some 10) := fun h => by rw [if_pos h] at hi; simp at hi; omega
    rw [if_neg hb] at hi
    have hi' : Lib.index (a ++ 13 :: 10 :: r) [13, 10] = (a.length : Int) := by
      split at hi
      · simp at hi; omega
      · simp at hi; omega
    have hrec := ih (p ++ [b]) r k (by simp at hz ⊢; omega) hi' (by simp at hk; omega)
    simp only [List.append_assoc, List.singleton_append, List.length_append, List.length_cons, List.length_nil, Nat.zero_add] at hrec
    simp only [pillarboxref05_Line.l0]
    rw [wrap_succ (by omega), B_length]
    simp only [List.cons_append, List.length_append, List.length_cons]
    rw [if_pos (by omega), if_pos (by omega), if_pos (by omega), rd_mid]
    obtain ⟨c, s, hcs⟩ : ∃ c s, a ++ 13 :: 10 :: r = c :: s := by
      cases a with
      | nil => exact ⟨_, _, rfl⟩
      | cons c a => exact ⟨_, _, rfl⟩
    have e2 : rd (B (p ++ b :: (a ++ 13 :: 10 :: r))) ((p.length + 1 : Nat) : Int) = (c.toNat : Int) := by
      rw [hcs]
      have := rd_mid (p ++ [b]) s c
      simpa using this
    rw [e2]
    have hfin : (some (S (p ++ b :: a), ((p.length + 1 + a.length + 2 : Nat) : Int)) : Option (ByteArray × Int)) = some (S (p ++ b :: a), ((p.length + (a.length + 1) + 2 : Nat) : Int)) := by congr 2; omega
    by_cases h13 : (b.toNat : Int) = 13
    · have hb13 : b = 13 := (u8_is 13 rfl).1 h13
      have hc10 : ¬ (c.toNat : Int) = 10 := fun h => hb ⟨hb13, by rw [hcs]; have := (u8_is 10 rfl).1 h; simp [this]⟩
      rw [if_pos h13, if_pos (by omega), if_neg hc10, hrec, hfin]
    · rw [if_neg h13, hrec, hfin]
theorem refNone {A : Option Addr} {n c : Nat} {u : List UInt8} {w : World} (hG : Glob w) (hr : ReadsInt w .u8 A (B u).length (B u)) (hn : n = u.length) (hc : n ≤ c) (hz : u.length ≤ 1000000) (hi : Lib.index u [13, 10] = -1) :
    Calls Tryd.prog 11 #[.slice A n c] w fun e w' => e = .returned (.tuple #[.string (S []), .int .i64 0]) ∧ Drawn0 w w' := by
  have := PREF.pillarboxref05_Line.calls (u.length + 1) A c (B u) (S []) 0 w (Kd.C_of_reads (d := (0 : Int)) (h1 := fun _ => rfl) hr) (by rw [B_length]; omega) hG (l0_none u [] (u.length + 1) (by simpa using hz) hi (by omega))
  rw [B_length, ← hn] at this
  exact this
theorem refSome {A : Option Addr} {n c : Nat} {a r : List UInt8} {w : World} (hG : Glob w) (hr : ReadsInt w .u8 A (B (a ++ 13 :: 10 :: r)).length (B (a ++ 13 :: 10 :: r))) (hn : n = (a ++ 13 :: 10 :: r).length) (hc : n ≤ c) (hz : (a ++ 13 :: 10 :: r).length ≤ 1000000) (hi : Lib.index (a ++ 13 :: 10 :: r) [13, 10] = (a.length : Int)) :
    Calls Tryd.prog 11 #[.slice A n c] w fun e w' => e = .returned (.tuple #[.string (S a), .int .i64 ((a.length + 2 : Nat) : Int)]) ∧ Drawn0 w w' := by
  have h0 := l0_some a [] r (a.length + 1) (by simpa using hz) hi (by omega)
  simp only [List.nil_append, List.length_nil, Nat.zero_add] at h0
  have := PREF.pillarboxref05_Line.calls (a.length + 1) A c (B (a ++ 13 :: 10 :: r)) (S a) ((a.length + 2 : Nat) : Int) w (Kd.C_of_reads (d := (0 : Int)) (h1 := fun _ => rfl) hr) (by rw [B_length]; omega) hG h0
  rw [B_length, ← hn] at this
  exact this
end Go.Proofs.YthdjeikfbbdehaaDoor.LineFns
