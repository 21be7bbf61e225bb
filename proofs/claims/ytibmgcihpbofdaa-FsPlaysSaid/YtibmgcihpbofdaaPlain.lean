/- Plain words for the laws' pure statements: bytes and strings as lists of UInt8. No program here. -/
import Derived.Test.YtibmgcihpbofdaaWMore
import Derived.Lib.IndexMore
import Derived.Lib.Strings
namespace Go.Proofs.Ytibmgcihpbofdaa.Plain
open Go.RowKit Go.Proofs.YtibmgcihpbofdaaW.PrintWords
set_option linter.unusedVariables false
set_option linter.unusedSimpArgs false

/-- a string of bytes; a slice of bytes -/
def S (u : List UInt8) : ByteArray := ⟨u.toArray⟩
def B (u : List UInt8) : List Int := u.map fun b => (b.toNat : Int)
theorem S_nil : (⟨#[]⟩ : ByteArray) = S [] := rfl
theorem S_of (s : ByteArray) : S s.data.toList = s := by cases s; simp [S]
theorem exS (s : ByteArray) : ∃ u, s = S u := ⟨_, (S_of s).symm⟩
@[simp] theorem S_data (u : List UInt8) : (S u).data.toList = u := rfl
@[simp] theorem S_size (u : List UInt8) : (S u).size = u.length := by simp [S, ByteArray.size]
@[simp] theorem S_toList (u : List UInt8) : (S u).toList = u := by rw [Lib.toList_data]; rfl
theorem S_append (u v : List UInt8) : S u ++ S v = S (u ++ v) := by
  have : (S u ++ S v).data.toList = u ++ v := by simp [S]
  rw [← this, S_of]
theorem S_inj {u v : List UInt8} (h : S u = S v) : u = v := by have := congrArg (fun s => s.data.toList) h; simpa using this
theorem S_extract (u : List UInt8) (i j : Nat) : (S u).extract i j = S ((u.take j).drop i) := by
  have : ((S u).extract i j).data.toList = (u.take j).drop i := by simp [S, List.extract_eq_take_drop, List.drop_take]
  rw [← this, S_of]
@[simp] theorem B_length (u : List UInt8) : (B u).length = u.length := by simp [B]
theorem B_append (u v : List UInt8) : B u ++ B v = B (u ++ v) := by simp [B]
theorem B_take (u : List UInt8) (n : Nat) : (B u).take n = B (u.take n) := by simp [B]
theorem B_drop (u : List UInt8) (n : Nat) : (B u).drop n = B (u.drop n) := by simp [B]
theorem strOfNums_B (u : List UInt8) : strOfNums (B u) = S u := by
  simp only [strOfNums, B, S, List.map_map]
  congr 2
  conv => rhs; rw [← List.map_id u]
  apply List.map_congr_left
  intro b _
  simp
theorem bytesOf_S (u : List UInt8) : bytesOf (S u) = B u := rfl
/-- every slice of bytes is one -/
theorem exB (l : List Int) (h : ∀ x ∈ l, (Lit.int .u8 x).wf = true) : ∃ u, l = B u := by
  refine ⟨l.map fun n => UInt8.ofNat n.toNat, ?_⟩
  simp only [B, List.map_map]
  conv => lhs; rw [← List.map_id l]
  apply List.map_congr_left
  intro x hx
  have hb := h x hx
  have hb1 : 0 ≤ x ∧ x ≤ 255 := by simp only [Lit.wf, Bool.and_eq_true, decide_eq_true_eq] at hb; exact hb
  simp
  omega
theorem rd_B {u : List UInt8} {i : Nat} (h : i < u.length) : rd (B u) (i : Int) = (u[i].toNat : Int) := by
  simp [rd, B, List.getD, h]
theorem bt_S {u : List UInt8} {i : Nat} (h : i < u.length) : bt (S u) (i : Int) = (u[i].toNat : Int) := by
  have h2 : ((i : Int)).toNat < (S u).size := by simpa using h
  rw [bt, dif_pos h2]
  rfl
theorem u8_eq {b : UInt8} {n : Nat} (hn : n < 256) : ((b.toNat : Int) = (n : Int)) ↔ b = UInt8.ofNat n := by
  constructor
  · intro h
    have h' : b.toNat = n := by omega
    subst h'
    simp
  · rintro rfl
    simp
    omega
theorem u8_is {b : UInt8} {n : Int} (m : UInt8) (hm : (m.toNat : Int) = n) : ((b.toNat : Int) = n) ↔ b = m := by
  subst hm
  constructor
  · intro h
    have h' : b.toNat = m.toNat := by omega
    exact UInt8.toNat_inj.1 h'
  · rintro rfl; rfl

/-! rounds -/
theorem Ev.succ {α : Type} {g : Nat → Option α} {r : α} (h : ∃ K, ∀ k, K ≤ k → g (k + 1) = some r) : Ev g r := by
  obtain ⟨K, h⟩ := h
  refine ⟨K + 1, fun k hk => ?_⟩
  obtain ⟨m, rfl⟩ : ∃ m, k = m + 1 := ⟨k - 1, by omega⟩
  exact h m (by omega)
theorem wrap_nat {n : Nat} (h : n ≤ 4611686018427387904) : wrap64 (n : Int) = (n : Int) := by unfold wrap64; omega
theorem wrap_succ {n : Nat} (h : n ≤ 4611686018427387904) : wrap64 ((n : Int) + 1) = ((n + 1 : Nat) : Int) := by unfold wrap64; omega
theorem wrap_in {n : Int} (h0 : -4611686018427387904 ≤ n) (h : n ≤ 4611686018427387904) : wrap64 n = n := by unfold wrap64; omega

/-! Lib's words at one byte -/
theorem index_one (u : List UInt8) (c : UInt8) : Lib.index u [c] = if c ∈ u then ((u.takeWhile (· ≠ c)).length : Int) else -1 := by
  induction u with
  | nil => simp [Lib.index]
  | cons b u ih =>
    simp only [Lib.index]
    by_cases hb : b = c
    · subst hb
      simp [List.isPrefixOf]
    · have hc : (c == b) = false := by simp; exact fun e => hb e.symm
      simp only [List.isPrefixOf, hc, Bool.false_and, Bool.false_eq_true, if_false]
      rw [ih]
      by_cases hm : c ∈ u
      · simp [hm, hb]
      · have hcb : ¬ c = b := fun e => hb e.symm
        simp [hm, hcb]
theorem contains_one (u : List UInt8) (c : UInt8) : Lib.contains u [c] = decide (c ∈ u) := by
  unfold Lib.contains
  rw [index_one]
  by_cases h : c ∈ u <;> simp [h]
theorem cut_one (a b : List UInt8) (c : UInt8) (h : c ∉ a) : Lib.cut (a ++ c :: b) [c] = (a, b, true) := by
  unfold Lib.cut
  have hi : Lib.index (a ++ c :: b) [c] = (a.length : Int) := by
    rw [index_one, if_pos (by simp)]
    have : (a ++ c :: b).takeWhile (· ≠ c) = a := by
      rw [List.takeWhile_append_of_pos]
      · simp
      · intro x hx
        simp
        rintro rfl
        exact h hx
    rw [this]
  rw [hi, if_pos (by omega)]
  simp
theorem cut_none (a : List UInt8) (c : UInt8) (h : c ∉ a) : Lib.cut a [c] = (a, [], false) := by
  unfold Lib.cut
  rw [index_one, if_neg h]
  simp
end Go.Proofs.Ytibmgcihpbofdaa.Plain
