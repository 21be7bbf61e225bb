/- Steps and settings as lines: plain data. No program here. -/
import Derived.Test.YtkcdlfkicopmoaaDoorStrList
import Derived.Lib.ItoaNum
import Derived.Lib.AtoiAll
import Derived.Lib.Strings
import Derived.Lib.Join
namespace Go.Proofs.YtkcdlfkicopmoaaDoor.Fs
open Go.RowKit Go.Proofs.YtkcdlfkicopmoaaDoorW.PrintWords Go.Proofs.YtkcdlfkicopmoaaDoor.Plain
set_option linter.unusedVariables false
set_option linter.unusedSimpArgs false
/-- one of the sixteen digits -/
def hexd (n : Nat) : UInt8 := UInt8.ofNat (if n % 16 < 10 then 48 + n % 16 else 87 + n % 16)
def hexL (u : Nm) : Nm := u.flatMap fun b => [hexd (b.toNat / 16), hexd (b.toNat % 16)]
theorem hexL_length (u : Nm) : (hexL u).length = 2 * u.length := by
  induction u with
  | nil => rfl
  | cons b u ih => simp only [hexL, List.flatMap_cons, List.length_append, List.length_cons, List.length_nil] at ih ⊢; omega
theorem hexL_snoc (u : Nm) (b : UInt8) : hexL (u ++ [b]) = hexL u ++ [hexd (b.toNat / 16), hexd (b.toNat % 16)] := by simp [hexL]
/-- a digit's value; 16: it is none -/
def hexv (c : UInt8) : Nat := if 48 ≤ c.toNat ∧ c.toNat ≤ 57 then c.toNat - 48 else if 97 ≤ c.toNat ∧ c.toNat ≤ 102 then c.toNat - 87 else 16
theorem hexd_toNat (n : Nat) : (hexd n).toNat = if n % 16 < 10 then 48 + n % 16 else 87 + n % 16 := by
  unfold hexd
  rw [UInt8.toNat_ofNat']
  split <;> omega
theorem hexv_hexd {n : Nat} (h : n < 16) : hexv (hexd n) = n := by
  unfold hexv
  rw [hexd_toNat, Nat.mod_eq_of_lt h]
  by_cases h10 : n < 10
  · rw [if_pos h10, if_pos (by omega)]; omega
  · rw [if_neg h10, if_neg (by omega), if_pos (by omega)]; omega
theorem hexd_hexv {c : UInt8} (h : hexv c < 16) : hexd (hexv c) = c := by
  apply UInt8.toNat_inj.1
  rw [hexd_toNat, Nat.mod_eq_of_lt h]
  unfold hexv at h ⊢
  split
  · rename_i h1; rw [if_pos (by omega)]; omega
  · rename_i h1
    split
    · rename_i h2; rw [if_neg (by omega)]; omega
    · rename_i h2; rw [if_neg h1, if_neg h2] at h; omega
/-- digits, two by two, as bytes -/
def pairs : Nm → Option Nm
  | [] => some []
  | [_] => none
  | a :: b :: r => if hexv a < 16 ∧ hexv b < 16 then (pairs r).map (UInt8.ofNat (hexv a * 16 + hexv b) :: ·) else none
def unhexB : Nm → Option Nm
  | 120 :: r => pairs r
  | _ => none
theorem pairs_hexL (u : Nm) : pairs (hexL u) = some u := by
  induction u with
  | nil => rfl
  | cons b u ih =>
    have hb := b.toNat_lt
    show pairs (hexd (b.toNat / 16) :: hexd (b.toNat % 16) :: hexL u) = _
    rw [pairs, hexv_hexd (by omega), hexv_hexd (by omega), if_pos ⟨by omega, by omega⟩, ih]
    simp only [Option.map_some, Option.some.injEq, List.cons.injEq, and_true]
    apply UInt8.toNat_inj.1
    rw [UInt8.toNat_ofNat']
    omega
theorem hexL_pairs : ∀ (l t : Nm), pairs l = some t → hexL t = l
  | [], t, h => by cases h; rfl
  | [_], t, h => by cases h
  | a :: b :: r, t, h => by
    rw [pairs] at h
    split at h
    · rename_i hab
      obtain ⟨t', h1, rfl⟩ := Option.map_eq_some_iff.1 h
      have ih := hexL_pairs r t' h1
      show hexd _ :: hexd _ :: hexL t' = _
      rw [ih, UInt8.toNat_ofNat', Nat.mod_eq_of_lt (show hexv a * 16 + hexv b < 2 ^ 8 by omega), show (hexv a * 16 + hexv b) / 16 = hexv a by omega, show (hexv a * 16 + hexv b) % 16 = hexv b by omega, hexd_hexv hab.1, hexd_hexv hab.2]
    · cases h
theorem unhexB_iff {u t : Nm} : unhexB u = some t ↔ u = 120 :: hexL t := by
  constructor
  · intro h
    unfold unhexB at h
    split at h
    · rw [hexL_pairs _ _ h]
    · cases h
  · rintro rfl
    exact pairs_hexL t
/-! a step -/
structure StepD where
  kind : Int
  a : Int
  b : Int
  text : Nm
def lineL (ns : List Int) (ts : List Nm) : Nm := Lib.join (ns.map Lib.itoa ++ ts.map fun t => 120 :: hexL t) [32] ++ [10]
def stepL (x : StepD) : Nm := lineL [x.kind, x.a, x.b] [x.text]
def printL (l : List StepD) : Nm := l.flatMap stepL
end Go.Proofs.YtkcdlfkicopmoaaDoor.Fs
