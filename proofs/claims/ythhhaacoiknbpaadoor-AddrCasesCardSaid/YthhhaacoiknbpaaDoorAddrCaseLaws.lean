/- What small and great letters do to domains and local parts. -/
import Derived.Test.YthhhaacoiknbpaaDoorAddrParts
namespace Go.Proofs.YthhhaacoiknbpaaDoor.Pure
open Go.RowKit Go.Proofs.YthhhaacoiknbpaaDoor.PALL Go.Proofs.YthhhaacoiknbpaaDoor.Plain Go.Proofs.YthhhaacoiknbpaaDoorW.PrintWords
set_option linter.unusedVariables false
set_option linter.unusedSimpArgs false

theorem small_toNat (x : UInt8) : (smallB x).toNat = if 65 ≤ x.toNat ∧ x.toNat ≤ 90 then x.toNat + 32 else x.toNat := by
  unfold smallB
  split
  · rename_i h
    rw [UInt8.toNat_add]
    have : (32 : UInt8).toNat = 32 := rfl
    rw [this]
    omega
  · rfl
theorem great_toNat (x : UInt8) : (greatB x).toNat = if 97 ≤ x.toNat ∧ x.toNat ≤ 122 then x.toNat - 32 else x.toNat := by
  unfold greatB
  split
  · rename_i h
    have e : (32 : UInt8) ≤ x := by rw [UInt8.le_iff_toNat_le]; show 32 ≤ _; omega
    rw [UInt8.toNat_sub_of_le _ _ e]
    rfl
  · rfl
/-- a turn of letters' case -/
structure Case (g : UInt8 → UInt8) : Prop where
  plain : ∀ x, plainB (g x) = plainB x
  odd : ∀ x c, (c = 45 ∨ c = 46 ∨ c = 64 ∨ c = 95 ∨ c = 43) → (g x = c ↔ x = c)
theorem u8n {x c : UInt8} : x = c ↔ x.toNat = c.toNat := ⟨fun h => by rw [h], fun h => UInt8.toNat_inj.1 h⟩
theorem caseSmall : Case smallB := by
  constructor
  · intro x
    rw [plainB, plainB, small_toNat, decide_eq_decide]
    split <;> omega
  · intro x c hc
    rw [u8n, u8n, small_toNat]
    have : c.toNat = 45 ∨ c.toNat = 46 ∨ c.toNat = 64 ∨ c.toNat = 95 ∨ c.toNat = 43 := by
      rcases hc with rfl | rfl | rfl | rfl | rfl <;> decide
    split <;> omega
theorem caseGreat : Case greatB := by
  constructor
  · intro x
    rw [plainB, plainB, great_toNat, decide_eq_decide]
    split <;> omega
  · intro x c hc
    rw [u8n, u8n, great_toNat]
    have : c.toNat = 45 ∨ c.toNat = 46 ∨ c.toNat = 64 ∨ c.toNat = 95 ∨ c.toNat = 43 := by
      rcases hc with rfl | rfl | rfl | rfl | rfl <;> decide
    split <;> omega
theorem small_great (x : UInt8) : smallB (greatB x) = smallB x := by
  rw [u8n, small_toNat, small_toNat, great_toNat]
  repeat' split
  all_goals omega
theorem small_small (x : UInt8) : smallB (smallB x) = smallB x := by
  rw [u8n, small_toNat, small_toNat]
  repeat' split
  all_goals omega
section
variable {g : UInt8 → UInt8} (hg : Case g)
include hg
theorem Case.beq (x c : UInt8) (hc : c = 45 ∨ c = 46 ∨ c = 64 ∨ c = 95 ∨ c = 43) : (g x == c) = (x == c) := by
  rw [Bool.eq_iff_iff, beq_iff_eq, beq_iff_eq]
  exact hg.odd x c hc
theorem Case.mem (u : List UInt8) (c : UInt8) (hc : c = 45 ∨ c = 46 ∨ c = 64 ∨ c = 95 ∨ c = 43) : c ∈ u.map g ↔ c ∈ u := by
  rw [List.mem_map]
  constructor
  · rintro ⟨x, hx, e⟩
    rw [(hg.odd x c hc).1 e] at hx
    exact hx
  · intro h
    exact ⟨c, h, (hg.odd c c hc).2 rfl⟩
theorem Case.opt (o : Option UInt8) (c : UInt8) (hc : c = 45 ∨ c = 46 ∨ c = 64 ∨ c = 95 ∨ c = 43) : (o.map g == some c) = (o == some c) := by
  cases o with
  | none => rfl
  | some x =>
    have := hg.beq x c hc
    simpa using this
theorem Case.cuts (u : List UInt8) : cuts 46 (u.map g) = (cuts 46 u).map (List.map g) := by
  induction u using split_ind 46 with
  | h0 u h => rw [cuts_none h, cuts_none (fun e => h ((hg.mem u 46 (by simp)).1 e))]; rfl
  | h1 a b h ih =>
    have e : (a ++ 46 :: b).map g = a.map g ++ 46 :: b.map g := by rw [List.map_append, List.map_cons, (hg.odd 46 46 (by simp)).2 rfl]
    rw [e, cuts_app (fun e => h ((hg.mem a 46 (by simp)).1 e)), cuts_app h, ih]
    rfl
theorem Case.label (l : List UInt8) : labelB (l.map g) = labelB l := by
  unfold labelB
  have : (okB [45]) ∘ g = okB [45] := by
    funext x
    show okB [45] (g x) = okB [45] x
    rw [okL, okL, hg.plain, hg.beq x 45 (by simp)]
  rw [List.length_map, List.all_map, this, List.head?_map, List.getLast?_map, hg.opt _ 45 (by simp), hg.opt _ 45 (by simp)]
theorem Case.dom (u : List UInt8) : domB (u.map g) = domB u := by
  unfold domB
  rw [hg.cuts, List.all_map, show labelB ∘ List.map g = labelB from funext hg.label, List.length_map]
theorem Case.locOk (u : List UInt8) (i : Nat) : locOk (u.map g) i = locOk u i := by
  unfold Pure.locOk dotBad
  rw [List.getElem?_map, List.getElem?_map, List.length_map, hg.opt _ 46 (by simp), hg.opt _ 46 (by simp)]
  congr 1
  cases u[i]? with
  | none => rfl
  | some b =>
    show okB _ (g b) = okB _ b
    rw [okLoc, okLoc, hg.plain, hg.beq b 46 (by simp), hg.beq b 95 (by simp), hg.beq b 43 (by simp), hg.beq b 45 (by simp)]
theorem Case.loc (u : List UInt8) : localB (u.map g) = localB u := by
  rw [local_eq, local_eq, locAll, locAll, List.length_map]
  simp only [hg.locOk]
end
/-- a mailbox of good parts -/
theorem parts_good {n d : List UInt8} (hn : 64 ∉ n) (h1 : localB n = true) (h2 : domB d = true) (h3 : (n ++ 64 :: d).length ≤ 64) : partsB (n ++ 64 :: d) = some (n, d.map smallB) := by
  rw [parts_app hn, h1, h2, decide_eq_true h3]
  rfl
theorem map_small_small (d : List UInt8) : (d.map smallB).map smallB = d.map smallB := by rw [List.map_map, show smallB ∘ smallB = smallB from funext small_small]
theorem map_small_great (d : List UInt8) : (d.map greatB).map smallB = d.map smallB := by rw [List.map_map, show smallB ∘ greatB = smallB from funext small_great]
end Go.Proofs.YthhhaacoiknbpaaDoor.Pure
