/- The pure side of layer 5: mailboxes, by lists of bytes. The pure side of layer 5: a mailbox's parts, by lists of bytes. -/
import Derived.Test.YtilgfpljjjbgdaaGreatDoorPALLx
import Derived.Test.YtilgfpljjjbgdaaGreatDoorPlain
namespace Go.Proofs.YtilgfpljjjbgdaaGreatDoor.Pure
open Go.RowKit Go.Proofs.YtilgfpljjjbgdaaGreatDoor.PALL Go.Proofs.YtilgfpljjjbgdaaGreatDoor.Plain Go.Proofs.YtilgfpljjjbgdaaGreatDoorW.PrintWords
set_option linter.unusedVariables false
set_option linter.unusedSimpArgs false

/-! ### a text at each of a byte -/
def cutsA (c : UInt8) (acc : List UInt8) : List UInt8 → List (List UInt8)
  | [] => [acc]
  | b :: u => if b = c then acc :: cutsA c [] u else cutsA c (acc ++ [b]) u
def cuts (c : UInt8) (u : List UInt8) : List (List UInt8) := cutsA c [] u
theorem cutsA_none {c : UInt8} {u : List UInt8} (h : c ∉ u) : ∀ acc, cutsA c acc u = [acc ++ u] := by
  induction u with
  | nil => intro acc; simp [cutsA]
  | cons b u ih =>
    intro acc
    have hb : ¬ b = c := fun e => h (by simp [e])
    rw [cutsA, if_neg hb, ih (fun e => h (by simp [e]))]
    simp
theorem cutsA_app {c : UInt8} {a : List UInt8} (h : c ∉ a) (b : List UInt8) : ∀ acc, cutsA c acc (a ++ c :: b) = (acc ++ a) :: cutsA c [] b := by
  induction a with
  | nil => intro acc; simp [cutsA]
  | cons x a ih =>
    intro acc
    have hb : ¬ x = c := fun e => h (by simp [e])
    rw [List.cons_append, cutsA, if_neg hb, ih (fun e => h (by simp [e]))]
    simp
theorem cuts_none {c : UInt8} {u : List UInt8} (h : c ∉ u) : cuts c u = [u] := by rw [cuts, cutsA_none h]; rfl
theorem cuts_app {c : UInt8} {a : List UInt8} (h : c ∉ a) (b : List UInt8) : cuts c (a ++ c :: b) = a :: cuts c b := by rw [cuts, cutsA_app h]; rfl
theorem split_ind (c : UInt8) {P : List UInt8 → Prop} (h0 : ∀ u, c ∉ u → P u) (h1 : ∀ a b, c ∉ a → P b → P (a ++ c :: b)) : ∀ u, P u := by
  have key : ∀ n (u : List UInt8), u.length ≤ n → P u := by
    intro n
    induction n with
    | zero => intro u hu; have : u = [] := List.length_eq_zero_iff.1 (by omega); subst this; exact h0 [] (by simp)
    | succ n ih =>
      intro u hu
      by_cases hc : c ∈ u
      · obtain ⟨a, b, rfl, ha⟩ := List.eq_append_cons_of_mem hc
        exact h1 a b ha (ih b (by simp at hu; omega))
      · exact h0 u hc
  exact fun u => key _ u (Nat.le_refl _)
theorem cuts_length (c : UInt8) (u : List UInt8) : (cuts c u).length ≤ u.length + 1 := by
  induction u using split_ind c with
  | h0 u h => rw [cuts_none h]; simp
  | h1 a b h ih => rw [cuts_app h]; simp; omega
theorem cuts_mem_length {c : UInt8} {u l : List UInt8} (h : l ∈ cuts c u) : l.length ≤ u.length := by
  induction u using split_ind c with
  | h0 u h0 => rw [cuts_none h0] at h; simp at h; rw [h]; exact Nat.le_refl _
  | h1 a b ha ih =>
    rw [cuts_app ha] at h
    rcases List.mem_cons.1 h with rfl | h
    · simp
    · have := ih h; simp; omega

/-! ### strings.Split -/
theorem split_f (c : UInt8) (u : List UInt8) (hz : u.length ≤ 1000000) : strings_Split.f (S u) (S [c]) = some ((cuts c u).map S) := by
  unfold strings_Split.f
  rw [if_pos ⟨by simpa using hz, by simp⟩]
  congr 1
  clear hz
  induction u using split_ind c with
  | h0 u h =>
    have hi : Lib.indexB (S u) (S [c]) = -1 := by show Lib.index u [c] = -1; rw [index_one, if_neg h]
    rw [Lib.splitB_miss _ _ _ _ hi, cuts_none h]
    rfl
  | h1 a b h ih =>
    have hi : Lib.indexB (S (a ++ c :: b)) (S [c]) = (a.length : Int) := by
      have := cut_one a b c h
      show Lib.index (a ++ c :: b) [c] = _
      rw [index_one, if_pos (by simp)]
      have : (a ++ c :: b).takeWhile (· ≠ c) = a := by
        rw [List.takeWhile_append_of_pos]
        · simp
        · intro x hx
          simp
          rintro rfl
          exact h hx
      rw [this]
    have hx : (S (a ++ c :: b)).extract (a.length + (S [c]).size) (S (a ++ c :: b)).size = S b := by
      rw [S_extract, S_size, S_size, List.take_length, show a ++ c :: b = (a ++ [c]) ++ b by simp, List.drop_left' (by simp)]
    rw [Lib.countB_hit _ _ a.length (by simp) hi, hx, Nat.add_comm 1, Lib.splitB, hi, if_neg (by simp), Int.toNat_natCast, hx, ih, cuts_app h, Nat.add_zero, S_extract]
    simp

/-! ### ref.Cut -/
theorem cut_scan (c : UInt8) (u : List UInt8) (hz : u.length ≤ 1000000) (out : List ByteArray) (at_ : Int) (e : Nat) (he : e ≤ u.length) (r : List ByteArray)
    (hend : Ev (fun k => pillarboxref05_Cut.l0 k (S u) (c.toNat : Int) out at_ (e : Int)) r) (d : Nat) : ∀ i : Nat, i + d = e → (∀ j (hj : j < u.length), i ≤ j → j < e → u[j] ≠ c) →
    Ev (fun k => pillarboxref05_Cut.l0 k (S u) (c.toNat : Int) out at_ (i : Int)) r := by
  induction d with
  | zero =>
    intro i hi _
    have : i = e := by omega
    subst this
    exact hend
  | succ d ih =>
    intro i hi hne
    obtain ⟨K, hK⟩ := ih (i + 1) (by omega) (fun j hj h1 h2 => hne j hj (by omega) h2)
    dsimp only at hK
    refine Ev.succ ⟨K, fun k hk => ?_⟩
    have hlt : i < u.length := by omega
    have hc : ¬ ((u[i].toNat : Int) = (c.toNat : Int)) := fun e => hne i hlt (Nat.le_refl _) (by omega) (UInt8.toNat_inj.1 (by omega))
    rw [pillarboxref05_Cut.l0, S_size, if_pos (by omega), if_neg (by omega), if_pos (by omega), if_pos (by omega), bt_S hlt, if_neg hc, wrap_succ (by omega)]
    exact hK k hk
theorem cut_l0 (c : UInt8) (v : List UInt8) : ∀ (pre : List UInt8) (out : List ByteArray), (pre ++ v).length ≤ 1000000 → out.length + v.length ≤ 1000000 →
    Ev (fun k => pillarboxref05_Cut.l0 k (S (pre ++ v)) (c.toNat : Int) out (pre.length : Int) (pre.length : Int)) (out ++ (cuts c v).map S) := by
  induction v using split_ind c with
  | h0 v h =>
    intro pre out hz ho
    refine cut_scan c _ hz out _ (pre ++ v).length (Nat.le_refl _) _ ?_ v.length pre.length (by simp) ?_
    · refine Ev.succ ⟨1, fun k hk => ?_⟩
      obtain ⟨k, rfl⟩ : ∃ m, k = m + 1 := ⟨k - 1, by omega⟩
      have hl : (pre ++ v).length = pre.length + v.length := by simp
      rw [pillarboxref05_Cut.l0, S_size, if_pos (by omega), if_pos rfl, if_pos (by omega), if_pos (by omega), if_pos (by omega), wrap_succ (by omega), pillarboxref05_Cut.l0, S_size, if_neg (by omega), cuts_none h, S_extract, Int.toNat_natCast, Int.toNat_natCast, List.take_length, List.drop_left' rfl]
      simp
    · intro j hj h1 h2
      rw [List.getElem_append_right h1]
      intro e
      exact h (e ▸ List.getElem_mem _)
  | h1 a b h ih =>
    intro pre out hz ho
    have hl : (pre ++ (a ++ c :: b)).length = pre.length + a.length + b.length + 1 := by simp; omega
    have ho' : out.length + (a.length + b.length + 1) ≤ 1000000 := by simp at ho; omega
    refine cut_scan c _ hz out _ (pre.length + a.length) (by omega) _ ?_ a.length pre.length (by simp) ?_
    · obtain ⟨K, hK⟩ := ih (pre ++ a ++ [c]) (out ++ [S a]) (by simp at hz ⊢; omega) (by simp; omega)
      dsimp only at hK
      refine Ev.succ ⟨K, fun k hk => ?_⟩
      have hlt : pre.length + a.length < (pre ++ (a ++ c :: b)).length := by omega
      have hget : (pre ++ (a ++ c :: b))[pre.length + a.length]'hlt = c := by
        rw [List.getElem_append_right (by omega)]
        simp
      have hx : (S (pre ++ (a ++ c :: b))).extract pre.length (pre.length + a.length) = S a := by
        rw [S_extract]
        congr 1
        rw [← List.append_assoc, List.take_left' (by simp)]
        simp
      have hp : (pre ++ a ++ [c]).length = pre.length + a.length + 1 := by simp; omega
      rw [hp] at hK
      have hs : pre ++ a ++ [c] ++ b = pre ++ (a ++ c :: b) := by simp
      rw [hs] at hK
      rw [pillarboxref05_Cut.l0, S_size, if_pos (by omega), if_neg (by omega), if_pos (by omega), if_pos (by omega), bt_S hlt, hget, if_pos rfl, if_pos (by omega), if_pos (by omega), if_pos (by omega), wrap_succ (by omega), Int.toNat_natCast, Int.toNat_natCast, hx, cuts_app h]
      have := hK k hk
      simpa using this
    · intro j hj h1 h2
      rw [List.getElem_append_right h1, List.getElem_append_left (by omega)]
      intro e
      exact h (e ▸ List.getElem_mem _)
theorem refcut_f (c : UInt8) (u : List UInt8) (hz : u.length ≤ 500000) : Ev (fun k => pillarboxref05_Cut.f k (S u) (c.toNat : Int)) ((cuts c u).map S) := by
  have := cut_l0 c u [] [] (by simpa using Nat.le_trans hz (by omega)) (by simpa using Nat.le_trans hz (by omega))
  simpa [pillarboxref05_Cut.f] using this

/-! ### beginnings and ends -/
theorem hasPrefix_f (u : List UInt8) (c : UInt8) : strings_HasPrefix.f (S u) (S [c]) = some (u.head? == some c) := by
  unfold strings_HasPrefix.f stringslite_HasPrefix.f
  cases u with
  | nil => rfl
  | cons b u =>
    rw [S_size, S_size, if_pos (by simp; omega), if_pos (by simp), if_pos (by simp; omega), S_extract, S_toList, S_toList]
    simp
theorem hasSuffix_f (u : List UInt8) (c : UInt8) (hz : u.length ≤ 1000000) : strings_HasSuffix.f (S u) (S [c]) = some (u.getLast? == some c) := by
  unfold strings_HasSuffix.f stringslite_HasSuffix.f
  rcases List.eq_nil_or_concat u with rfl | ⟨v, b, rfl⟩
  · rfl
  · rw [List.concat_eq_append] at hz ⊢
    have hl : (v ++ [b]).length = v.length + 1 := by simp
    have hw : wrap64 (((v.length + 1 : Nat) : Int) - ((1 : Nat) : Int)) = (v.length : Int) := by rw [wrap_in (by omega) (by omega)]; omega
    rw [S_size, S_size, hl, List.length_singleton, if_pos (by omega), hw, if_pos (by omega), if_pos (by omega), Int.toNat_natCast, S_extract, S_toList, S_toList, ← hl, List.take_length, List.drop_left' rfl]
    simp
theorem ends_f (u : List UInt8) (c : UInt8) (hz : u.length ≤ 1000000) : addr_ends.f (S u) (S [c]) = some (u.head? == some c || u.getLast? == some c) := by
  unfold addr_ends.f
  rw [hasPrefix_f, hasSuffix_f _ _ hz]
  cases h : (u.head? == some c) <;> simp

/-! ### a label; a domain -/
def labelB (l : List UInt8) : Bool := decide (1 ≤ l.length ∧ l.length ≤ 32) && (l.all (okB [45]) && !(l.head? == some 45 || l.getLast? == some 45))
def domB (u : List UInt8) : Bool := (cuts 46 u).all labelB && decide (u.length ≤ 64)
theorem only_f (u o : List UInt8) (hz : u.length ≤ 1000000) (ho : ∀ b ∈ o, b.toNat < 128) : addr_only.f (S u) (S o) = some (u.all (okB o)) := by
  unfold addr_only.f
  rw [if_pos ⟨by simpa using hz, ho⟩]
  rfl
theorem label_f (l : List UInt8) (hz : l.length ≤ 1000000) : addr_label.f (S l) = some (labelB l) := by
  unfold addr_label.f
  cases l with
  | nil => rw [S_toList, if_pos rfl]; rfl
  | cons b l =>
    rw [S_toList, if_neg (by simp), S_size, show (⟨#[45]⟩ : ByteArray) = S [45] from rfl, only_f _ _ hz (by decide), ends_f _ _ hz]
    unfold labelB
    by_cases h32 : (b :: l).length ≤ 32
    · rw [if_pos (by omega), decide_eq_true ⟨by simp, h32⟩]
      simp only [Option.bind_some]
      cases h : (b :: l).all (okB [45]) <;> simp
    · rw [if_neg (by omega), decide_eq_false (fun h => h32 h.2)]
      simp
theorem rdOf_S {ls : List (List UInt8)} {i : Nat} (h : i < ls.length) : rdOf ByteArray.empty (ls.map S) (i : Int) = S ls[i] := by
  simp [rdOf, List.getD, h]
theorem dom_l0 (u : List UInt8) (ls : List (List UInt8)) (hz : u.length ≤ 1000000) (hl : ∀ l ∈ ls, l.length ≤ 1000000) (hn : ls.length ≤ 2000000) (d : Nat) : ∀ i : Nat, i + d = ls.length →
    Ev (fun k => addr_Domain.l0 k (S u) (ls.map S) (ls.length : Int) (i : Int)) ((ls.drop i).all labelB && decide (u.length ≤ 64)) := by
  induction d with
  | zero =>
    intro i hi
    refine Ev.succ ⟨0, fun k _ => ?_⟩
    rw [addr_Domain.l0, if_neg (by omega), S_size, List.drop_eq_nil_of_le (by omega)]
    simp only [List.all_nil, Bool.true_and, Option.some.injEq, decide_eq_decide]
    omega
  | succ d ih =>
    intro i hi
    obtain ⟨K, hK⟩ := ih (i + 1) (by omega)
    dsimp only at hK
    refine Ev.succ ⟨K, fun k hk => ?_⟩
    have hlt : i < ls.length := by omega
    rw [addr_Domain.l0, if_pos (by omega), if_pos (by omega), List.length_map, if_pos (by omega), rdOf_S hlt, label_f _ (hl _ (List.getElem_mem _)), wrap_succ (by omega), List.drop_eq_getElem_cons hlt, List.all_cons]
    simp only [Option.bind_some]
    cases h : labelB ls[i]
    · rfl
    · rw [if_pos rfl, hK k hk]
      rfl
theorem dom_f (u : List UInt8) (hz : u.length ≤ 500000) : Ev (fun k => addr_Domain.f k (S u)) (domB u) := by
  have hcl := cuts_length 46 u
  obtain ⟨K, hK⟩ := dom_l0 u (cuts 46 u) (by omega) (fun l hl => by have := cuts_mem_length hl; omega) (by omega) (cuts 46 u).length 0 (by omega)
  dsimp only at hK
  refine ⟨K, fun k hk => ?_⟩
  dsimp only
  unfold addr_Domain.f
  rw [show (⟨#[46]⟩ : ByteArray) = S [46] from rfl, split_f _ _ (by omega), Option.bind_some, List.length_map]
  exact hK k hk

/-! ### ref.Domain -/
theorem plain_f (b : UInt8) : pillarboxref05_plain.f (b.toNat : Int) = some (plainB b) := by
  have : pillarboxref05_plain.f (b.toNat : Int) = addr_plain.f (b.toNat : Int) := rfl
  rw [this, addr_plain_val, plainB]
  congr 1
  simp only [decide_eq_decide]
  omega
theorem okL (b : UInt8) : okB [45] b = (plainB b || b == 45) := by cases h : (b == 45) <;> simp [okB, List.contains, List.elem, h]
theorem refdom_l1 (x0 : ByteArray) (ls : List (List UInt8)) (i : Nat) (hi : i < ls.length) (hz : ls[i].length ≤ 1000000) (res : Bool)
    (hnext : Ev (fun k => pillarboxref05_Domain.l0 k x0 (ls.map S) (wrap64 ((i : Int) + 1))) res) (d : Nat) : ∀ j : Nat, j + d = ls[i].length →
    Ev (fun k => pillarboxref05_Domain.l1 k x0 (ls.map S) (i : Int) (ls[i].length : Int) (j : Int)) (((ls[i].drop j).all (okB [45])) && res) := by
  induction d with
  | zero =>
    intro j hj
    obtain ⟨K, hK⟩ := hnext
    dsimp only at hK
    refine Ev.succ ⟨K, fun k hk => ?_⟩
    rw [pillarboxref05_Domain.l1, if_neg (by omega), hK k hk, List.drop_eq_nil_of_le (by omega)]
    simp
  | succ d ih =>
    intro j hj
    obtain ⟨K, hK⟩ := ih (j + 1) (by omega)
    dsimp only at hK
    refine Ev.succ ⟨K, fun k hk => ?_⟩
    have hlt : j < ls[i].length := by omega
    rw [pillarboxref05_Domain.l1, if_pos (by omega), if_pos (by omega), List.length_map, if_pos (by omega), if_pos (by omega), rdOf_S hi, S_size, if_pos (by omega), bt_S hlt, plain_f, wrap_succ (by omega), List.drop_eq_getElem_cons hlt, List.all_cons, okL]
    simp only [Option.bind_some]
    cases h : plainB ls[i][j]
    · rw [if_neg (by simp)]
      by_cases h45 : ls[i][j] = 45
      · rw [if_pos ((u8_is (n := 45) 45 rfl).2 h45), hK k hk]
        simp [h45]
      · rw [if_neg (fun e => h45 ((u8_is (n := 45) 45 rfl).1 e))]
        simp [h45]
    · rw [if_pos rfl, hK k hk]
      simp
theorem refdom_l0 (u : List UInt8) (ls : List (List UInt8)) (hl : ∀ l ∈ ls, l.length ≤ 1000000) (hn : ls.length ≤ 2000000) (d : Nat) : ∀ i : Nat, i + d = ls.length →
    Ev (fun k => pillarboxref05_Domain.l0 k (S u) (ls.map S) (i : Int)) ((ls.drop i).all labelB && decide (u.length ≤ 64)) := by
  induction d with
  | zero =>
    intro i hi
    refine Ev.succ ⟨0, fun k _ => ?_⟩
    rw [pillarboxref05_Domain.l0, List.length_map, if_neg (by omega), S_size, List.drop_eq_nil_of_le (by omega)]
    simp only [List.all_nil, Bool.true_and, Option.some.injEq, decide_eq_decide]
    omega
  | succ d ih =>
    intro i hi
    have hlt : i < ls.length := by omega
    have hz := hl _ (List.getElem_mem hlt)
    have hnext := ih (i + 1) (by omega)
    rw [← wrap_succ (n := i) (by omega)] at hnext
    obtain ⟨K, hK⟩ := refdom_l1 (S u) ls i hlt hz _ hnext ls[i].length 0 (by omega)
    dsimp only at hK
    have hbad : ∀ k x5, pillarboxref05_Domain.j1 (k + 1) (S u) (ls.map S) (i : Int) x5 true = some false := fun k x5 => by rw [pillarboxref05_Domain.j1, if_pos rfl]
    have hgood : ∀ k, K ≤ k → pillarboxref05_Domain.j1 (k + 1) (S u) (ls.map S) (i : Int) (ls[i].length : Int) false = some (ls[i].all (okB [45]) && ((ls.drop (i + 1)).all labelB && decide (u.length ≤ 64))) := fun k hk => by
      rw [pillarboxref05_Domain.j1, if_neg (by simp)]
      exact hK k hk
    refine Ev.succ ⟨K + 1, fun k hk => ?_⟩
    obtain ⟨k, rfl⟩ : ∃ m, k = m + 1 := ⟨k - 1, by omega⟩
    rw [pillarboxref05_Domain.l0, List.length_map, if_pos (by omega), if_pos (by omega), rdOf_S hlt, S_size, List.drop_eq_getElem_cons hlt, List.all_cons]
    by_cases h1 : ls[i].length < 1
    · rw [if_pos (by omega), hbad, show labelB ls[i] = false by rw [labelB, decide_eq_false (by omega)]; rfl]
      rfl
    · rw [if_neg (by omega)]
      by_cases h2 : ls[i].length > 32
      · rw [if_pos (by omega), hbad, show labelB ls[i] = false by rw [labelB, decide_eq_false (by omega)]; rfl]
        rfl
      · rw [if_neg (by omega), if_pos (by omega)]
        have hb0 : bt (S ls[i]) 0 = ((ls[i][0]'(by omega)).toNat : Int) := bt_S (i := 0) (by omega)
        have hhead : ls[i].head? = some (ls[i][0]'(by omega)) := by rw [List.head?_eq_getElem?, List.getElem?_eq_getElem]
        have hlast : ls[i].getLast? = some (ls[i][ls[i].length - 1]'(by omega)) := by rw [List.getLast?_eq_getElem?, List.getElem?_eq_getElem]
        have hlab : labelB ls[i] = (ls[i].all (okB [45]) && !(ls[i][0]'(by omega) == 45 || ls[i][ls[i].length - 1]'(by omega) == 45)) := by
          rw [labelB, decide_eq_true ⟨by omega, by omega⟩, hhead, hlast]
          simp
        rw [hb0, hlab]
        by_cases h3 : ls[i][0]'(by omega) = 45
        · rw [if_pos ((u8_is (n := 45) 45 rfl).2 h3), hbad]
          simp [h3]
        · have hw : wrap64 ((ls[i].length : Int) - 1) = ((ls[i].length - 1 : Nat) : Int) := by rw [wrap_in (by omega) (by omega)]; omega
          rw [if_neg (fun e => h3 ((u8_is (n := 45) 45 rfl).1 e)), hw, if_pos (by omega), if_pos (by omega), bt_S (by omega)]
          by_cases h4 : ls[i][ls[i].length - 1]'(by omega) = 45
          · have e : (((ls[i][ls[i].length - 1]'(by omega)).toNat : Int) == 45) = true := by rw [beq_iff_eq]; exact (u8_is (n := 45) 45 rfl).2 h4
            rw [e, hbad]
            simp [h4]
          · have e : (((ls[i][ls[i].length - 1]'(by omega)).toNat : Int) == 45) = false := by rw [beq_eq_false_iff_ne]; exact fun e => h4 ((u8_is (n := 45) 45 rfl).1 e)
            rw [e, hgood k (by omega), beq_eq_false_iff_ne.2 h3, beq_eq_false_iff_ne.2 h4]
            simp only [Bool.or_false, Bool.not_false, Bool.and_true]
            rw [Bool.and_assoc]
theorem refdom_f (u : List UInt8) (hz : u.length ≤ 500000) : Ev (fun k => pillarboxref05_Domain.f k (S u)) (domB u) := by
  have hcl := cuts_length 46 u
  obtain ⟨K, hK⟩ := refdom_l0 u (cuts 46 u) (fun l hl => by have := cuts_mem_length hl; omega) (by omega) (cuts 46 u).length 0 (by omega)
  obtain ⟨K2, h2⟩ := refcut_f 46 u hz
  dsimp only at hK h2
  refine ⟨K + K2, fun k hk => ?_⟩
  dsimp only
  unfold pillarboxref05_Domain.f
  have h2' := h2 k (by omega)
  rw [show (((46 : UInt8).toNat : Nat) : Int) = 46 from rfl] at h2'
  rw [h2', Option.bind_some]
  exact hK k (by omega)

/-! ### a local part -/
def localB (u : List UInt8) : Bool := decide (1 ≤ u.length ∧ u.length ≤ 32) && (u.all (okB [46, 95, 43, 45]) && (!(u.head? == some 46 || u.getLast? == some 46) && !Lib.contains u [46, 46]))
theorem contains_f (u v : List UInt8) (hz : u.length ≤ 1000000) : strings_Contains.f (S u) (S v) = some (Lib.contains u v) := by
  unfold strings_Contains.f
  rw [if_pos (by simp; omega)]
  rfl
theorem local_f (u : List UInt8) (hz : u.length ≤ 1000000) : addr_local.f (S u) = some (localB u) := by
  unfold addr_local.f
  cases u with
  | nil => rw [S_toList, if_pos rfl]; rfl
  | cons b u =>
    rw [S_toList, if_neg (by simp), S_size, show (⟨#[46, 95, 43, 45]⟩ : ByteArray) = S [46, 95, 43, 45] from rfl, only_f _ _ hz (by decide), show (⟨#[46]⟩ : ByteArray) = S [46] from rfl, ends_f _ _ hz, show (⟨#[46, 46]⟩ : ByteArray) = S [46, 46] from rfl, contains_f _ _ hz]
    unfold localB
    by_cases h32 : (b :: u).length ≤ 32
    · rw [if_pos (by omega), decide_eq_true ⟨by simp, h32⟩]
      simp only [Option.bind_some]
      cases h : (b :: u).all (okB [46, 95, 43, 45])
      · rfl
      · cases h2 : ((b :: u).head? == some 46 || (b :: u).getLast? == some 46) <;> rfl
    · rw [if_neg (by omega), decide_eq_false (fun h => h32 h.2)]
      rfl
/-- what the document says of each place -/
def dotBad (u : List UInt8) (i : Nat) : Bool := (u[i]? == some 46) && (i == 0 || i + 1 == u.length || u[i - 1]? == some 46)
def locOk (u : List UInt8) (i : Nat) : Bool := !dotBad u i && (match u[i]? with | some b => okB [46, 95, 43, 45] b | none => true)
def locAll (u : List UInt8) (i : Nat) : Bool := (List.range u.length).all fun j => decide (j < i) || locOk u j
theorem locAll_iff (u : List UInt8) (i : Nat) : locAll u i = true ↔ ∀ j, i ≤ j → j < u.length → locOk u j = true := by
  simp only [locAll, List.all_eq_true, List.mem_range, Bool.or_eq_true, decide_eq_true_eq]
  constructor
  · intro h j h1 h2
    rcases h j h2 with h | h
    · omega
    · exact h
  · intro h j h2
    by_cases h1 : j < i
    · exact Or.inl h1
    · exact Or.inr (h j (by omega) h2)
theorem okLoc (b : UInt8) : okB [46, 95, 43, 45] b = (plainB b || (b == 46 || (b == 95 || (b == 43 || b == 45)))) := by
  cases h1 : (b == 46) <;> cases h2 : (b == 95) <;> cases h3 : (b == 43) <;> cases h4 : (b == 45) <;> simp [okB, List.contains, List.elem, h1, h2, h3, h4]
theorem refloc_l0 (u : List UInt8) (hz : u.length ≤ 1000000) (d : Nat) : ∀ i : Nat, i + d = u.length →
    Ev (fun k => pillarboxref05_Local.l0 k (S u) (i : Int)) (locAll u (i) && decide (1 ≤ u.length ∧ u.length ≤ 32)) := by
  induction d with
  | zero =>
    intro i hi
    refine Ev.succ ⟨0, fun k _ => ?_⟩
    rw [pillarboxref05_Local.l0, S_size, if_neg (by omega), (locAll_iff u i).2 (fun j h1 h2 => by omega)]
    by_cases h : u.length ≥ 1
    · rw [if_pos (by omega)]
      simp only [Bool.true_and, Option.some.injEq, decide_eq_decide]
      omega
    · rw [if_neg (by omega), decide_eq_false (by omega)]
      rfl
  | succ d ih =>
    intro i hi
    obtain ⟨K, hK⟩ := ih (i + 1) (by omega)
    dsimp only at hK
    have hlt : i < u.length := by omega
    have hgi : u[i]? = some u[i] := List.getElem?_eq_getElem hlt
    have hstep : locAll u (i) = (locOk u i && locAll u (i + 1)) := by
      cases h : locOk u i
      · rw [Bool.false_and]
        exact Bool.eq_false_iff.2 fun e => by rw [(locAll_iff u i).1 e i (Nat.le_refl _) hlt] at h; cases h
      · rw [Bool.true_and, Bool.eq_iff_iff, locAll_iff, locAll_iff]
        constructor
        · exact fun e j h1 h2 => e j (by omega) h2
        · intro e j h1 h2
          by_cases hj : j = i
          · rw [hj]; exact h
          · exact e j (by omega) h2
    have hbad : ∀ k, pillarboxref05_Local.j1 (k + 1) (S u) (i : Int) (u[i].toNat : Int) true = some false := fun k => by rw [pillarboxref05_Local.j1, if_pos rfl]
    have hgood : ∀ k, K ≤ k → pillarboxref05_Local.j1 (k + 1) (S u) (i : Int) (u[i].toNat : Int) false = some (okB [46, 95, 43, 45] u[i] && (locAll u (i + 1) && decide (1 ≤ u.length ∧ u.length ≤ 32))) := fun k hk => by
      rw [pillarboxref05_Local.j1, if_neg (by simp), plain_f, wrap_succ (by omega), hK k hk, okLoc]
      simp only [Option.bind_some]
      cases h : plainB u[i]
      · rw [if_neg (by simp)]
        by_cases h1 : u[i] = 46
        · rw [if_pos ((u8_is (n := 46) 46 rfl).2 h1), beq_iff_eq.2 h1]; simp
        · rw [if_neg (fun e => h1 ((u8_is (n := 46) 46 rfl).1 e)), beq_eq_false_iff_ne.2 h1]
          by_cases h2 : u[i] = 95
          · rw [if_pos ((u8_is (n := 95) 95 rfl).2 h2), beq_iff_eq.2 h2]; simp
          · rw [if_neg (fun e => h2 ((u8_is (n := 95) 95 rfl).1 e)), beq_eq_false_iff_ne.2 h2]
            by_cases h3 : u[i] = 43
            · rw [if_pos ((u8_is (n := 43) 43 rfl).2 h3), beq_iff_eq.2 h3]; simp
            · rw [if_neg (fun e => h3 ((u8_is (n := 43) 43 rfl).1 e)), beq_eq_false_iff_ne.2 h3]
              by_cases h4 : u[i] = 45
              · rw [if_pos ((u8_is (n := 45) 45 rfl).2 h4), beq_iff_eq.2 h4]; simp
              · rw [if_neg (fun e => h4 ((u8_is (n := 45) 45 rfl).1 e)), beq_eq_false_iff_ne.2 h4]; rfl
      · rw [if_pos rfl]; simp
    refine Ev.succ ⟨K + 1, fun k hk => ?_⟩
    obtain ⟨k, rfl⟩ : ∃ m, k = m + 1 := ⟨k - 1, by omega⟩
    rw [pillarboxref05_Local.l0, S_size, if_pos (by omega), if_pos (by omega), bt_S hlt, hstep]
    have hloc : locOk u i = (!dotBad u i && okB [46, 95, 43, 45] u[i]) := by rw [locOk, hgi]
    by_cases h46 : u[i] = 46
    · rw [if_pos ((u8_is (n := 46) 46 rfl).2 h46)]
      have h46' : (u[i]? == some 46) = true := by rw [hgi, h46]; rfl
      by_cases h0 : i = 0
      · rw [if_pos (by omega), hbad, hloc, dotBad, h46', beq_iff_eq.2 h0]
        rfl
      · rw [if_neg (by omega)]
        by_cases h1 : i + 1 = u.length
        · rw [if_pos (by unfold wrap64; omega), hbad, hloc, dotBad, h46', beq_iff_eq.2 h1]
          simp
        · have hw : wrap64 ((i : Int) - 1) = ((i - 1 : Nat) : Int) := by unfold wrap64; omega
          rw [if_neg (by unfold wrap64; omega), hw, if_pos (by omega), if_pos (by omega), bt_S (by omega)]
          have hg1 : u[i - 1]? = some (u[i - 1]'(by omega)) := List.getElem?_eq_getElem (by omega)
          by_cases h2 : u[i - 1]'(by omega) = 46
          · have e : (((u[i - 1]'(by omega)).toNat : Int) == 46) = true := by rw [beq_iff_eq]; exact (u8_is (n := 46) 46 rfl).2 h2
            rw [e, hbad, hloc, dotBad, h46', hg1, h2]
            simp
          · have e : (((u[i - 1]'(by omega)).toNat : Int) == 46) = false := by rw [beq_eq_false_iff_ne]; exact fun e => h2 ((u8_is (n := 46) 46 rfl).1 e)
            have hd : dotBad u i = false := by
              rw [dotBad, h46', beq_eq_false_iff_ne.2 h0, beq_eq_false_iff_ne.2 h1, hg1]
              simp [h2]
            rw [e, hgood k (by omega), hloc, hd]
            simp only [Bool.not_false, Bool.true_and, Bool.and_assoc]
    · have hd : dotBad u i = false := by
        rw [dotBad, hgi]
        simp [h46]
      rw [if_neg (fun e => h46 ((u8_is (n := 46) 46 rfl).1 e)), hgood k (by omega), hloc, hd]
      simp only [Bool.not_false, Bool.true_and, Bool.and_assoc]
theorem index_two (u : List UInt8) (c : UInt8) : 0 ≤ Lib.index u [c, c] ↔ ∃ i, u[i]? = some c ∧ u[i + 1]? = some c := by
  induction u with
  | nil => simp [Lib.index]
  | cons b u ih =>
    have hge := Lib.index_ge u [c, c]
    rw [Lib.index]
    by_cases hp : [c, c].isPrefixOf (b :: u) = true
    · rw [if_pos hp]
      constructor
      · intro _
        cases u with
        | nil => simp [List.isPrefixOf] at hp
        | cons b2 u =>
          simp [List.isPrefixOf] at hp
          exact ⟨0, by simp [hp.1], by simp [hp.2]⟩
      · intro _; decide
    · rw [if_neg hp]
      have key : (∃ i, (b :: u)[i]? = some c ∧ (b :: u)[i + 1]? = some c) ↔ ∃ i, u[i]? = some c ∧ u[i + 1]? = some c := by
        constructor
        · rintro ⟨i, h1, h2⟩
          cases i with
          | zero =>
            exfalso
            apply hp
            cases u with
            | nil => simp at h2
            | cons b2 u =>
              simp at h1 h2
              simp [List.isPrefixOf, h1, h2]
          | succ i => exact ⟨i, by simpa using h1, by simpa using h2⟩
        · rintro ⟨i, h1, h2⟩
          exact ⟨i + 1, by simpa using h1, by simpa using h2⟩
      rw [key, ← ih]
      by_cases hm : Lib.index u [c, c] = -1
      · rw [hm]; simp
      · rw [if_neg (by simpa using hm)]
        constructor <;> intro <;> omega
theorem local_eq (u : List UInt8) : localB u = (locAll u (0) && decide (1 ≤ u.length ∧ u.length ≤ 32)) := by
  rw [localB, Bool.and_comm]
  by_cases hl : 1 ≤ u.length ∧ u.length ≤ 32
  · rw [decide_eq_true hl, Bool.and_true, Bool.and_true]
    rw [Bool.eq_iff_iff, Bool.and_eq_true, Bool.and_eq_true, List.all_eq_true, locAll_iff, Bool.not_eq_true', Bool.not_eq_true', Bool.or_eq_false_iff, Lib.contains, decide_eq_false_iff_not, index_two]
    have hhead : u.head? = some (u[0]'(by omega)) := by rw [List.head?_eq_getElem?, List.getElem?_eq_getElem]
    have hlast : u.getLast? = some (u[u.length - 1]'(by omega)) := by rw [List.getLast?_eq_getElem?, List.getElem?_eq_getElem]
    constructor
    · rintro ⟨h1, ⟨h2, h3⟩, h4⟩ j _ hj
      have hgj : u[j]? = some u[j] := List.getElem?_eq_getElem hj
      have hd : dotBad u j = false := by
        cases hb : dotBad u j with
        | false => rfl
        | true =>
          exfalso
          simp only [dotBad, Bool.and_eq_true, Bool.or_eq_true, beq_iff_eq] at hb
          obtain ⟨e1, (e2 | e2) | e2⟩ := hb
          · subst e2
            rw [hhead] at h2
            rw [hgj] at e1
            rw [e1] at h2
            simp at h2
          · rw [hlast] at h3
            have : u.length - 1 = j := by omega
            subst this
            rw [hgj] at e1
            rw [e1] at h3
            simp at h3
          · by_cases h0 : j = 0
            · subst h0
              rw [hhead] at h2
              rw [hgj] at e1
              rw [e1] at h2
              simp at h2
            · exact h4 ⟨j - 1, e2, by rw [Nat.sub_add_cancel (by omega)]; exact e1⟩
      rw [locOk, hd, hgj]
      exact h1 _ (List.getElem_mem hj)
    · intro h
      have hd : ∀ j, j < u.length → dotBad u j = false := fun j hj => by
        have := h j (by omega) hj
        rw [locOk, Bool.and_eq_true, Bool.not_eq_true'] at this
        exact this.1
      refine ⟨fun b hb => ?_, ⟨?_, ?_⟩, ?_⟩
      · obtain ⟨j, hj, rfl⟩ := List.getElem_of_mem hb
        have := h j (by omega) hj
        rw [locOk, List.getElem?_eq_getElem hj, Bool.and_eq_true] at this
        exact this.2
      · have := hd 0 (by omega)
        rw [dotBad, List.getElem?_eq_getElem (by omega : 0 < u.length)] at this
        rw [hhead]
        simpa using this
      · have := hd (u.length - 1) (by omega)
        rw [dotBad, List.getElem?_eq_getElem (by omega : u.length - 1 < u.length), show (u.length - 1 + 1 == u.length) = true by rw [beq_iff_eq]; omega] at this
        rw [hlast]
        simpa using this
      · rintro ⟨i, e1, e2⟩
        have hi : i + 1 < u.length := (List.getElem?_eq_some_iff.1 e2).1
        have := hd (i + 1) hi
        rw [dotBad, e2, Nat.add_sub_cancel, e1] at this
        simp at this
  · rw [decide_eq_false hl, Bool.and_false, Bool.and_false]
theorem refloc_f (u : List UInt8) (hz : u.length ≤ 1000000) : Ev (fun k => pillarboxref05_Local.f k (S u)) (localB u) := by
  have := refloc_l0 u hz u.length 0 (by omega)
  rw [← local_eq] at this
  exact this
end Go.Proofs.YtilgfpljjjbgdaaGreatDoor.Pure
namespace Go.Proofs.YtilgfpljjjbgdaaGreatDoor.Pure
open Go.RowKit Go.Proofs.YtilgfpljjjbgdaaGreatDoor.PALL Go.Proofs.YtilgfpljjjbgdaaGreatDoor.Plain Go.Proofs.YtilgfpljjjbgdaaGreatDoorW.PrintWords
set_option linter.unusedVariables false
set_option linter.unusedSimpArgs false

def partsB (u : List UInt8) : Option (List UInt8 × List UInt8) :=
  if 64 ∈ u then
    (if (localB (u.takeWhile (· ≠ 64)) && (domB ((u.dropWhile (· ≠ 64)).drop 1) && decide (u.length ≤ 64))) = true then some (u.takeWhile (· ≠ 64), ((u.dropWhile (· ≠ 64)).drop 1).map smallB) else none)
  else none
theorem first_take {c : UInt8} {a : List UInt8} (h : c ∉ a) (b : List UInt8) : (a ++ c :: b).takeWhile (· ≠ c) = a ∧ (a ++ c :: b).dropWhile (· ≠ c) = c :: b := by
  induction a with
  | nil => simp
  | cons x a ih =>
    have hx : ¬ x = c := fun e => h (by simp [e])
    have := ih (fun e => h (by simp [e]))
    simp [hx] at this ⊢
    exact this
theorem parts_none {u : List UInt8} (h : 64 ∉ u) : partsB u = none := by rw [partsB, if_neg h]
theorem parts_app {a : List UInt8} (h : 64 ∉ a) (b : List UInt8) : partsB (a ++ 64 :: b) = if (localB a && (domB b && decide ((a ++ 64 :: b).length ≤ 64))) = true then some (a, b.map smallB) else none := by
  rw [partsB, if_pos (by simp), (first_take h b).1, (first_take h b).2]
  rfl
theorem parts_some {u n d : List UInt8} (h : partsB u = some (n, d)) : ∃ b, 64 ∉ n ∧ u = n ++ 64 :: b ∧ localB n = true ∧ domB b = true ∧ u.length ≤ 64 ∧ d = b.map smallB := by
  by_cases hc : 64 ∈ u
  · obtain ⟨a, b, rfl, ha⟩ := List.eq_append_cons_of_mem hc
    rw [parts_app ha] at h
    by_cases hx : (localB a && (domB b && decide ((a ++ 64 :: b).length ≤ 64))) = true
    · rw [if_pos hx] at h
      simp only [Option.some.injEq, Prod.mk.injEq] at h
      obtain ⟨rfl, rfl⟩ := h
      simp only [Bool.and_eq_true, decide_eq_true_eq] at hx
      exact ⟨b, ha, rfl, hx.1, hx.2.1, hx.2.2, rfl⟩
    · rw [if_neg hx] at h
      cases h
  · rw [parts_none hc] at h
    cases h
def toSplit : Option (List UInt8 × List UInt8) → ByteArray × ByteArray × Bool
  | none => (S [], S [], false)
  | some (n, d) => (S n, S d, true)
def toParse : Option (List UInt8 × List UInt8) → ByteArray × Bool
  | none => (S [], false)
  | some (n, d) => (S (n ++ 64 :: d), true)

theorem dom_bytes (u : List UInt8) : (cuts 46 u).all labelB = true → ∀ x ∈ u, okB [45] x = true ∨ x = 46 := by
  induction u using split_ind 46 with
  | h0 u h =>
    intro hl x hx
    rw [cuts_none h] at hl
    simp only [List.all_cons, List.all_nil, Bool.and_true, labelB, Bool.and_eq_true, List.all_eq_true] at hl
    exact Or.inl (hl.2.1 x hx)
  | h1 a b h ih =>
    intro hl x hx
    rw [cuts_app h, List.all_cons, Bool.and_eq_true] at hl
    rcases List.mem_append.1 hx with hx | hx
    · have := hl.1
      simp only [labelB, Bool.and_eq_true, List.all_eq_true] at this
      exact Or.inl (this.2.1 x hx)
    · rcases List.mem_cons.1 hx with rfl | hx
      · exact Or.inr rfl
      · exact ih hl.2 x hx
theorem plainB_lt {b : UInt8} (h : plainB b = true) : b.toNat < 123 := by
  simp only [plainB, decide_eq_true_eq] at h
  omega
theorem dom_ascii {u : List UInt8} (h : domB u = true) : ∀ x ∈ u, x.toNat < 128 := by
  intro x hx
  rw [domB, Bool.and_eq_true] at h
  rcases dom_bytes u h.1 x hx with h | rfl
  · rw [okL, Bool.or_eq_true] at h
    rcases h with h | h
    · have := plainB_lt h; omega
    · rw [beq_iff_eq] at h; subst h; decide
  · decide
theorem lower_small (b : UInt8) : Lib.lowerB b = smallB b := by
  simp [Lib.lowerB, Lib.isUpperB, smallB, UInt8.le_iff_toNat_le]
theorem toLower_f {u : List UInt8} (hz : u.length ≤ 1000000) (h : ∀ x ∈ u, x.toNat < 128) : strings_ToLower.f (S u) = some (S (u.map smallB)) := by
  unfold strings_ToLower.f
  rw [if_pos ⟨by simpa using hz, h⟩, S_data, Lib.toLowerA, show Lib.lowerB = smallB from funext lower_small]
  rfl
theorem small_f {u : List UInt8} (hz : u.length ≤ 1000000) : pillarboxref05_Small.f (S u) = some (S (u.map smallB)) := by
  unfold pillarboxref05_Small.f
  rw [if_pos (by simpa using hz)]
  rfl
theorem cut_found {a b : List UInt8} {c : UInt8} (h : c ∉ a) (hs : (a ++ c :: b).length < 4294967281) : strings_Cut.f (S (a ++ c :: b)) (S [c]) = some (S a, S b, true) := by
  unfold strings_Cut.f
  rw [if_pos (by simpa using hs)]
  simp only [S_data, cut_one a b c h]
  rfl
theorem cut_not {a : List UInt8} {c : UInt8} (h : c ∉ a) (hs : a.length < 4294967281) : strings_Cut.f (S a) (S [c]) = some (S a, S [], false) := by
  unfold strings_Cut.f
  rw [if_pos (by simpa using hs)]
  simp only [S_data, cut_none a c h]
  rfl

theorem addrSplit_f (u : List UInt8) (hz : u.length ≤ 500000) : Ev (fun k => addr_Split.f k (S u)) (toSplit (partsB u)) := by
  by_cases hc : 64 ∈ u
  · obtain ⟨a, b, rfl, ha⟩ := List.eq_append_cons_of_mem hc
    have hl : (a ++ 64 :: b).length = a.length + b.length + 1 := by simp; omega
    obtain ⟨K, hK⟩ := dom_f b (by omega)
    dsimp only at hK
    refine ⟨K, fun k hk => ?_⟩
    dsimp only
    unfold addr_Split.f
    rw [show (⟨#[64]⟩ : ByteArray) = S [64] from rfl, cut_found ha (by omega), parts_app ha]
    simp only [Option.bind_some, if_true]
    rw [local_f _ (by omega), hK k hk]
    simp only [Option.bind_some]
    cases h1 : localB a
    · rfl
    · cases h2 : domB b
      · rfl
      · rw [if_pos rfl, if_pos rfl, S_size]
        by_cases h3 : (a ++ 64 :: b).length ≤ 64
        · rw [if_neg (by omega), toLower_f (by omega) (dom_ascii h2), decide_eq_true h3]
          rfl
        · rw [if_pos (by omega), decide_eq_false h3]
          rfl
  · refine ⟨0, fun k _ => ?_⟩
    dsimp only
    unfold addr_Split.f
    rw [show (⟨#[64]⟩ : ByteArray) = S [64] from rfl, cut_not hc (by omega), parts_none hc]
    rfl
theorem refsplit_scan (u : List UInt8) (hz : u.length ≤ 4611686018427387000) (e : Nat) (he : e ≤ u.length) (r : ByteArray × ByteArray × Bool)
    (hend : Ev (fun k => pillarboxref05_Split.l0 k (S u) (e : Int)) r) (d : Nat) : ∀ i : Nat, i + d = e → (∀ j (hj : j < u.length), i ≤ j → j < e → u[j] ≠ 64) →
    Ev (fun k => pillarboxref05_Split.l0 k (S u) (i : Int)) r := by
  induction d with
  | zero =>
    intro i hi _
    have : i = e := by omega
    subst this
    exact hend
  | succ d ih =>
    intro i hi hne
    obtain ⟨K, hK⟩ := ih (i + 1) (by omega) (fun j hj h1 h2 => hne j hj (by omega) h2)
    dsimp only at hK
    refine Ev.succ ⟨K, fun k hk => ?_⟩
    have hlt : i < u.length := by omega
    rw [pillarboxref05_Split.l0, S_size, if_pos (by omega), if_pos (by omega), bt_S hlt, if_neg (fun e => hne i hlt (Nat.le_refl _) (by omega) ((u8_is (n := 64) 64 rfl).1 e)), wrap_succ (by omega)]
    exact hK k hk
theorem refSplit_f (u : List UInt8) (hz : u.length ≤ 4611686018427387000) : Ev (fun k => pillarboxref05_Split.f k (S u)) (toSplit (partsB u)) := by
  by_cases hc : 64 ∈ u
  · obtain ⟨a, b, rfl, ha⟩ := List.eq_append_cons_of_mem hc
    have hl : (a ++ 64 :: b).length = a.length + b.length + 1 := by simp; omega
    refine refsplit_scan _ hz a.length (by omega) _ ?_ a.length 0 (by omega) ?_
    · have hlt : a.length < (a ++ 64 :: b).length := by omega
      have hget : (a ++ 64 :: b)[a.length]'hlt = 64 := by simp
      by_cases h64 : (a ++ 64 :: b).length ≤ 64
      · obtain ⟨K1, h1⟩ := refloc_f a (by omega)
        obtain ⟨K2, h2⟩ := refdom_f b (by omega)
        dsimp only at h1 h2
        have hx1 : (S (a ++ 64 :: b)).extract 0 a.length = S a := by rw [S_extract, List.take_left' rfl]; rfl
        have hx2 : (S (a ++ 64 :: b)).extract (a.length + 1) (a ++ 64 :: b).length = S b := by
          rw [S_extract, List.take_length, show a ++ 64 :: b = (a ++ [64]) ++ b by simp, List.drop_left' (by simp)]
        refine Ev.succ ⟨K1 + K2, fun k hk => ?_⟩
        rw [pillarboxref05_Split.l0, S_size, if_pos (by omega), if_pos (by omega), bt_S hlt, hget, if_pos (show (((64 : UInt8).toNat : Nat) : Int) = 64 from rfl), if_neg (by omega), if_pos (by omega), Int.toNat_natCast, hx1, h1 k (by omega), parts_app ha, wrap_succ (by omega), if_pos (by omega), if_pos (by omega), Int.toNat_natCast, hx2, h2 k (by omega), small_f (by omega), decide_eq_true h64]
        simp only [Option.bind_some]
        cases localB a
        · rfl
        · cases domB b
          · rfl
          · rfl
      · refine Ev.succ ⟨0, fun k hk => ?_⟩
        rw [pillarboxref05_Split.l0, S_size, if_pos (by omega), if_pos (by omega), bt_S hlt, hget, if_pos (show (((64 : UInt8).toNat : Nat) : Int) = 64 from rfl), if_pos (by omega), parts_app ha, decide_eq_false h64, Bool.and_false, Bool.and_false, if_neg (by simp)]
        rfl
    · intro j hj h1 h2
      rw [List.getElem_append_left h2]
      intro e
      exact ha (e ▸ List.getElem_mem _)
  · refine refsplit_scan _ hz u.length (Nat.le_refl _) _ ?_ u.length 0 (by omega) ?_
    · refine Ev.succ ⟨0, fun k hk => ?_⟩
      rw [pillarboxref05_Split.l0, S_size, if_neg (by omega), parts_none hc]
      rfl
    · intro j hj h1 h2 e
      exact hc (e ▸ List.getElem_mem _)
theorem addrParse_f (u : List UInt8) (hz : u.length ≤ 500000) : Ev (fun k => addr_Parse.f k (S u)) (toParse (partsB u)) := by
  obtain ⟨K, hK⟩ := addrSplit_f u hz
  dsimp only at hK
  refine ⟨K, fun k hk => ?_⟩
  dsimp only
  unfold addr_Parse.f
  rw [hK k hk]
  cases h : partsB u with
  | none => rfl
  | some p =>
    obtain ⟨n, d⟩ := p
    obtain ⟨b, h1, h2, h3, h4, h5, h6⟩ := parts_some h
    have hl : n.length + d.length ≤ 64 := by
      have := congrArg List.length h2
      rw [h6, List.length_map]
      simp at this
      omega
    simp only [Option.bind_some, toSplit, toParse, if_true, S_size]
    rw [if_pos (by omega), if_pos (by omega), show (⟨#[64]⟩ : ByteArray) = S [64] from rfl, S_append, S_append]
    simp
theorem refParse_f (u : List UInt8) (hz : u.length ≤ 4611686018427387000) : Ev (fun k => pillarboxref05_Parse.f k (S u)) (toParse (partsB u)) := by
  obtain ⟨K, hK⟩ := refSplit_f u hz
  dsimp only at hK
  refine ⟨K, fun k hk => ?_⟩
  dsimp only
  unfold pillarboxref05_Parse.f
  rw [hK k hk]
  cases h : partsB u with
  | none => rfl
  | some p =>
    obtain ⟨n, d⟩ := p
    obtain ⟨b, h1, h2, h3, h4, h5, h6⟩ := parts_some h
    have hl : n.length + d.length ≤ 64 := by
      have := congrArg List.length h2
      rw [h6, List.length_map]
      simp at this
      omega
    simp only [Option.bind_some, toSplit, toParse, if_true, S_size]
    rw [if_pos (by omega), if_pos (by omega), show (⟨#[64]⟩ : ByteArray) = S [64] from rfl, S_append, S_append]
    simp
end Go.Proofs.YtilgfpljjjbgdaaGreatDoor.Pure
