/- Nine digits, and names of files of numbers, as plain data. No program here. Numbers of mails over a disk, as plain data: what each call does, and what it keeps. No program here. -/
import Derived.Test.YtilgfpljjjbgdaaGreatDoorFsB4
import Derived.Lib.ItoaNum
import Derived.Lib.AtoiAll
import Derived.Lib.Strings
import Derived.Sort.KeysCollected
namespace Go.Proofs.YtilgfpljjjbgdaaGreatDoor.Fs
open Go.RowKit Go.Proofs.YtilgfpljjjbgdaaGreatDoorW.PrintWords Go.Proofs.YtilgfpljjjbgdaaGreatDoor.Plain
set_option linter.unusedVariables false
set_option linter.unusedSimpArgs false
theorem snoc_ind {α : Type} {p : List α → Prop} (h0 : p []) (h1 : ∀ l a, p l → p (l ++ [a])) (l : List α) : p l := by
  have : ∀ r : List α, p r.reverse := by
    intro r
    induction r with
    | nil => exact h0
    | cons a r ih => rw [List.reverse_cons]; exact h1 _ _ ih
  simpa using this l.reverse
def dig (n : Nat) : UInt8 := UInt8.ofNat (48 + n % 10)
theorem dig_toNat (n : Nat) : (dig n).toNat = 48 + n % 10 := by
  unfold dig
  rw [UInt8.toNat_ofNat']
  omega
/-- k digits -/
def digN : Nat → Nat → Nm
  | 0, _ => []
  | k + 1, n => digN k (n / 10) ++ [dig n]
theorem digN_length (k n : Nat) : (digN k n).length = k := by
  induction k generalizing n with
  | zero => rfl
  | succ k ih => simp [digN, ih]
theorem digN_cons (k n : Nat) : digN (k + 1) n = dig (n / 10 ^ k) :: digN k n := by
  induction k generalizing n with
  | zero => simp [digN]
  | succ k ih =>
    rw [digN, ih, digN, List.cons_append, Nat.div_div_eq_div_mul, Nat.pow_succ, Nat.mul_comm (10 ^ k) 10]
theorem digN_mod (k n : Nat) : digN k (n % 10 ^ k) = digN k n := by
  induction k generalizing n with
  | zero => rfl
  | succ k ih =>
    simp only [digN]
    have e1 : n % 10 ^ (k + 1) / 10 = (n / 10) % 10 ^ k := by
      rw [Nat.pow_succ, Nat.mul_comm (10 ^ k) 10, Nat.mod_mul_right_div_self]
    have e2 : dig (n % 10 ^ (k + 1)) = dig n := by
      unfold dig
      rw [Nat.pow_succ, Nat.mod_mul_left_mod]
    rw [e1, ih, e2]
theorem digN_itoa {k n : Nat} (hk : 1 ≤ k) (h : n < 10 ^ k) : digN k n = List.replicate (k - (Lib.decDigits n).length) 48 ++ Lib.decDigits n ∧ (Lib.decDigits n).length ≤ k := by
  induction k generalizing n with
  | zero => omega
  | succ k ih =>
    by_cases hn : n < 10
    · rw [Lib.decDigits, dif_pos hn]
      have e : dig n = UInt8.ofNat (48 + n) := by unfold dig; rw [Nat.mod_eq_of_lt hn]
      refine ⟨?_, by simp⟩
      have z : ∀ k, digN k (n / 10) = List.replicate k 48 := by
        intro k
        rw [Nat.div_eq_of_lt hn]
        clear e h hn ih hk
        induction k with
        | zero => rfl
        | succ k ih =>
          show digN k (0 / 10) ++ [dig 0] = _
          rw [Nat.zero_div, ih, List.replicate_succ']
          rfl
      simp only [digN, e, z]
      simp
    · have hk1 : 1 ≤ k := by
        rcases Nat.eq_zero_or_pos k with rfl | h1
        · simp at h; omega
        · exact h1
      have h2 : n / 10 < 10 ^ k := by rw [Nat.pow_succ] at h; omega
      obtain ⟨e1, e2⟩ := ih hk1 h2
      rw [Lib.decDigits, dif_neg hn]
      refine ⟨?_, by simp; omega⟩
      simp only [digN, e1, List.length_append, List.length_singleton, List.append_assoc]
      congr 2
      omega
def isDig (c : UInt8) : Bool := decide (48 ≤ c.toNat ∧ c.toNat ≤ 57)
def valN (l : Nm) : Nat := l.foldl (fun a c => a * 10 + (c.toNat - 48)) 0
theorem valN_snoc (l : Nm) (c : UInt8) : valN (l ++ [c]) = valN l * 10 + (c.toNat - 48) := by simp [valN]
theorem valN_digN (k n : Nat) : valN (digN k n) = n % 10 ^ k := by
  induction k generalizing n with
  | zero => simp [digN, valN, Nat.mod_one]
  | succ k ih =>
    rw [digN, valN_snoc, ih, dig_toNat, Nat.pow_succ, Nat.mul_comm (10 ^ k) 10, Nat.mod_mul]
    omega
theorem digN_all (k n : Nat) : (digN k n).all isDig = true := by
  induction k generalizing n with
  | zero => rfl
  | succ k ih =>
    rw [digN, List.all_append, ih]
    simp only [List.all_cons, List.all_nil, isDig, dig_toNat, Bool.and_true, Bool.true_and, decide_eq_true_eq]
    omega
theorem valN_lt {l : Nm} (h : l.all isDig = true) : valN l < 10 ^ l.length := by
  induction l using snoc_ind with
  | h0 => decide
  | h1 l c ih =>
    rw [List.all_append, Bool.and_eq_true] at h
    have h1 := ih h.1
    have h2 := h.2
    simp only [List.all_cons, List.all_nil, isDig, Bool.and_true, decide_eq_true_eq] at h2
    rw [valN_snoc, List.length_append, List.length_singleton, Nat.pow_succ]
    omega
theorem digN_valN {l : Nm} (h : l.all isDig = true) : digN l.length (valN l) = l := by
  induction l using snoc_ind with
  | h0 => rfl
  | h1 l c ih =>
    rw [List.all_append, Bool.and_eq_true] at h
    have h1 := ih h.1
    have h2 := h.2
    simp only [List.all_cons, List.all_nil, isDig, Bool.and_true, decide_eq_true_eq] at h2
    rw [valN_snoc, List.length_append, List.length_singleton]
    show digN l.length ((valN l * 10 + (c.toNat - 48)) / 10) ++ [dig (valN l * 10 + (c.toNat - 48))] = _
    have e1 : (valN l * 10 + (c.toNat - 48)) / 10 = valN l := by omega
    have e2 : dig (valN l * 10 + (c.toNat - 48)) = c := by
      apply UInt8.toNat_inj.1
      rw [dig_toNat]
      omega
    rw [e1, e2, h1]
theorem digN_lt {k a b : Nat} (hb : b < 10 ^ k) (h : a < b) : digN k a < digN k b := by
  induction k generalizing a b with
  | zero => simp at hb; omega
  | succ k ih =>
    rw [digN_cons, digN_cons]
    rw [Nat.pow_succ] at hb
    have hp : 0 < 10 ^ k := Nat.pow_pos (by omega)
    have hb1 : b / 10 ^ k < 10 := by rw [Nat.div_lt_iff_lt_mul hp]; omega
    have hab : a / 10 ^ k ≤ b / 10 ^ k := Nat.div_le_div_right (by omega)
    rcases Nat.lt_or_ge (a / 10 ^ k) (b / 10 ^ k) with h1 | h1
    · refine List.cons_lt_cons_iff.2 (.inl ?_)
      rw [UInt8.lt_iff_toNat_lt, dig_toNat, dig_toNat, Nat.mod_eq_of_lt hb1, Nat.mod_eq_of_lt (Nat.lt_of_le_of_lt hab hb1)]
      omega
    · have e : a / 10 ^ k = b / 10 ^ k := by omega
      rw [e]
      refine List.cons_lt_cons_iff.2 (.inr ⟨rfl, ?_⟩)
      rw [← digN_mod k a, ← digN_mod k b]
      refine ih (Nat.mod_lt _ hp) ?_
      have h2 := Nat.div_add_mod a (10 ^ k)
      have h3 := Nat.div_add_mod b (10 ^ k)
      rw [e] at h2
      omega
def nextLead : Nm := [110, 101, 120, 116, 45]
/-- the file's name of a number -/
def nameOf (n : Nat) : Nm := nextLead ++ digN 9 n
theorem nameOf_length (n : Nat) : (nameOf n).length = 14 := by simp [nameOf, nextLead, digN_length]
/-- what number a name has -/
def num (s : Nm) : Option Nat := if nextLead.isPrefixOf s ∧ (s.drop 5).length = 9 ∧ (s.drop 5).all isDig = true then some (valN (s.drop 5)) else none
theorem num_nameOf {n : Nat} (h : n < 1000000000) : num (nameOf n) = some n := by
  have e : (nameOf n).drop 5 = digN 9 n := by simp [nameOf, nextLead]
  unfold num
  rw [e, if_pos ⟨by simp [nameOf, nextLead, List.isPrefixOf], digN_length 9 n, digN_all 9 n⟩, valN_digN, Nat.mod_eq_of_lt h]
theorem nameOf_num {s : Nm} {n : Nat} (h : num s = some n) : n < 1000000000 ∧ nameOf n = s := by
  unfold num at h
  split at h
  · rename_i hc
    obtain ⟨h1, h2, h3⟩ := hc
    have e := Option.some.inj h
    have hv := valN_lt h3
    rw [h2, e] at hv
    have hd := digN_valN h3
    rw [h2, e] at hd
    refine ⟨hv, ?_⟩
    obtain ⟨t, ht⟩ := List.isPrefixOf_iff_prefix.1 h1
    unfold nameOf
    rw [hd, ← ht]
    simp [nextLead]
  · cases h
theorem nameOf_inj {a b : Nat} (ha : a < 1000000000) (hb : b < 1000000000) (h : nameOf a = nameOf b) : a = b := by
  have := num_nameOf ha
  rw [h, num_nameOf hb] at this
  exact (Option.some.inj this).symm
theorem nameOf_lt {a b : Nat} (hb : b < 1000000000) (h : a < b) : nameOf a < nameOf b := by
  have : ∀ p : Nm, p ++ digN 9 a < p ++ digN 9 b := by
    intro p
    induction p with
    | nil => exact digN_lt (by simpa using hb) h
    | cons c p ih => exact List.cons_lt_cons_iff.2 (.inr ⟨rfl, ih⟩)
  exact this nextLead
theorem num_le {s t : Nm} {a b : Nat} (hs : num s = some a) (ht : num t = some b) (h : s ≤ t) : a ≤ b := by
  obtain ⟨h1, e1⟩ := nameOf_num hs
  obtain ⟨h2, e2⟩ := nameOf_num ht
  rcases Nat.lt_or_ge b a with h3 | h3
  · have := nameOf_lt h1 h3
    rw [e1, e2] at this
    exact absurd h (List.not_le.2 this)
  · exact h3
theorem nameOf_right (n : Nat) : rightB (nameOf n) = true := by
  unfold rightB
  rw [Bool.and_eq_true]
  constructor
  · unfold nameOf
    rw [List.all_append, Bool.and_eq_true]
    refine ⟨by decide, ?_⟩
    have h := digN_all 9 n
    rw [List.all_eq_true] at h ⊢
    intro c hc
    have := h c hc
    simp only [isDig, decide_eq_true_eq] at this ⊢
    omega
  · rw [nameOf_length]; decide
/-- the greatest of some names -/
def bestFrom (acc : Nat × Nm) (l : List Nm) : Nat × Nm := l.foldl (fun a s => match num s with | some n => (n, s) | none => a) acc
theorem best_spec {l : List Nm} (hs : l.Pairwise (fun a b => a ≤ b)) : (∀ s ∈ l, ∀ n, num s = some n → n ≤ (bestFrom (0, []) l).1) ∧ ((bestFrom (0, []) l = (0, []) ∧ ∀ s ∈ l, num s = none) ∨ ((bestFrom (0, []) l).2 ∈ l ∧ num (bestFrom (0, []) l).2 = some (bestFrom (0, []) l).1)) := by
  induction l using snoc_ind with
  | h0 => exact ⟨(fun s h => by cases h), .inl ⟨rfl, (fun s h => by cases h)⟩⟩
  | h1 l t ih =>
    rw [List.pairwise_append] at hs
    obtain ⟨h1, h2⟩ := ih hs.1
    have hst : ∀ s ∈ l, s ≤ t := fun s h => hs.2.2 s h t (by simp)
    have e : bestFrom (0, []) (l ++ [t]) = match num t with | some n => (n, t) | none => bestFrom (0, []) l := by simp [bestFrom]
    cases ht : num t with
    | none =>
      rw [e, ht]
      refine ⟨fun s h n hn => ?_, ?_⟩
      · rcases List.mem_append.1 h with h | h
        · exact h1 s h n hn
        · rw [List.mem_singleton.1 h, ht] at hn; cases hn
      · rcases h2 with ⟨h2, h3⟩ | ⟨h2, h3⟩
        · refine .inl ⟨h2, fun s h => ?_⟩
          rcases List.mem_append.1 h with h | h
          · exact h3 s h
          · rw [List.mem_singleton.1 h, ht]
        · exact .inr ⟨List.mem_append.2 (.inl h2), h3⟩
    | some n =>
      rw [e, ht]
      refine ⟨fun s h m hm => ?_, .inr ⟨by simp, ht⟩⟩
      rcases List.mem_append.1 h with h | h
      · exact num_le hm ht (hst s h)
      · rw [List.mem_singleton.1 h, ht] at hm
        exact Nat.le_of_eq (Option.some.inj hm).symm
end Go.Proofs.YtilgfpljjjbgdaaGreatDoor.Fs
namespace Go.Proofs.YtilgfpljjjbgdaaGreatDoor.Fs
open Go.RowKit Go.Proofs.YtilgfpljjjbgdaaGreatDoorW.PrintWords Go.Proofs.YtilgfpljjjbgdaaGreatDoor.Plain Go.Sort
set_option linter.unusedVariables false
set_option linter.unusedSimpArgs false
structure IdsD where
  last : Nat
  bound : Nat
  file : Nm
def Disk.opened (d : Disk) : IdsD := ⟨(bestFrom (0, []) (names d.now)).1, (bestFrom (0, []) (names d.now)).1, (bestFrom (0, []) (names d.now)).2⟩
def moreBound (I : IdsD) : Nat := min (I.last + 16) 999999999
def Disk.more (d : Disk) (x : Nat) (I : IdsD) : Int × Disk × IdsD :=
  if (d.create x (nameOf (moreBound I))).1 ≠ 0 then ((d.create x (nameOf (moreBound I))).1, (d.create x (nameOf (moreBound I))).2, I)
  else if (d.create x (nameOf (moreBound I))).2.dirSync.1 ≠ 0 then ((d.create x (nameOf (moreBound I))).2.dirSync.1, (d.create x (nameOf (moreBound I))).2.dirSync.2, ⟨I.last, moreBound I, nameOf (moreBound I)⟩)
  else if I.file = [] then (0, (d.create x (nameOf (moreBound I))).2.dirSync.2, ⟨I.last, moreBound I, nameOf (moreBound I)⟩)
  else (((d.create x (nameOf (moreBound I))).2.dirSync.2.unlink I.file).1, ((d.create x (nameOf (moreBound I))).2.dirSync.2.unlink I.file).2, ⟨I.last, moreBound I, nameOf (moreBound I)⟩)
def Disk.next (d : Disk) (x : Nat) (I : IdsD) : (Nat × Int) × Disk × IdsD :=
  if d.down = true then ((0, 2), d, I) else if I.last = 999999999 then ((0, 3), d, I)
  else if I.bound ≤ I.last then
    if (d.more x I).1 ≠ 0 then ((0, (d.more x I).1), (d.more x I).2.1, (d.more x I).2.2)
    else (((d.more x I).2.2.last + 1, 0), (d.more x I).2.1, { (d.more x I).2.2 with last := (d.more x I).2.2.last + 1 })
  else ((I.last + 1, 0), d, { I with last := I.last + 1 })
theorem len_del_mem {d : Dir} {n : Nm} {x : Nat} (h : (n, x) ∈ d) : (del d n).length + 1 ≤ d.length := by
  induction d with
  | nil => cases h
  | cons q r ih =>
    by_cases hq : q.1 = n
    · have e : del (q :: r) n = del r n := by unfold del; rw [List.filter_cons, if_neg (by simp [hq])]
      rw [e]
      have := length_del_le r n
      simp only [List.length_cons]
      omega
    · have e : del (q :: r) n = q :: del r n := by unfold del; rw [List.filter_cons, if_pos (by simpa using hq)]
      rw [e]
      rcases List.mem_cons.1 h with rfl | h
      · exact absurd rfl hq
      · have := ih h
        simp only [List.length_cons]
        omega
/-- what an opened one knows of its disk -/
def Live0 (d : Disk) (I : IdsD) : Prop :=
  (∀ p ∈ d.now, ∀ n, num p.1 = some n → n ≤ I.bound) ∧ ((I.file = [] ∧ I.bound = 0 ∧ ∀ p ∈ d.now, num p.1 = none) ∨ (I.file ≠ [] ∧ (∃ x, get d.now I.file = some x) ∧ num I.file = some I.bound)) ∧ I.last ≤ I.bound ∧ I.bound ≤ 999999999
theorem memGet {d : Dir} {n : Nm} {x : Nat} (h : (n, x) ∈ d) : ∃ y, get d n = some y := by
  induction d with
  | nil => cases h
  | cons q r ih =>
    rw [get_cons]
    by_cases e : q.1 = n
    · exact ⟨_, if_pos e⟩
    · rw [if_neg e]
      rcases List.mem_cons.1 h with h | h
      · rw [← h] at e; exact absurd rfl e
      · exact ih h
theorem names_sorted (d : Dir) : (names d).Pairwise (fun a b => a ≤ b) := by
  have := List.pairwise_mergeSort leB_trans leB_total (d.map (·.1))
  refine this.imp (fun h => ?_)
  simpa [leB] using h
theorem opened_live (d : Disk) : Live0 d d.opened := by
  obtain ⟨h1, h2⟩ := best_spec (names_sorted d.now)
  refine ⟨fun p hp n hn => h1 p.1 (mem_names.2 ⟨p.2, hp⟩) n hn, ?_, Nat.le_refl _, ?_⟩
  · rcases h2 with ⟨e, h2⟩ | ⟨h2, h3⟩
    · refine .inl ⟨by unfold Disk.opened; rw [e], by unfold Disk.opened; rw [e], fun p hp => h2 p.1 (mem_names.2 ⟨p.2, hp⟩)⟩
    · obtain ⟨x, hx⟩ := mem_names.1 h2
      refine .inr ⟨fun e => ?_, memGet hx, h3⟩
      have e' : (bestFrom (0, []) (names d.now)).2 = [] := e
      rw [e'] at h3
      cases h3
  · rcases h2 with ⟨e, h2⟩ | ⟨h2, h3⟩
    · show (bestFrom (0, []) (names d.now)).1 ≤ _
      rw [e]; omega
    · have := (nameOf_num h3).1
      show (bestFrom (0, []) (names d.now)).1 ≤ _
      omega
theorem nameOf_ne (n : Nat) : nameOf n ≠ [] := fun e => by have := nameOf_length n; rw [e] at this; cases this
theorem live_file {d : Disk} {I : IdsD} (h : Live0 d I) (hf : I.file ≠ []) : I.file = nameOf I.bound := by
  rcases h.2.1 with ⟨e, _⟩ | ⟨_, _, e⟩
  · exact absurd e hf
  · exact (nameOf_num e).2.symm
theorem live_new {d : Disk} {I : IdsD} (h : Live0 d I) (hl : I.bound ≤ I.last) (hm : I.last ≠ 999999999) : get d.now (nameOf (moreBound I)) = none ∧ I.bound < moreBound I ∧ moreBound I ≤ 999999999 := by
  have h1 : I.bound < moreBound I := by have := h.2.2.1; have := h.2.2.2; unfold moreBound; omega
  have h2 : moreBound I ≤ 999999999 := by unfold moreBound; omega
  refine ⟨?_, h1, h2⟩
  cases hg : get d.now (nameOf (moreBound I)) with
  | none => rfl
  | some y =>
    have := h.1 _ (get_mem hg) _ (num_nameOf (by omega))
    omega
/-- what 'more' may leave -/
theorem more_cases {d : Disk} {I : IdsD} (hd : d.down = false) (h : Live0 d I) (hl : I.bound ≤ I.last) (hm : I.last ≠ 999999999) (hlen : d.now.length < 256) (x : Nat) :
    ((d.more x I).1 = 0 ∧ (d.more x I).2.1.down = false ∧ (d.more x I).2.1.sure = put d.now (nameOf (moreBound I)) x ∧ (d.more x I).2.1.loose = (if I.file = [] then [] else [.unlink I.file]) ∧ (d.more x I).2.2 = ⟨I.last, moreBound I, nameOf (moreBound I)⟩ ∧ (On d → On (d.more x I).2.1)) ∨
    ((d.more x I).1 = 2 ∧ ¬ On d ∧ (d.more x I).2.1.down = true ∧ (((d.more x I).2.1.sure = d.sure ∧ (d.more x I).2.1.loose = d.loose) ∨ ((d.more x I).2.1.sure = d.sure ∧ (d.more x I).2.1.loose = d.loose ++ [.create (nameOf (moreBound I)) x]) ∨ ((d.more x I).2.1.sure = put d.now (nameOf (moreBound I)) x ∧ (d.more x I).2.1.loose = []))) := by
  obtain ⟨hg, hb1, hb2⟩ := live_new h hl hm
  obtain ⟨b, hb⟩ : ∃ b, moreBound I = b := ⟨_, rfl⟩
  unfold Disk.more
  rw [hb] at hg hb1 hb2 ⊢
  have hready : ∀ d' : Disk, d'.down = false → d'.ready [nameOf b] = 0 := fun d' hd' => live_ready hd' (by simpa using nameOf_right b)
  have e1 : d.create x (nameOf b) = Disk.change { d with bytes := setAt d.bytes x [], firm := setAt d.firm x 0 } (.create (nameOf b) x) := by
    rw [Disk.create, if_neg (by rw [hready d hd]; omega), hg, if_neg (by simp), if_neg (by omega)]
  have hon : ∀ d' : Disk, On d' → d'.power.1 = 0 := fun d' ho => by rw [on_power ho]
  rcases power_cases { d with bytes := setAt d.bytes x [], firm := setAt d.firm x 0 } with ⟨p1, fu, p2⟩ | ⟨p1, p2⟩
  · have e2 : d.create x (nameOf b) = (0, { d with bytes := setAt d.bytes x [], firm := setAt d.firm x 0, fuse := fu, loose := d.loose ++ [.create (nameOf b) x] }) := by
      rw [e1, Disk.change, if_pos p1, p2]
    rw [e2]
    simp only [ne_eq, not_true_eq_false, if_false]
    obtain ⟨d1, hd1⟩ : ∃ d1 : Disk, d1 = { d with bytes := setAt d.bytes x [], firm := setAt d.firm x 0, fuse := fu, loose := d.loose ++ [.create (nameOf b) x] } := ⟨_, rfl⟩
    rw [← hd1]
    have hd1d : d1.down = false := by rw [hd1]; exact hd
    have hn1 : d1.now = put d.now (nameOf b) x := by
      rw [hd1]
      show apps d.sure (d.loose ++ [_]) = _
      rw [apps_snoc]; rfl
    have ho1 : On d → On d1 := fun ho => by
      have hpw := on_power (d := { d with bytes := setAt d.bytes x [], firm := setAt d.firm x 0 }) ho
      rw [hpw] at p2
      have : fu = -1 := by have := congrArg Disk.fuse p2; rw [ho.2] at this; exact this.symm
      rw [hd1]
      exact ⟨ho.1, this⟩
    have e3 : d1.dirSync = if d1.power.1 = 0 then (0, { d1.power.2 with sure := d1.now, loose := [] }) else d1.power := by
      rw [Disk.dirSync, if_neg (by rw [live_ready hd1d (by simp)]; omega)]
    rcases power_cases d1 with ⟨q1, fu2, q2⟩ | ⟨q1, q2⟩
    · rw [e3, if_pos q1, q2]
      simp only [not_true_eq_false, if_false]
      obtain ⟨d2, hd2⟩ : ∃ d2 : Disk, d2 = { d1 with fuse := fu2, sure := d1.now, loose := [] } := ⟨_, rfl⟩
      rw [← hd2]
      have hd2d : d2.down = false := by rw [hd2]; exact hd1d
      have hs2 : d2.sure = put d.now (nameOf b) x := by rw [hd2]; exact hn1
      have hl2 : d2.loose = [] := by rw [hd2]
      have hn2 : d2.now = put d.now (nameOf b) x := by rw [Disk.now, hs2, hl2]; rfl
      have ho2 : On d → On d2 := fun ho => by
        have hpw := on_power (ho1 ho)
        rw [hpw] at q2
        have : fu2 = -1 := by have := congrArg Disk.fuse q2; rw [(ho1 ho).2] at this; exact this.symm
        rw [hd2]
        exact ⟨(ho1 ho).1, this⟩
      by_cases hf : I.file = []
      · rw [if_pos hf, if_pos hf]
        exact .inl ⟨rfl, hd2d, hs2, hl2, rfl, ho2⟩
      · rw [if_neg hf, if_neg hf]
        have hfn := live_file h hf
        obtain ⟨y, hy⟩ : ∃ y, get d.now I.file = some y := by
          rcases h.2.1 with ⟨e, _⟩ | ⟨_, e, _⟩
          · exact absurd e hf
          · exact e
        have hne : I.file ≠ nameOf b := by
          rw [hfn]
          intro e
          have := nameOf_inj (by omega) (by omega) e
          omega
        have hg2 : get d2.now I.file = some y := by rw [hn2, get_put_other _ _ hne]; exact hy
        have e4 : d2.unlink I.file = d2.change (.unlink I.file) := by
          rw [Disk.unlink, if_neg (by rw [live_ready hd2d (by rw [hfn]; simpa using nameOf_right I.bound)]; omega), hg2]
        rw [e4, Disk.change]
        rcases power_cases d2 with ⟨r1, fu3, r2⟩ | ⟨r1, r2⟩
        · rw [if_pos r1, r2]
          refine .inl ⟨rfl, hd2d, hs2, by show d2.loose ++ _ = _; rw [hl2]; rfl, rfl, fun ho => ?_⟩
          have hpw := on_power (ho2 ho)
          rw [hpw] at r2
          have : fu3 = -1 := by have := congrArg Disk.fuse r2; rw [(ho2 ho).2] at this; exact this.symm
          exact ⟨(ho2 ho).1, this⟩
        · have e5 : (if d2.power.1 = 0 then (0, { d2.power.2 with loose := d2.loose ++ [.unlink I.file] }) else d2.power : Int × Disk) = (2, { d2 with down := true }) := by
            rw [if_neg (by rw [r1]; decide)]
            exact Prod.ext r1 r2
          rw [e5]
          refine .inr ⟨rfl, (fun ho => by rw [hon _ (ho2 ho)] at r1; cases r1), rfl, .inr (.inr ⟨hs2, hl2⟩)⟩
    · have e3' : d1.dirSync = (2, { d1 with down := true }) := by
        rw [e3, if_neg (by rw [q1]; decide)]
        exact Prod.ext q1 q2
      rw [e3']
      rw [if_pos (show (2 : Int) ≠ 0 by decide)]
      refine .inr ⟨rfl, (fun ho => by rw [hon _ (ho1 ho)] at q1; cases q1), rfl, .inr (.inl ⟨by rw [hd1], by rw [hd1]⟩)⟩
  · have e2 : d.create x (nameOf b) = (2, { d with bytes := setAt d.bytes x [], firm := setAt d.firm x 0, down := true }) := by
      rw [e1, Disk.change, if_neg (by rw [p1]; omega)]
      exact Prod.ext p1 p2
    rw [e2]
    rw [if_pos (show (2 : Int) ≠ 0 by decide)]
    refine .inr ⟨rfl, fun ho => ?_, rfl, .inl ⟨rfl, rfl⟩⟩
    rw [hon { d with bytes := setAt d.bytes x [], firm := setAt d.firm x 0 } ho] at p1
    cases p1
/-- whatever a crash leaves: at most m names, each of a number that is at most R, and one of at least B -/
def Pre (d : Disk) (m R B : Nat) : Prop := ∀ j, (apps d.sure (d.loose.take j)).length ≤ m ∧ (∀ p ∈ apps d.sure (d.loose.take j), ∃ k, k ≤ R ∧ p.1 = nameOf k) ∧ (B = 0 ∨ ∃ p ∈ apps d.sure (d.loose.take j), ∃ k, B ≤ k ∧ num p.1 = some k)
def Alive (M R last : Nat) (d : Disk) (I : IdsD) : Prop := d.down = false ∧ Pre d (M + 1) R I.bound ∧ d.now.length ≤ M ∧ Live0 d I ∧ last ≤ I.last ∧ I.bound ≤ R
def Dead (M R last : Nat) (d : Disk) : Prop := d.down = true ∧ ∃ B, last ≤ B ∧ Pre d (M + 1) R B
def Calm (M R last : Nat) (d : Disk) : Prop := On d ∧ d.loose = [] ∧ Pre d M R last
theorem Pre.mono {d : Disk} {m m' R R' B B' : Nat} (h : Pre d m R B) (hm : m ≤ m') (hR : R ≤ R') (hB : B' ≤ B) : Pre d m' R' B' := fun j => by
  obtain ⟨h1, h2, h3⟩ := h j
  refine ⟨Nat.le_trans h1 hm, fun p hp => ?_, ?_⟩
  · obtain ⟨k, hk, e⟩ := h2 p hp
    exact ⟨k, Nat.le_trans hk hR, e⟩
  · rcases h3 with h3 | ⟨p, hp, k, hk, e⟩
    · exact .inl (by omega)
    · exact .inr ⟨p, hp, k, Nat.le_trans hB hk, e⟩
theorem Pre.move {d d' : Disk} {m R B : Nat} (h : Pre d m R B) (hs : d'.sure = d.sure) (hl : d'.loose = d.loose) : Pre d' m R B := fun j => by rw [hs, hl]; exact h j
theorem Pre.now {d : Disk} {m R B : Nat} (h : Pre d m R B) : d.now.length ≤ m ∧ (∀ p ∈ d.now, ∃ k, k ≤ R ∧ p.1 = nameOf k) ∧ (B = 0 ∨ ∃ p ∈ d.now, ∃ k, B ≤ k ∧ num p.1 = some k) := by
  have := h d.loose.length
  rw [List.take_length] at this
  exact this
theorem Pre.calm {d : Disk} {m R B : Nat} (hl : d.loose = []) (h : d.sure.length ≤ m ∧ (∀ p ∈ d.sure, ∃ k, k ≤ R ∧ p.1 = nameOf k) ∧ (B = 0 ∨ ∃ p ∈ d.sure, ∃ k, B ≤ k ∧ num p.1 = some k)) : Pre d m R B := fun j => by
  rw [hl]
  simpa [apps] using h
theorem crash_calm {d : Disk} {m R B last : Nat} (hB : last ≤ B) (h : Pre d m R B) (n k : Int) : Calm m R last (d.crash n k) :=
  ⟨⟨rfl, rfl⟩, rfl, Pre.calm rfl (((h.mono (Nat.le_refl _) (Nat.le_refl _) hB)) _)⟩
theorem alive_crash {M R last : Nat} {d : Disk} {I : IdsD} (h : Alive M R last d I) (n k : Int) : Calm (M + 1) R last (d.crash n k) := crash_calm (Nat.le_trans h.2.2.2.2.1 h.2.2.2.1.2.2.1) h.2.1 n k
theorem dead_crash {M R last : Nat} {d : Disk} (h : Dead M R last d) (n k : Int) : Calm (M + 1) R last (d.crash n k) := by
  obtain ⟨_, B, hB, hp⟩ := h
  exact crash_calm hB hp n k
theorem calm_open {M R last : Nat} {d : Disk} (h : Calm M R last d) (hR : R < 1000000000) : Alive M R last d d.opened := by
  obtain ⟨h1, h2, h3⟩ := h
  have hn : d.now = d.sure := by rw [Disk.now, h2]; rfl
  obtain ⟨n1, n2, n3⟩ := h3.now
  have hL := opened_live d
  have hle : last ≤ d.opened.bound := by
    rcases n3 with n3 | ⟨p, hp, k, hk, e⟩
    · omega
    · exact Nat.le_trans hk (hL.1 p hp k e)
  have hRb : d.opened.bound ≤ R := by
    rcases hL.2.1 with ⟨_, e, _⟩ | ⟨_, ⟨x, hx⟩, e⟩
    · omega
    · obtain ⟨k, hk, ek⟩ := n2 _ (get_mem hx)
      have ek' : d.opened.file = nameOf k := ek
      obtain ⟨e1, e2⟩ := nameOf_num e
      rw [ek'] at e2
      have := nameOf_inj e1 (by omega) e2
      omega
  refine ⟨h1.1, Pre.calm h2 ⟨by rw [← hn]; omega, by rw [← hn]; exact n2, ?_⟩, n1, hL, hle, hRb⟩
  rcases hL.2.1 with ⟨_, e, _⟩ | ⟨_, ⟨x, hx⟩, e⟩
  · exact .inl e
  · exact .inr ⟨(d.opened.file, x), by rw [← hn]; exact get_mem hx, _, Nat.le_refl _, e⟩
theorem calm_fresh (n : Int) : Calm 1 0 0 (Disk.fresh n) := ⟨⟨rfl, rfl⟩, rfl, Pre.calm rfl ⟨Nat.zero_le _, (fun p h => by cases h), .inl rfl⟩⟩
theorem alive_fuse {M R last : Nat} {d : Disk} {I : IdsD} (h : Alive M R last d I) (n : Int) : Alive M R last (d.setFuse n) I := h
theorem apps_pre_snoc {d : Disk} {c : Chg} (j : Nat) : (apps d.sure ((d.loose ++ [c]).take j)) = apps d.sure (d.loose.take j) ∨ apps d.sure ((d.loose ++ [c]).take j) = c.app d.now := by
  rcases Nat.lt_or_ge d.loose.length j with h | h
  · right
    rw [List.take_of_length_le (by simp; omega), apps_snoc]
    rfl
  · left
    rw [List.take_append_of_le_length h]
/-- one number more -/
theorem alive_next {M R last : Nat} {d : Disk} {I : IdsD} (h : Alive M R last d I) (hM : 1 ≤ M) (hM2 : M < 256) (hR : R + 16 ≤ 999999998) (x : Nat) :
    ((d.next x I).1 = (0, 2) ∧ ¬ On d ∧ Dead M (R + 16) last (d.next x I).2.1) ∨ ((d.next x I).1 = (I.last + 1, 0) ∧ (d.next x I).2.2.last = I.last + 1 ∧ Alive M (R + 16) (I.last + 1) (d.next x I).2.1 (d.next x I).2.2 ∧ (On d → On (d.next x I).2.1) ∧ (d.next x I).2.2.bound = (if I.bound ≤ I.last then I.last + 16 else I.bound) ∧ (d.next x I).2.2.file ≠ []) := by
  obtain ⟨hd, hP, hnl, hL, hll, hbR⟩ := h
  have hm : I.last ≠ 999999999 := by have := hL.2.2.1; omega
  unfold Disk.next
  rw [if_neg (by rw [hd]; decide), if_neg hm]
  by_cases hl : I.bound ≤ I.last
  · rw [if_pos hl]
    obtain ⟨hg, hb1, hb2⟩ := live_new hL hl hm
    have hnb : moreBound I = I.last + 16 := by have := hL.2.2.1; unfold moreBound; omega
    obtain ⟨n1, n2, n3⟩ := hP.now
    have hlb : I.last = I.bound := by have := hL.2.2.1; omega
    have hput : (put d.now (nameOf (moreBound I)) x).length ≤ M + 1 ∧ (∀ p ∈ put d.now (nameOf (moreBound I)) x, ∃ k, k ≤ R + 16 ∧ p.1 = nameOf k) ∧ (nameOf (moreBound I), x) ∈ put d.now (nameOf (moreBound I)) x := by
      refine ⟨Nat.le_trans (length_put_le _ _ _) (by omega), fun p hp => ?_, mem_put.2 (.inl rfl)⟩
      rcases mem_put.1 hp with rfl | ⟨hp, _⟩
      · exact ⟨_, by omega, rfl⟩
      · obtain ⟨k, hk, e⟩ := n2 p hp
        exact ⟨k, by omega, e⟩
    have hnum : num (nameOf (moreBound I)) = some (moreBound I) := num_nameOf (by omega)
    rcases more_cases hd hL hl hm (by omega) x with ⟨m1, m2, m3, m4, m5, m6⟩ | ⟨m1, m2, m3, m4⟩
    · rw [if_neg (by rw [m1]; decide)]
      refine .inr ⟨by rw [m5], by rw [m5], ⟨m2, ?_, ?_, ?_, Nat.le_of_eq (by rw [m5]), by rw [m5]; show moreBound I ≤ _; omega⟩, m6, by rw [m5, if_pos hl]; exact hnb, by rw [m5]; exact nameOf_ne _⟩
      · intro j
        rw [m3, m4, m5]
        show _ ∧ _ ∧ (moreBound I = 0 ∨ _)
        by_cases hf : I.file = []
        · rw [if_pos hf, List.take_nil]
          exact ⟨hput.1, hput.2.1, .inr ⟨_, hput.2.2, _, Nat.le_refl _, hnum⟩⟩
        · rw [if_neg hf]
          cases j with
          | zero => exact ⟨hput.1, hput.2.1, .inr ⟨_, hput.2.2, _, Nat.le_refl _, hnum⟩⟩
          | succ j =>
            have e : apps (put d.now (nameOf (moreBound I)) x) (([Chg.unlink I.file] : List Chg).take (j + 1)) = del (put d.now (nameOf (moreBound I)) x) I.file := by
              rw [List.take_of_length_le (by simp)]; rfl
            rw [e]
            refine ⟨Nat.le_trans (length_del_le _ _) hput.1, fun p hp => hput.2.1 p (mem_del.1 hp).1, .inr ⟨_, mem_del.2 ⟨hput.2.2, fun e => ?_⟩, _, Nat.le_refl _, hnum⟩⟩
            have e' : nameOf (moreBound I) = I.file := e
            rw [live_file hL hf] at e'
            have := nameOf_inj (by omega) (by omega) e'
            omega
      · rw [Disk.now, m3, m4]
        by_cases hf : I.file = []
        · rw [if_pos hf]
          rcases hL.2.1 with ⟨_, _, hnone⟩ | ⟨e, _⟩
          · have : d.now = [] := by
              cases hdn : d.now with
              | nil => rfl
              | cons p r =>
                obtain ⟨k, hk, e⟩ := n2 p (by rw [hdn]; simp)
                have h1 := hnone p (by rw [hdn]; simp)
                rw [e, num_nameOf (by omega)] at h1
                cases h1
            rw [this]
            show (1 : Nat) ≤ M
            exact hM
          · exact absurd hf e
        · rw [if_neg hf]
          rcases hL.2.1 with ⟨e, _⟩ | ⟨_, ⟨y, hy⟩, _⟩
          · exact absurd e hf
          · show (del (put d.now (nameOf (moreBound I)) x) I.file).length ≤ M
            have hin : (I.file, y) ∈ put d.now (nameOf (moreBound I)) x := mem_put.2 (.inr ⟨get_mem hy, fun e => by
              have e' : I.file = nameOf (moreBound I) := e
              rw [live_file hL hf] at e'
              have := nameOf_inj (by omega) (by omega) e'
              omega⟩)
            have := len_del_mem hin
            omega
      · have hnow : ∀ p ∈ (d.more x I).2.1.now, p = (nameOf (moreBound I), x) ∨ p ∈ d.now := by
          rw [Disk.now, m3, m4]
          intro p hp
          by_cases hf : I.file = []
          · rw [if_pos hf] at hp
            exact (mem_put.1 hp).imp id (fun h => h.1)
          · rw [if_neg hf] at hp
            have hp' : p ∈ del (put d.now (nameOf (moreBound I)) x) I.file := hp
            exact (mem_put.1 (mem_del.1 hp').1).imp id (fun h => h.1)
        rw [m5]
        refine ⟨fun p hp n hn => ?_, .inr ⟨nameOf_ne _, ?_, hnum⟩, by show I.last + 1 ≤ moreBound I; omega, hb2⟩
        · show n ≤ moreBound I
          rcases hnow p hp with rfl | hp
          · have hn' : num (nameOf (moreBound I)) = some n := hn
            rw [hnum] at hn'
            exact Nat.le_of_eq (Option.some.inj hn').symm
          · have := hL.1 p hp n hn
            omega
        · rw [Disk.now, m3, m4]
          by_cases hf : I.file = []
          · rw [if_pos hf]
            exact ⟨x, get_put_same _ _ _⟩
          · rw [if_neg hf]
            refine ⟨x, ?_⟩
            show get (del (put d.now (nameOf (moreBound I)) x) I.file) (nameOf (moreBound I)) = some x
            rw [get_del_other _ (fun e => ?_), get_put_same]
            rw [live_file hL hf] at e
            have := nameOf_inj (by omega) (by omega) e
            omega
    · rw [if_pos (by rw [m1]; decide)]
      refine .inl ⟨by rw [m1], m2, m3, I.bound, by omega, ?_⟩
      rcases m4 with ⟨s, l⟩ | ⟨s, l⟩ | ⟨s, l⟩
      · exact (hP.mono (Nat.le_refl _) (by omega) (Nat.le_refl _)).move s l
      · intro j
        rw [s, l]
        rcases apps_pre_snoc (d := d) (c := .create (nameOf (moreBound I)) x) j with e | e
        · rw [e]
          exact (hP.mono (Nat.le_refl _) (by omega) (Nat.le_refl _)) j
        · rw [e]
          exact ⟨hput.1, hput.2.1, .inr ⟨_, hput.2.2, _, by omega, hnum⟩⟩
      · refine Pre.calm l ?_
        rw [s]
        exact ⟨hput.1, hput.2.1, .inr ⟨_, hput.2.2, _, by omega, hnum⟩⟩
  · rw [if_neg hl]
    refine .inr ⟨rfl, rfl, ⟨hd, hP.mono (Nat.le_refl _) (by omega) (Nat.le_refl _), hnl, ⟨hL.1, hL.2.1, by show I.last + 1 ≤ I.bound; omega, hL.2.2.2⟩, Nat.le_refl _, by show I.bound ≤ _; omega⟩, id, by rw [if_neg hl], ?_⟩
    rcases hL.2.1 with ⟨_, e, _⟩ | ⟨e, _⟩
    · omega
    · exact e
end Go.Proofs.YtilgfpljjjbgdaaGreatDoor.Fs
