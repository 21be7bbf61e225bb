/- A text at each of a byte; numbers and their digits; what strings.Split answers; which steps a line has. -/
import Derived.Test.YtkcdlfkicopmoaaDoorScrUnhex
import Derived.Lib.AtoiAllCases
import Derived.Lib.Split
import Derived.Lib.SplitLaws
import Derived.Lib.CountLaws
namespace Go.Proofs.YtkcdlfkicopmoaaDoor.Fs
open Go.RowKit Go.Proofs.YtkcdlfkicopmoaaDoor Go.Proofs.YtkcdlfkicopmoaaDoor.Plain Go.Proofs.YtkcdlfkicopmoaaDoorW.PrintWords Go.Maps
set_option linter.unusedVariables false
set_option linter.unusedSimpArgs false
/-! ### a text at each of a byte -/
def cutsA (c : UInt8) (acc : List UInt8) : List UInt8 → List (List UInt8)
  | [] => [acc]
  | b :: u => if b = c then acc :: cutsA c [] u else cutsA c (acc ++ [b]) u
def cuts (c : UInt8) (u : List UInt8) : List (List UInt8) := cutsA c [] u
theorem cutsA_none {c : UInt8} {u : List UInt8} (h : c ∉ u) : ∀ acc, cutsA c acc u = [acc ++ u] := by
  induction u with
  | nil => intro acc; simp [cutsA]
  | cons b u ih =>
    intro acc
    have hb : ¬ b = c := fun e => h (by simp [e])
    rw [cutsA, if_neg hb, ih (fun e => h (by simp [e]))]
    simp
theorem cutsA_app {c : UInt8} {a : List UInt8} (h : c ∉ a) (b : List UInt8) : ∀ acc, cutsA c acc (a ++ c :: b) = (acc ++ a) :: cutsA c [] b := by
  induction a with
  | nil => intro acc; simp [cutsA]
  | cons x a ih =>
    intro acc
    have hb : ¬ x = c := fun e => h (by simp [e])
    rw [List.cons_append, cutsA, if_neg hb, ih (fun e => h (by simp [e]))]
    simp
theorem cuts_none {c : UInt8} {u : List UInt8} (h : c ∉ u) : cuts c u = [u] := by rw [cuts, cutsA_none h]; rfl
theorem cuts_app {c : UInt8} {a : List UInt8} (h : c ∉ a) (b : List UInt8) : cuts c (a ++ c :: b) = a :: cuts c b := by rw [cuts, cutsA_app h]; rfl
theorem split_ind (c : UInt8) {P : List UInt8 → Prop} (h0 : ∀ u, c ∉ u → P u) (h1 : ∀ a b, c ∉ a → P b → P (a ++ c :: b)) : ∀ u, P u := by
  have key : ∀ n (u : List UInt8), u.length ≤ n → P u := by
    intro n
    induction n with
    | zero => intro u hu; have : u = [] := List.length_eq_zero_iff.1 (by omega); subst this; exact h0 [] (by simp)
    | succ n ih =>
      intro u hu
      by_cases hc : c ∈ u
      · obtain ⟨a, b, rfl, ha⟩ := List.eq_append_cons_of_mem hc
        exact h1 a b ha (ih b (by simp at hu; omega))
      · exact h0 u hc
  exact fun u => key _ u (Nat.le_refl _)
theorem cuts_length (c : UInt8) (u : List UInt8) : (cuts c u).length ≤ u.length + 1 := by
  induction u using split_ind c with
  | h0 u h => rw [cuts_none h]; simp
  | h1 a b h ih => rw [cuts_app h]; simp; omega
theorem cuts_mem_length {c : UInt8} {u l : List UInt8} (h : l ∈ cuts c u) : l.length ≤ u.length := by
  induction u using split_ind c with
  | h0 u h0 => rw [cuts_none h0] at h; simp at h; rw [h]; exact Nat.le_refl _
  | h1 a b ha ih =>
    rw [cuts_app ha] at h
    rcases List.mem_cons.1 h with rfl | h
    · simp
    · have := ih h; simp; omega

/-- what is joined is cut again -/
theorem cuts_join {c : UInt8} : ∀ (l : List Nm), l ≠ [] → (∀ s ∈ l, c ∉ s) → cuts c (Lib.join l [c]) = l
  | [], h, _ => absurd rfl h
  | [x], _, h => by rw [Lib.join_one, cuts_none (h x (by simp))]
  | x :: y :: r, _, h => by
    have ih := cuts_join (y :: r) (by simp) (fun s hs => h s (by simp [hs]))
    have e : Lib.join (x :: y :: r) [c] = x ++ c :: Lib.join (y :: r) [c] := by
      rw [Lib.join_cons, Lib.join_cons]
      simp [Lib.joinTail]
    rw [e, cuts_app (h x (by simp)), ih]
theorem splitB_cuts (c : UInt8) (u : Nm) : Lib.splitB (S [c]) 0 (Lib.countB (S u) (S [c])) (S u) = (cuts c u).map S := by
  induction u using split_ind c with
  | h0 u h =>
    have hi : Lib.indexB (S u) (S [c]) = -1 := by show Lib.index u [c] = -1; rw [index_one, if_neg h]
    rw [Lib.splitB_miss _ _ _ _ hi, cuts_none h]
    rfl
  | h1 a b h ih =>
    have hi : Lib.indexB (S (a ++ c :: b)) (S [c]) = (a.length : Int) := by
      show Lib.index (a ++ c :: b) [c] = _
      rw [index_one, if_pos (by simp)]
      have : (a ++ c :: b).takeWhile (· ≠ c) = a := by
        rw [List.takeWhile_append_of_pos]
        · simp
        · intro x hx
          simp
          rintro rfl
          exact h hx
      rw [this]
    have hx : (S (a ++ c :: b)).extract (a.length + (S [c]).size) (S (a ++ c :: b)).size = S b := by
      rw [S_extract, S_size, S_size, List.take_length, show a ++ c :: b = (a ++ [c]) ++ b by simp, List.drop_left' (by simp)]
    rw [Lib.countB_hit _ _ a.length (by simp) hi, hx, Nat.add_comm 1, Lib.splitB, hi, if_neg (by simp), Int.toNat_natCast, hx, ih, cuts_app h, Nat.add_zero, S_extract]
    simp
theorem splitIs (u : Nm) (hu : u.length ≤ 4000000000) (w : World) (hG : GI w) : Calls Tryd.prog 30 #[.string (S u), .string ⟨#[32]⟩] w fun e w' => e = .returned (.slice (some ⟨w.heap.size, 0, none⟩) (cuts 32 u).length (cuts 32 u).length) ∧ w' = w.alloc (.cells (strs (cuts 32 u)).toArray 9) := by
  obtain ⟨m, hm⟩ := hG.maxLen
  refine (Tryd.strings_Split (S u) (S [32]) m w (by rw [S_size]; omega) hm (by rw [S_size]; decide)).mono ?_
  rintro e w' ⟨rfl, rfl⟩
  have h1 := splitB_cuts 32 u
  have h2 := Lib.splitB_all (S [32]) (by rw [S_size]; decide) 0 _ (S u) rfl
  rw [h1, List.length_map] at h2
  rw [h1, ← h2]
  refine ⟨rfl, ?_⟩
  rw [strs, List.map_map]
  rfl
/-! numbers and their digits -/
def isDig (c : UInt8) : Bool := decide (48 ≤ c.toNat ∧ c.toNat ≤ 57)
def valA (a : Nat) (l : Nm) : Nat := l.foldl (fun a c => a * 10 + (c.toNat - 48)) a
theorem valA_le (l : Nm) : ∀ a, a ≤ valA a l := by
  induction l with
  | nil => intro a; exact Nat.le_refl _
  | cons c r ih => intro a; exact Nat.le_trans (by omega) (ih (a * 10 + (c.toNat - 48)))
theorem parse_digits : ∀ (l : Nm) (a : Nat), l.all isDig = true → valA a l < 18446744073709551616 → Lib.parseUint10 a l = .ok (valA a l)
  | [], a, _, _ => rfl
  | c :: r, a, h, hb => by
    rw [List.all_cons, Bool.and_eq_true] at h
    have h1 := h.1
    simp only [isDig, decide_eq_true_eq] at h1
    have e : valA a (c :: r) = valA (a * 10 + (c.toNat - 48)) r := rfl
    have hle := valA_le r (a * 10 + (c.toNat - 48))
    rw [e] at hb ⊢
    rw [Lib.parseUint10, if_pos h1, if_neg (by omega), if_neg (by omega)]
    exact parse_digits r _ h.2 hb
theorem dec_all (n : Nat) : (Lib.decDigits n).all isDig = true ∧ valA 0 (Lib.decDigits n) = n ∧ Lib.decDigits n ≠ [] := by
  induction n using Nat.strongRecOn with
  | ind n ih =>
    rw [Lib.decDigits]
    split
    · rename_i h
      refine ⟨?_, ?_, by simp⟩
      · simp only [List.all_cons, List.all_nil, isDig, Bool.and_true, decide_eq_true_eq, UInt8.toNat_ofNat']
        omega
      · simp only [valA, List.foldl_cons, List.foldl_nil, UInt8.toNat_ofNat']
        omega
    · rename_i h
      obtain ⟨h1, h2, h3⟩ := ih (n / 10) (by omega)
      refine ⟨?_, ?_, by simp⟩
      · rw [List.all_append, h1]
        simp only [List.all_cons, List.all_nil, isDig, Bool.and_true, Bool.true_and, decide_eq_true_eq, UInt8.toNat_ofNat']
        omega
      · unfold valA at h2 ⊢
        rw [List.foldl_append, h2]
        simp only [List.foldl_cons, List.foldl_nil, UInt8.toNat_ofNat']
        omega
theorem atoi_itoa {n : Int} (h : I64 n) : atoiVal (Lib.itoa n) = n := by
  obtain ⟨h0, h1⟩ := h
  unfold Lib.itoa
  split
  · rename_i hn
    obtain ⟨d1, d2, d3⟩ := dec_all n.natAbs
    have hp : Lib.parseMag (Lib.decDigits n.natAbs) = .ok n.natAbs := by
      unfold Lib.parseMag
      rw [if_neg d3, parse_digits _ _ d1 (by rw [d2]; omega), d2]
    unfold atoiVal
    rw [Lib.atoiAll_minus, hp]
    simp only [Lib.signed]
    rw [if_neg (by omega)]
    show -(n.natAbs : Int) = n
    omega
  · rename_i hn
    obtain ⟨d1, d2, d3⟩ := dec_all n.toNat
    have hp : Lib.parseMag (Lib.decDigits n.toNat) = .ok n.toNat := by
      unfold Lib.parseMag
      rw [if_neg d3, parse_digits _ _ d1 (by rw [d2]; omega), d2]
    cases hd : Lib.decDigits n.toNat with
    | nil => exact absurd hd d3
    | cons c r =>
      rw [hd] at hp d1
      rw [List.all_cons, Bool.and_eq_true] at d1
      have hc := d1.1
      simp only [isDig, decide_eq_true_eq] at hc
      unfold atoiVal
      rw [Lib.atoiAll_plain c r (by omega) (by omega), hp]
      simp only [Lib.signless]
      rw [if_neg (by omega)]
      show (n.toNat : Int) = n
      omega
theorem atoiVal_I64 (t : Nm) : I64 (atoiVal t) := by
  unfold atoiVal
  split
  · rename_i v h
    exact Lib.atoiAll_bounds h
  · exact Lib.atoiSat_bounds t
  · exact ⟨by omega, by omega⟩
theorem itoa_bytes (n : Int) : ∀ c ∈ Lib.itoa n, c = 45 ∨ isDig c = true := by
  intro c hc
  unfold Lib.itoa at hc
  split at hc
  · rcases List.mem_cons.1 hc with h | h
    · exact .inl h
    · exact .inr (List.all_eq_true.1 (dec_all _).1 c h)
  · exact .inr (List.all_eq_true.1 (dec_all _).1 c hc)
theorem hexL_bytes (u : Nm) : ∀ c ∈ hexL u, hexv c < 16 := by
  intro c hc
  unfold hexL at hc
  obtain ⟨b, _, hb⟩ := List.mem_flatMap.1 hc
  have h256 := b.toNat_lt
  simp only [List.mem_cons, List.not_mem_nil, or_false] at hb
  rcases hb with rfl | rfl
  · rw [hexv_hexd (by omega)]; omega
  · rw [hexv_hexd (by omega)]; omega
theorem itoa_no {n : Int} {k : UInt8} (hk : k ≠ 45) (hd : isDig k = false) : k ∉ Lib.itoa n := fun h => by
  rcases itoa_bytes n k h with h | h
  · exact hk h
  · rw [hd] at h; cases h
theorem hex_no {u : Nm} {k : UInt8} (hk : k ≠ 120) (hd : ¬ hexv k < 16) : k ∉ (120 :: hexL u : Nm) := fun h => by
  rcases List.mem_cons.1 h with h | h
  · exact hk h
  · exact hd (hexL_bytes u k h)
/-! which step a line has -/
def wordsL (ns : List Int) (ts : List Nm) : List Nm := ns.map Lib.itoa ++ ts.map fun t => 120 :: hexL t
theorem wordsL_no (ns : List Int) (ts : List Nm) : ∀ s ∈ wordsL ns ts, (32 : UInt8) ∉ s ∧ (10 : UInt8) ∉ s := by
  intro s hs
  unfold wordsL at hs
  rcases List.mem_append.1 hs with hs | hs
  · obtain ⟨n, _, rfl⟩ := List.mem_map.1 hs
    exact ⟨itoa_no (by decide) (by decide), itoa_no (by decide) (by decide)⟩
  · obtain ⟨t, _, rfl⟩ := List.mem_map.1 hs
    exact ⟨hex_no (by decide) (by decide), hex_no (by decide) (by decide)⟩
theorem lineL_eq (ns : List Int) (ts : List Nm) : lineL ns ts = Lib.join (wordsL ns ts) [32] ++ [10] := rfl
theorem join_no {c k : UInt8} (hck : k ≠ c) : ∀ (l : List Nm), (∀ s ∈ l, k ∉ s) → k ∉ Lib.join l [c]
  | [], _ => by rw [Lib.join_nil]; simp
  | [x], h => by rw [Lib.join_one]; exact h x (by simp)
  | x :: y :: r, h => by
    have ih := join_no hck (y :: r) (fun s hs => h s (by simp [hs]))
    have e : Lib.join (x :: y :: r) [c] = x ++ c :: Lib.join (y :: r) [c] := by
      rw [Lib.join_cons, Lib.join_cons]
      simp [Lib.joinTail]
    rw [e, List.mem_append, List.mem_cons]
    rintro (h1 | h1 | h1)
    · exact h x (by simp) h1
    · exact hck h1
    · exact ih h1
/-- what the parts say -/
def stepOf (p0 p1 p2 p3 : Nm) : StepD := ⟨atoiVal p0, atoiVal p1, atoiVal p2, unhexT p3⟩
def readP (s : Nm) : Option StepD := match cuts 32 s with
  | [p0, p1, p2, p3] => if stepL (stepOf p0 p1 p2 p3) = s ++ [10] then some (stepOf p0 p1 p2 p3) else none
  | _ => none
theorem unhexT_hex (t : Nm) : unhexT (120 :: hexL t) = t := by unfold unhexT; rw [unhexB_iff.2 rfl]; rfl
theorem readP_some {s : Nm} {x : StepD} (h : readP s = some x) : stepL x = s ++ [10] ∧ I64 x.kind ∧ I64 x.a ∧ I64 x.b := by
  unfold readP at h
  split at h
  · split at h
    · rename_i h2
      cases h
      exact ⟨h2, atoiVal_I64 _, atoiVal_I64 _, atoiVal_I64 _⟩
    · cases h
  · cases h
theorem readP_step {s : Nm} {x : StepD} (hk : I64 x.kind) (ha : I64 x.a) (hb : I64 x.b) (h : stepL x = s ++ [10]) : readP s = some x := by
  have hs : s = Lib.join (wordsL [x.kind, x.a, x.b] [x.text]) [32] := by
    have : Lib.join (wordsL [x.kind, x.a, x.b] [x.text]) [32] ++ [10] = s ++ [10] := h
    exact (List.append_cancel_right this).symm
  have hc : cuts 32 s = [Lib.itoa x.kind, Lib.itoa x.a, Lib.itoa x.b, 120 :: hexL x.text] := by
    rw [hs, cuts_join _ (by simp [wordsL]) (fun s hs => (wordsL_no _ _ s hs).1)]
    rfl
  have hx : stepOf (Lib.itoa x.kind) (Lib.itoa x.a) (Lib.itoa x.b) (120 :: hexL x.text) = x := by
    unfold stepOf
    rw [atoi_itoa hk, atoi_itoa ha, atoi_itoa hb, unhexT_hex]
  unfold readP
  rw [hc]
  simp only []
  rw [hx, if_pos h]
end Go.Proofs.YtkcdlfkicopmoaaDoor.Fs
