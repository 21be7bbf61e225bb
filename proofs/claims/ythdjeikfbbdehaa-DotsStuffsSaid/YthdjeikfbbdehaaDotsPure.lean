/- The pure side of chapter 8: what the printed functions compute, by lists of bytes. -/
import Derived.Test.YthdjeikfbbdehaaPALLx
import Derived.Test.YthdjeikfbbdehaaPlain
namespace Go.Proofs.Ythdjeikfbbdehaa.Pure
open Go.RowKit Go.Proofs.Ythdjeikfbbdehaa.PALL Go.Proofs.Ythdjeikfbbdehaa.Plain Go.Proofs.YthdjeikfbbdehaaW.PrintWords
set_option linter.unusedVariables false
set_option linter.unusedSimpArgs false

/-- lines, each with its end -/
def unl (ls : List (List UInt8)) : List UInt8 := (ls.map (· ++ [10])).flatten
theorem unl_nil : unl [] = [] := rfl
theorem unl_cons (l : List UInt8) (ls : List (List UInt8)) : unl (l :: ls) = l ++ 10 :: unl ls := by simp [unl]
theorem unl_append (a b : List (List UInt8)) : unl (a ++ b) = unl a ++ unl b := by simp [unl]
theorem decomp (u : List UInt8) : ∃ ls t, u = unl ls ++ t ∧ (∀ l ∈ ls, (10 : UInt8) ∉ l) ∧ (10 : UInt8) ∉ t := by
  induction u with
  | nil => exact ⟨[], [], rfl, by simp, by simp⟩
  | cons b u ih =>
    obtain ⟨ls, t, rfl, h1, h2⟩ := ih
    by_cases hb : b = 10
    · exact ⟨[] :: ls, t, by simp [unl_cons, hb], by simpa using h1, h2⟩
    · have hb' : ¬ (10 : UInt8) = b := fun e => hb e.symm
      cases ls with
      | nil => exact ⟨[], b :: t, by simp [unl_nil], by simp, by simp [hb', h2]⟩
      | cons l ls =>
        refine ⟨(b :: l) :: ls, t, by simp [unl_cons], ?_, h2⟩
        intro x hx
        rcases List.mem_cons.1 hx with rfl | hx
        · simp [hb', h1 l (by simp)]
        · exact h1 x (by simp [hx])
theorem unl_length (ls : List (List UInt8)) : ls.length ≤ (unl ls).length := by
  induction ls with
  | nil => simp
  | cons l ls ih => rw [unl_cons]; simp; omega

theorem cut_found {a b : List UInt8} {c : UInt8} (h : c ∉ a) (hs : (a ++ c :: b).length < 4294967281) : strings_Cut.f (S (a ++ c :: b)) (S [c]) = some (S a, S b, true) := by
  unfold strings_Cut.f
  rw [if_pos (by simpa using hs)]
  simp only [S_data, cut_one a b c h]
  rfl
theorem cut_not {a : List UInt8} {c : UInt8} (h : c ∉ a) (hs : a.length < 4294967281) : strings_Cut.f (S a) (S [c]) = some (S a, S [], false) := by
  unfold strings_Cut.f
  rw [if_pos (by simpa using hs)]
  simp only [S_data, cut_none a c h]
  rfl
theorem contains_S (u : List UInt8) (c : UInt8) (hs : u.length < 4294967281) : strings_Contains.f (S u) (S [c]) = some (decide (c ∈ u)) := by
  unfold strings_Contains.f
  rw [if_pos (by simpa using hs)]
  simp only [S_data, contains_one]

theorem lines_l0 (t : List UInt8) (ht : (10 : UInt8) ∉ t) (ls : List (List UInt8)) : ∀ out : List ByteArray, (∀ l ∈ ls, (10 : UInt8) ∉ l) → (unl ls ++ t).length < 4294967281 → out.length + ls.length < 8796093022208 →
    Ev (fun k => dots_Lines.l0 k (S (unl ls ++ t)) out) (if t = [] then (out ++ ls.map S, true) else ([], false)) := by
  induction ls with
  | nil =>
    intro out _ hz _
    refine Ev.succ ⟨0, fun k _ => ?_⟩
    rw [dots_Lines.l0, S_toList, unl_nil, List.nil_append]
    by_cases h : t = []
    · simp [h]
    · rw [if_neg h, if_neg h, show (⟨#[10]⟩ : ByteArray) = S [10] from rfl, cut_not ht (by simpa [unl_nil] using hz)]
      rfl
  | cons l ls ih =>
    intro out h1 hz ho
    rw [unl_cons] at hz ⊢
    simp only [List.length_cons] at ho
    obtain ⟨K, hK⟩ := ih (out ++ [S l]) (fun x hx => h1 x (by simp [hx])) (by simp at hz ⊢; omega) (by simp; omega)
    dsimp only at hK
    refine Ev.succ ⟨K, fun k hk => ?_⟩
    rw [dots_Lines.l0, S_toList, if_neg (by simp), show (⟨#[10]⟩ : ByteArray) = S [10] from rfl, List.append_assoc, List.cons_append, cut_found (h1 l (by simp)) (by simpa [Nat.add_assoc] using hz)]
    simp only [Option.bind_some, if_true]
    rw [if_pos (by omega), hK k hk]
    by_cases h : t = [] <;> simp [h]

theorem lines_f (u : List UInt8) (hz : u.length < 4294967281) : ∃ ls t, u = unl ls ++ t ∧ (∀ l ∈ ls, (10 : UInt8) ∉ l) ∧ (10 : UInt8) ∉ t ∧
    Ev (fun k => dots_Lines.f k (B u)) (if 13 ∈ u then ([], false) else if t = [] then (ls.map S, true) else ([], false)) := by
  obtain ⟨ls, t, rfl, h1, h2⟩ := decomp u
  refine ⟨ls, t, rfl, h1, h2, ?_⟩
  have hl := unl_length ls
  obtain ⟨K, hK⟩ := lines_l0 t h2 ls [] h1 hz (by simp at hz ⊢; omega)
  dsimp only at hK
  refine ⟨K, fun k hk => ?_⟩
  unfold dots_Lines.f
  rw [strOfNums_B, show (⟨#[13]⟩ : ByteArray) = S [13] from rfl, contains_S _ _ hz]
  simp only [Option.bind_some, decide_eq_true_eq]
  by_cases h : 13 ∈ unl ls ++ t
  · rw [if_pos h, if_pos h]
  · rw [if_neg h, if_neg h, hK k hk]
    simp

/-! body -/
def isBody (u : List UInt8) : Bool := decide (13 ∉ u) && (u.isEmpty || u.getLast? == some 10)
theorem body_l0 (u : List UInt8) (hz : u.length ≤ 4611686018427387904) (d : Nat) : ∀ i : Nat, i + d = u.length → (∀ j (h : j < u.length), j < i → u[j] ≠ 13) → Ev (fun k => pillarboxlaw08_body.l0 k (B u) (i : Int)) (isBody u) := by
  induction d with
  | zero =>
    intro i hi hn
    refine Ev.succ ⟨0, fun k _ => ?_⟩
    have h13 : 13 ∉ u := by
      intro h
      obtain ⟨j, hj, e⟩ := List.getElem_of_mem h
      exact hn j hj (by omega) e
    rw [pillarboxlaw08_body.l0, B_length, if_neg (by omega)]
    rcases List.eq_nil_or_concat u with rfl | ⟨v, b, rfl⟩
    · rfl
    · have e1 : (v.concat b).length = v.length + 1 := by simp
      rw [e1] at hi hz ⊢
      have e2 : wrap64 (((v.length + 1 : Nat) : Int) - 1) = (v.length : Int) := by rw [wrap_in (by omega) (by omega)]; omega
      rw [if_neg (by omega), e2, if_pos (by omega), if_pos (by omega), rd_B (by simp)]
      have e3 : (v.concat b)[v.length]'(by simp) = b := by simp
      rw [e3]
      have hk : isBody (v.concat b) = (b == 10) := by
        unfold isBody
        rw [decide_eq_true h13]
        simp
      rw [hk]
      by_cases hb : b = 10
      · subst hb; rfl
      · have hb' : ¬ ((b.toNat : Int) = 10) := fun e => hb ((u8_is 10 rfl).1 e)
        rw [beq_eq_false_iff_ne.2 hb', beq_eq_false_iff_ne.2 hb]
  | succ d ih =>
    intro i hi hn
    have hlt : i < u.length := by omega
    by_cases h : u[i] = 13
    · refine Ev.succ ⟨0, fun k _ => ?_⟩
      rw [pillarboxlaw08_body.l0, B_length, if_pos (by omega), if_pos (by omega), rd_B hlt, if_pos (by rw [h]; rfl)]
      have : 13 ∈ u := h ▸ List.getElem_mem hlt
      simp [isBody, this]
    · obtain ⟨K, hK⟩ := ih (i + 1) (by omega) (fun j hj hji => by
        rcases Nat.lt_or_ge j i with h' | h'
        · exact hn j hj h'
        · have : j = i := by omega
          subst this; exact h)
      dsimp only at hK
      have h13 : ¬ ((u[i].toNat : Int) = 13) := fun e => h ((u8_is 13 rfl).1 e)
      refine Ev.succ ⟨K, fun k hk => ?_⟩
      rw [pillarboxlaw08_body.l0, B_length, if_pos (by omega), if_pos (by omega), rd_B hlt, if_neg h13, wrap_succ (by omega)]
      exact hK k hk
theorem body_f (u : List UInt8) (hz : u.length ≤ 4611686018427387904) : Ev (fun k => pillarboxlaw08_body.f k (B u)) (isBody u) :=
  body_l0 u hz u.length 0 (by omega) (fun j _ h => by omega)
theorem isBody_decomp {ls : List (List UInt8)} {t : List UInt8} (ht : (10 : UInt8) ∉ t) : isBody (unl ls ++ t) = true ↔ (13 ∉ unl ls ++ t ∧ t = []) := by
  unfold isBody
  rw [Bool.and_eq_true, decide_eq_true_eq]
  refine and_congr_right fun _ => ?_
  constructor
  · intro h
    rcases List.eq_nil_or_concat t with rfl | ⟨v, b, rfl⟩
    · rfl
    · exfalso
      simp at h ht
      exact ht.2 h.symm
  · rintro rfl
    rw [List.append_nil]
    rcases List.eq_nil_or_concat ls with rfl | ⟨v, b, rfl⟩
    · rfl
    · rw [List.concat_eq_append, unl_append, unl_cons, unl_nil]
      simp

/-! what a body is sent as -/
def stuff1 (l : List UInt8) : List UInt8 := (if [46].isPrefixOf l then [46] else []) ++ l ++ [13, 10]
def stuffU (ls : List (List UInt8)) : List UInt8 := (ls.map stuff1).flatten
theorem stuffU_cons (l : List UInt8) (ls : List (List UInt8)) : stuffU (l :: ls) = stuff1 l ++ stuffU ls := by simp [stuffU]
theorem stuff1_length (l : List UInt8) : (stuff1 l).length ≤ l.length + 3 := by
  unfold stuff1
  split <;> simp
theorem stuffU_length (ls : List (List UInt8)) : (stuffU ls).length ≤ 3 * (unl ls).length := by
  induction ls with
  | nil => simp [stuffU]
  | cons l ls ih =>
    have := stuff1_length l
    rw [stuffU_cons, unl_cons]
    simp
    omega
theorem stuffLine_S (l : List UInt8) : stuffLine (S l) = S (stuff1 l) := by
  unfold stuffLine stuff1
  rw [show (⟨#[46]⟩ : ByteArray) = S [46] from rfl, show (⟨#[]⟩ : ByteArray) = S [] from rfl, show (⟨#[13, 10]⟩ : ByteArray) = S [13, 10] from rfl, S_data]
  unfold Lib.hasPrefix
  by_cases h : [46].isPrefixOf l = true
  · rw [if_pos h, if_pos h, S_append, S_append]
  · rw [if_neg h, if_neg h, S_append, S_append]
theorem stuffAll_S (ls : List (List UInt8)) : stuffAll (ls.map S) = S (stuffU ls) := by
  have key : ∀ (ls : List (List UInt8)) (x : List UInt8), (ls.map S).foldl (fun b l => b ++ stuffLine l) (S x) = S (x ++ stuffU ls) := by
    intro ls
    induction ls with
    | nil => intro x; simp [stuffU]
    | cons l ls ih =>
      intro x
      rw [List.map_cons, List.foldl_cons, stuffLine_S, S_append, ih, stuffU_cons, List.append_assoc]
  have := key ls []
  rw [List.nil_append] at this
  exact this
theorem stuff_f {ls : List (List UInt8)} (h1 : ∀ l ∈ ls, (10 : UInt8) ∉ l) (h13 : 13 ∉ unl ls) (hz : (unl ls).length ≤ 300000) : Ev (fun k => dots_Stuff.f k (B (unl ls))) (S (stuffU ls ++ [46, 13, 10]), true) := by
  have hl := unl_length ls
  obtain ⟨K, hK⟩ := lines_l0 [] (by simp) ls [] h1 (by simp; omega) (by simp; omega)
  dsimp only at hK
  rw [if_pos rfl, List.nil_append, List.append_nil] at hK
  refine ⟨K, fun k hk => ?_⟩
  have hL : dots_Lines.f k (B (unl ls)) = some (ls.map S, true) := by
    unfold dots_Lines.f
    rw [strOfNums_B, show (⟨#[13]⟩ : ByteArray) = S [13] from rfl, contains_S _ _ (by omega)]
    simp only [Option.bind_some, decide_eq_true_eq]
    rw [if_neg h13, hK k hk]
  have := stuffU_length ls
  dsimp only
  unfold dots_Stuff.f
  rw [hL]
  simp only [Option.bind_some, if_true]
  rw [stuffAll_S, S_size, if_pos (by omega), show (⟨#[46]⟩ : ByteArray) = S [46] from rfl, show (⟨#[13, 10]⟩ : ByteArray) = S [13, 10] from rfl, S_append, S_append, List.append_assoc]
  rfl
theorem stuff_not {u : List UInt8} (hz : u.length < 4294967281) (hb : isBody u = false) : Ev (fun k => dots_Stuff.f k (B u)) (S [], false) ∧ Ev (fun k => dots_Lines.f k (B u)) ([], false) := by
  obtain ⟨ls, t, rfl, h1, h2, hE⟩ := lines_f u hz
  have hn : ¬ (13 ∉ unl ls ++ t ∧ t = []) := fun h => by rw [(isBody_decomp h2).2 h] at hb; cases hb
  have hE' : Ev (fun k => dots_Lines.f k (B (unl ls ++ t))) ([], false) := by
    by_cases h : 13 ∈ unl ls ++ t
    · rw [if_pos h] at hE; exact hE
    · rw [if_neg h, if_neg (fun e => hn ⟨h, e⟩)] at hE; exact hE
  refine ⟨?_, hE'⟩
  obtain ⟨K, hK⟩ := hE'
  dsimp only at hK
  refine ⟨K, fun k hk => ?_⟩
  dsimp only
  unfold dots_Stuff.f
  rw [hK k hk]
  rfl

/-! the set's own program does what it shall -/
theorem stuff_out (l : List UInt8) : (13 : UInt8) ∉ l → True := fun _ => trivial
theorem hasPrefix_f (u v : List UInt8) : stringslite_HasPrefix.f (S u) (S v) = some (v.isPrefixOf u) := by
  unfold stringslite_HasPrefix.f
  rw [S_size, S_size]
  by_cases h : v.length ≤ u.length
  · rw [if_pos (by omega), if_pos (by omega), if_pos (by omega), S_extract, S_toList, S_toList]
    simp only [Int.toNat_natCast, List.drop_zero, Option.some.injEq]
    rw [Bool.eq_iff_iff, beq_iff_eq, List.isPrefixOf_iff_prefix, List.prefix_iff_eq_take]
    exact ⟨fun e => e.symm, fun e => e.symm⟩
  · rw [if_neg (by omega)]
    rw [Option.some.injEq, eq_comm, ← Bool.not_eq_true, List.isPrefixOf_iff_prefix]
    intro hp
    exact h hp.length_le
theorem trimPrefix_f (u v : List UInt8) : strings_TrimPrefix.f (S u) (S v) = some (S (if v.isPrefixOf u then u.drop v.length else u)) := by
  unfold strings_TrimPrefix.f stringslite_TrimPrefix.f
  rw [hasPrefix_f]
  simp only [Option.bind_some, S_size]
  by_cases h : v.isPrefixOf u = true
  · have hl := (List.isPrefixOf_iff_prefix.1 h).length_le
    rw [if_pos h, if_pos h, if_pos (by omega), if_pos (by omega), S_extract]
    simp
  · rw [if_neg h, if_neg h]
    rfl
theorem unstuff_f (u : List UInt8) : dots_Unstuff.f (S u) = some (if u = [46] then (S [], true) else (S (if [46].isPrefixOf u then u.drop 1 else u), false)) := by
  unfold dots_Unstuff.f
  rw [S_toList]
  by_cases h : u = [46]
  · rw [if_pos h, if_pos h]; rfl
  · rw [if_neg h, if_neg h, show (⟨#[46]⟩ : ByteArray) = S [46] from rfl, trimPrefix_f]
    rfl
theorem answers_f : Ev (fun k => pillarboxlaw08_answers.f k) true := by
  obtain ⟨K, hK⟩ := stuff_f (ls := [[46, 97]]) (by simp) (by decide) (by decide)
  dsimp only at hK
  refine ⟨K, fun k hk => ?_⟩
  dsimp only
  unfold pillarboxlaw08_answers.f
  rw [show (([46, 97, 10] : List Int)) = B (unl [[46, 97]]) from rfl, hK k hk, show (⟨#[46, 46, 97]⟩ : ByteArray) = S [46, 46, 97] from rfl, show (⟨#[46]⟩ : ByteArray) = S [46] from rfl, unstuff_f, unstuff_f]
  simp [stuffU, stuff1]
end Go.Proofs.Ythdjeikfbbdehaa.Pure
