/- ref27: digit; ref05: Cut. ref27: Number: plain law and walk. ref27: Number, walked. ref27: Text. -/
import Derived.Test.YtkcdlfkicopmoaaDoorScrDec
namespace Go.Proofs.YtkcdlfkicopmoaaDoor.Fs
open Go.RowKit Go.Proofs.YtkcdlfkicopmoaaDoor Go.Proofs.YtkcdlfkicopmoaaDoor.Plain Go.Proofs.YtkcdlfkicopmoaaDoorW.PrintWords Go.Maps
set_option linter.unusedVariables false
set_option linter.unusedSimpArgs false
theorem hexd_ne {k : Nat} {c : UInt8} (hk : k < 16) (h : hexd k ≠ c) : hexv c ≠ k := fun e => by
  subst e
  exact h (hexd_hexv hk)
set_option maxHeartbeats 1000000 in
set_option maxRecDepth 100000 in
theorem digitIs (c : UInt8) (w : World) : Calls Tryd.prog 50 #[.int .u8 (c.toNat : Int)] w fun e W' => e = .returned (.int .i64 (hexi c)) ∧ W' = w := by
  go_enter Tryd.func50, Tryd.ntmps50
  go_wp2
  go_loopw [3] (fun v3 wr => ∃ i : Nat, i ≤ 16 ∧ v3 = .int .i64 i ∧ wr = w ∧ Aside0 (∀ k, k < i → hexv c ≠ k)) (fun v3 _ => 16 - (intOf v3).toNat)
  case atStart => exact ⟨0, by omega, rfl, rfl, ⟨fun k hk => by omega⟩⟩
  case round =>
    obtain ⟨i, hi, rfl, rfl, HN⟩ := hrel
    by_cases hlt : i < 16
    · have hat := hexAt i hlt
      obtain ⟨d, hd⟩ : ∃ d, hexd i = d := ⟨_, rfl⟩
      rw [hd] at hat
      have hs : (⟨#[48, 49, 50, 51, 52, 53, 54, 55, 56, 57, 97, 98, 99, 100, 101, 102]⟩ : ByteArray).size = 16 := rfl
      by_cases he : d = c
      · subst he
        have HE := Aside0.mk (show hexi d = (i : Int) by rw [← hd]; unfold hexi; rw [hexv_hexd hlt, if_pos hlt])
        clear hd
        go_wp2
        go_ret
        exact ⟨congrArg (fun n => Ending.returned (.int .i64 n)) HE.out.symm, rfl⟩
      · have hne : ((d.toNat : Int) == (c.toNat : Int)) = false := by
          simp only [beq_eq_false_iff_ne, ne_eq]
          intro h
          exact he (UInt8.toNat_inj.1 (by omega))
        have HN2 := Aside0.mk (show ∀ k, k < i + 1 → hexv c ≠ k from fun k hk => by
          by_cases h : k < i
          · exact HN.out k h
          · obtain rfl : k = i := by omega
            exact hexd_ne hlt (by rw [hd]; exact he))
        clear hd he HN
        go_wp2
        go_roundw
        case rel => exact ⟨i + 1, by omega, by go_num, by trivial, HN2⟩
        case measure => simp [intOf] <;> omega
    · obtain rfl : i = 16 := by omega
      have HE := Aside0.mk (show hexi c = -1 by unfold hexi; rw [if_neg]; intro h; exact HN.out _ h rfl)
      clear HN
      go_wp2
      go_ret
      exact ⟨congrArg (fun n => Ending.returned (.int .i64 n)) HE.out.symm, rfl⟩
theorem take_drop_snoc {u : Nm} {a i : Nat} (ha : a ≤ i) (hi : i < u.length) : (u.take (i + 1)).drop a = (u.take i).drop a ++ [u[i]] := by
  rw [List.take_add_one, List.getElem?_eq_getElem hi, List.drop_append_of_le_length (by rw [List.length_take]; omega)]
  rfl
theorem drop_self (u : Nm) (i : Nat) : (u.take i).drop i = [] := List.drop_eq_nil_of_le (by rw [List.length_take]; omega)
theorem refCutIs (u : Nm) (hu : u.length ≤ 4000000000) (c : UInt8) (w : World) : Calls Tryd.prog 34 #[.string (S u), .int .u8 (c.toNat : Int)] w fun e W' => ∃ v, e = .returned v ∧ SRow w v (cuts c u) W' := by
  go_enter Tryd.func34, Tryd.ntmps34
  go_wp2
  go_loopw [5, 6, 7] (fun v5 v6 v7 wr => ∃ (i a : Nat) (L : List Nm), i ≤ u.length + 1 ∧ a ≤ i ∧ L.length ≤ i ∧ v7 = .int .i64 i ∧ v6 = .int .i64 a ∧ Aside0 (cuts c u = L ++ if i ≤ u.length then cutsA c ((u.take i).drop a) (u.drop i) else []) ∧ Aside0 (SRow w v5 L wr)) (fun _ _ v7 _ => u.length + 1 - (intOf v7).toNat)
  case atStart => exact ⟨0, 0, [], by omega, by omega, by simp, rfl, rfl, ⟨by rw [if_pos (by omega)]; rfl⟩, ⟨SRow.nil (Below.refl _ _)⟩⟩
  case round =>
    obtain ⟨i, a, L, hi, ha, hL, rfl, rfl, HC, HR⟩ := hrel
    by_cases hle : i ≤ u.length
    · have hc0 := HC.out
      rw [if_pos hle] at hc0
      obtain ⟨p, hp⟩ : ∃ p, (u.take i).drop a = p := ⟨_, rfl⟩
      have hsl : (S u).extract a i = S p := by rw [S_extract, hp]
      have HLE := Aside0.mk (show L.length ≤ 8796093022207 by omega)
      by_cases hlt : i < u.length
      · obtain ⟨b, hb⟩ : ∃ b, u[i] = b := ⟨_, rfl⟩
        have hgb : ∀ pf, (S u)[i]'pf = b := fun _ => hb
        have hdr : u.drop i = b :: u.drop (i + 1) := by rw [List.drop_eq_getElem_cons hlt, hb]
        rw [hdr, hp, cutsA] at hc0
        have hni : ((i : Int) == (u.length : Int)) = false := by simp only [beq_eq_false_iff_ne, ne_eq]; omega
        by_cases hbc : b = c
        · subst hbc
          rw [if_pos rfl] at hc0
          have HC2 := Aside0.mk (show cuts b u = (L ++ [p]) ++ if i + 1 ≤ u.length then cutsA b ((u.take (i + 1)).drop (i + 1)) (u.drop (i + 1)) else [] by rw [if_pos (by omega), drop_self, hc0]; simp)
          clear hc0 hdr hb hp HC
          go_wp2_with (at_builtin; refine appendS (HR.out.step (by repeat (first | exact Below.refl _ _ | refine below_alloc ?_ _))) p HLE.out rfl _ _ rfl rfl _ 1 rfl (by first | exact cell_one_new _ _ _ | rfl) ?_; rintro v1 W4 h; have HR4 := Aside0.mk h; clear h)
          go_roundw
          case rel => exact ⟨i + 1, i + 1, L ++ [p], by omega, by omega, by simp; omega, by go_num, by go_num, HC2, HR4⟩
          case measure => simp [intOf] <;> omega
        · rw [if_neg hbc] at hc0
          have hne : ((b.toNat : Int) == (c.toNat : Int)) = false := by
            simp only [beq_eq_false_iff_ne, ne_eq]
            intro h
            exact hbc (UInt8.toNat_inj.1 (by omega))
          have HC2 := Aside0.mk (show cuts c u = L ++ if i + 1 ≤ u.length then cutsA c ((u.take (i + 1)).drop a) (u.drop (i + 1)) else [] by rw [if_pos (by omega), take_drop_snoc ha hlt, hp, hb, hc0])
          clear hc0 hdr hb hp HC hbc
          go_wp2
          go_roundw
          case rel => exact ⟨i + 1, a, L, by omega, by omega, by omega, by go_num, rfl, HC2, HR⟩
          case measure => simp [intOf] <;> omega
      · obtain rfl : i = u.length := by omega
        rw [List.drop_length, hp] at hc0
        have HC2 := Aside0.mk (show cuts c u = (L ++ [p]) ++ if u.length + 1 ≤ u.length then cutsA c ((u.take (u.length + 1)).drop (u.length + 1)) (u.drop (u.length + 1)) else [] by rw [if_neg (by omega), List.append_nil]; exact hc0)
        clear hc0 hp HC
        go_wp2_with (at_builtin; refine appendS (HR.out.step (by repeat (first | exact Below.refl _ _ | refine below_alloc ?_ _))) p HLE.out rfl _ _ rfl rfl _ 1 rfl (by first | exact cell_one_new _ _ _ | rfl) ?_; rintro v1 W4 h; have HR4 := Aside0.mk h; clear h)
        go_roundw
        case rel => exact ⟨u.length + 1, u.length + 1, L ++ [p], by omega, by omega, by simp; omega, by go_num, by go_num, HC2, HR4⟩
        case measure => simp [intOf] <;> omega
    · obtain rfl : i = u.length + 1 := by omega
      have HC2 := Aside0.mk (show cuts c u = L by rw [HC.out, if_neg hle, List.append_nil])
      clear HC
      go_wp2
      go_ret
      exact ⟨_, rfl, by rw [HC2.out]; exact HR.out⟩
end Go.Proofs.YtkcdlfkicopmoaaDoor.Fs
namespace Go.Proofs.YtkcdlfkicopmoaaDoor.Fs
open Go.RowKit Go.Proofs.YtkcdlfkicopmoaaDoor Go.Proofs.YtkcdlfkicopmoaaDoor.Plain Go.Proofs.YtkcdlfkicopmoaaDoorW.PrintWords Go.Maps
set_option linter.unusedVariables false
set_option linter.unusedSimpArgs false
theorem valA_snoc (a : Nat) (l : Nm) (c : UInt8) : valA a (l ++ [c]) = valA a l * 10 + (c.toNat - 48) := by simp [valA]
theorem valA_lt : ∀ (l : Nm) (a : Nat), l.all isDig = true → valA a l < (a + 1) * 10 ^ l.length
  | [], a, _ => by simp [valA]
  | c :: r, a, h => by
    rw [List.all_cons, Bool.and_eq_true] at h
    have h1 := h.1
    simp only [isDig, decide_eq_true_eq] at h1
    have ih := valA_lt r (a * 10 + (c.toNat - 48)) h.2
    have e : valA a (c :: r) = valA (a * 10 + (c.toNat - 48)) r := rfl
    rw [e]
    refine Nat.lt_of_lt_of_le ih ?_
    rw [List.length_cons, Nat.pow_succ, Nat.mul_comm (10 ^ r.length) 10, ← Nat.mul_assoc]
    exact Nat.mul_le_mul_right _ (by omega)
theorem valA_low : ∀ (l : Nm) (a : Nat), a * 10 ^ l.length ≤ valA a l
  | [], a => by simp [valA]
  | c :: r, a => by
    have ih := valA_low r (a * 10 + (c.toNat - 48))
    have e : valA a (c :: r) = valA (a * 10 + (c.toNat - 48)) r := rfl
    rw [e]
    refine Nat.le_trans ?_ ih
    rw [List.length_cons, Nat.pow_succ, Nat.mul_comm (10 ^ r.length) 10, ← Nat.mul_assoc]
    exact Nat.mul_le_mul_right _ (by omega)
theorem all_pos {c : UInt8} {r : Nm} (h : (c :: r).all isDig = true) (h0 : c ≠ 48) : 1 ≤ valA 0 (c :: r) := by
  rw [List.all_cons, Bool.and_eq_true] at h
  have h1 := h.1
  simp only [isDig, decide_eq_true_eq] at h1
  have h2 : c.toNat ≠ 48 := fun e => h0 (UInt8.toNat_inj.1 (by rw [e]; rfl))
  have e : valA 0 (c :: r) = valA (0 * 10 + (c.toNat - 48)) r := rfl
  rw [e]
  exact Nat.le_trans (by omega) (valA_le r _)
theorem digit_of {c : UInt8} (h : isDig c = true) (q : Nat) : digit (q * 10 + (c.toNat - 48)) = c := by
  simp only [isDig, decide_eq_true_eq] at h
  apply UInt8.toNat_inj.1
  rw [digit_toNat]
  omega
theorem dec_val : ∀ (n : Nat) (d : Nm), d.length = n → d ≠ [] → d.all isDig = true → (d.head? = some 48 → d = [48]) → Lib.decDigits (valA 0 d) = d := by
  intro n
  induction n with
  | zero => intro d hd h; exact absurd (List.length_eq_zero_iff.1 hd) h
  | succ n ih =>
    intro d hd hne hall h48
    have hs := List.dropLast_concat_getLast hne
    obtain ⟨e, he⟩ : ∃ e, d.dropLast = e := ⟨_, rfl⟩
    obtain ⟨c, hc⟩ : ∃ c, d.getLast hne = c := ⟨_, rfl⟩
    rw [he, hc] at hs
    clear he hc
    subst hs
    rw [List.all_append, Bool.and_eq_true] at hall
    have hcd : isDig c = true := by simpa using hall.2
    rw [valA_snoc]
    have hcd2 := hcd
    simp only [isDig, decide_eq_true_eq] at hcd2
    cases e with
    | nil =>
      show Lib.decDigits (0 * 10 + (c.toNat - 48)) = _
      rw [dec_step, if_pos (by omega), digit_of hcd]
    | cons x e =>
      have hx : x ≠ 48 := fun e1 => by
        subst e1
        have := h48 rfl
        simp at this
      have hp := all_pos hall.1 hx
      rw [dec_step, if_neg (by omega), digit_of hcd, show (valA 0 (x :: e) * 10 + (c.toNat - 48)) / 10 = valA 0 (x :: e) by omega]
      rw [ih (x :: e) (by simp at hd ⊢; omega) (by simp) hall.1 (fun h => absurd (by simpa using h) hx)]
theorem dec_head {n : Nat} (h : 1 ≤ n) : (Lib.decDigits n).head? ≠ some 48 := by
  induction n using Nat.strongRecOn with
  | ind n ih =>
    rw [dec_step]
    split
    · rename_i h10
      intro e
      have e1 : digit n = 48 := by simpa using e
      have := congrArg UInt8.toNat e1
      rw [digit_toNat, show (48 : UInt8).toNat = 48 from rfl] at this
      omega
    · rename_i h10
      have := ih (n / 10) (by omega) (by omega)
      cases hd : Lib.decDigits (n / 10) with
      | nil => exact absurd hd (dec_all _).2.2
      | cons x r => rw [hd] at this; simpa using this
/-- a number's digits, behind its sign -/
def numOk (d : Nm) (z : Bool) (m : Nat) : Prop := d ≠ [] ∧ d.length ≤ 19 ∧ (d.head? = some 48 → z = true ∧ d = [48]) ∧ d.all isDig = true ∧ valA 0 d ≤ m
instance (d : Nm) (z : Bool) (m : Nat) : Decidable (numOk d z m) := by unfold numOk; exact inferInstance
def numP (u : Nm) : Option Int := if u.head? = some 45 then (if numOk (u.drop 1) false 9223372036854775808 then some (-(valA 0 (u.drop 1) : Int)) else none) else (if numOk u true 9223372036854775807 then some (valA 0 u : Int) else none)
def numV (u : Nm) : Int := (numP u).getD 0
def numO (u : Nm) : Bool := (numP u).isSome
theorem numP_iff {u : Nm} {n : Int} : numP u = some n ↔ u = Lib.itoa n ∧ I64 n := by
  constructor
  · intro h
    unfold numP at h
    split at h
    · rename_i h45
      split at h
      · rename_i hok
        obtain ⟨h1, h2, h3, h4, h5⟩ := hok
        cases h
        cases u with
        | nil => cases h45
        | cons x d =>
          obtain rfl : x = 45 := by simpa using h45
          simp only [List.drop_succ_cons, List.drop_zero] at h1 h2 h3 h4 h5 ⊢
          have hd := dec_val _ d rfl h1 h4 (fun e => (h3 e).2)
          have hp : 1 ≤ valA 0 d := by
            cases d with
            | nil => exact absurd rfl h1
            | cons y d => exact all_pos h4 (fun e => by subst e; exact absurd (h3 rfl).1 (by simp))
          refine ⟨?_, by unfold I64; omega⟩
          unfold Lib.itoa
          rw [if_pos (by omega), show (-(valA 0 d : Int)).natAbs = valA 0 d by omega, hd]
      · cases h
    · split at h
      · rename_i hok
        obtain ⟨h1, h2, h3, h4, h5⟩ := hok
        cases h
        have hd := dec_val _ u rfl h1 h4 (fun e => (h3 e).2)
        refine ⟨?_, by unfold I64; omega⟩
        unfold Lib.itoa
        rw [if_neg (by omega), show ((valA 0 u : Int)).toNat = valA 0 u by omega, hd]
      · cases h
  · rintro ⟨rfl, h1, h2⟩
    by_cases hn : n < 0
    · have e : Lib.itoa n = 45 :: Lib.decDigits n.natAbs := by unfold Lib.itoa; rw [if_pos hn]
      obtain ⟨d1, d2, d3⟩ := dec_all n.natAbs
      rw [e]
      unfold numP
      rw [if_pos (show (45 :: Lib.decDigits n.natAbs : Nm).head? = some 45 from rfl)]
      simp only [List.drop_succ_cons, List.drop_zero]
      rw [if_pos ⟨d3, dec_length (by omega) (by omega), fun h => absurd h (dec_head (by omega)), d1, by rw [d2]; omega⟩, d2]
      congr 1
      omega
    · have e : Lib.itoa n = Lib.decDigits n.toNat := by unfold Lib.itoa; rw [if_neg hn]
      obtain ⟨d1, d2, d3⟩ := dec_all n.toNat
      rw [e]
      have h45 : (Lib.decDigits n.toNat).head? ≠ some 45 := by
        cases hd : Lib.decDigits n.toNat with
        | nil => simp
        | cons x r =>
          rw [hd, List.all_cons, Bool.and_eq_true] at d1
          intro e
          obtain rfl : x = 45 := by simpa using e
          exact absurd d1.1 (by decide)
      unfold numP
      have h48 : (Lib.decDigits n.toNat).head? = some 48 → Lib.decDigits n.toNat = [48] := fun h => by
        by_cases h0 : n.toNat = 0
        · rw [h0, dec_step]; rfl
        · exact absurd h (dec_head (by omega))
      rw [if_neg h45, if_pos ⟨d3, dec_length (by omega) (by omega), fun h => ⟨rfl, h48 h⟩, d1, by rw [d2]; omega⟩, d2]
      congr 1
      omega
end Go.Proofs.YtkcdlfkicopmoaaDoor.Fs
namespace Go.Proofs.YtkcdlfkicopmoaaDoor.Fs
open Go.RowKit Go.Proofs.YtkcdlfkicopmoaaDoor Go.Proofs.YtkcdlfkicopmoaaDoor.Plain Go.Proofs.YtkcdlfkicopmoaaDoorW.PrintWords Go.Maps
set_option linter.unusedVariables false
set_option linter.unusedSimpArgs false
theorem num_none {u : Nm} (h : numP u = none) : numV u = 0 ∧ numO u = false := by unfold numV numO; rw [h]; exact ⟨rfl, rfl⟩
theorem num_some {u : Nm} {n : Int} (h : numP u = some n) : numV u = n ∧ numO u = true := by unfold numV numO; rw [h]; exact ⟨rfl, rfl⟩
theorem numP_neg (d : Nm) : numP (45 :: d) = if numOk d false 9223372036854775808 then some (-(valA 0 d : Int)) else none := by
  unfold numP
  rw [if_pos (show (45 :: d : Nm).head? = some 45 from rfl)]
  rfl
theorem numP_pos {x : UInt8} (hx : x ≠ 45) (r : Nm) : numP (x :: r) = if numOk (x :: r) true 9223372036854775807 then some (valA 0 (x :: r) : Int) else none := by
  unfold numP
  rw [if_neg (show ¬ (x :: r : Nm).head? = some 45 from fun e => hx (by simpa using e))]
theorem toNat_ne {a b : UInt8} (h : a ≠ b) : ((a.toNat : Int) == (b.toNat : Int)) = false := by
  simp only [beq_eq_false_iff_ne, ne_eq]
  intro e
  exact h (UInt8.toNat_inj.1 (by omega))
theorem valA_take {d : Nm} (hd : d.length ≤ 19) (i : Nat) (hi : i < d.length) (h : (d.take i).all isDig = true) : valA 0 (d.take i) < 1000000000000000000 := by
  have h1 := valA_lt (d.take i) 0 h
  have h2 : (d.take i).length ≤ 18 := by rw [List.length_take]; omega
  have h3 : 10 ^ (d.take i).length ≤ 10 ^ 18 := Nat.pow_le_pow_right (by omega) h2
  omega
theorem all_bad {d : Nm} {i : Nat} (hi : i < d.length) (h : isDig d[i] = false) : ¬ d.all isDig = true := fun h2 => by
  have := List.all_eq_true.1 h2 d[i] (List.getElem_mem hi)
  rw [h] at this
  cases this
set_option maxHeartbeats 1000000 in
set_option maxRecDepth 100000 in
theorem numNeg (d : Nm) (hd : d.length ≤ 1099511627776) (w : World) : Calls Tryd.prog 35 #[.string (S (45 :: d))] w fun e W' => e = .returned (.tuple #[.int .i64 (numV (45 :: d)), .bool (numO (45 :: d))]) ∧ W' = w := by
  have HP := Aside0.mk (numP_neg d)
  obtain ⟨u, hu⟩ : ∃ u, (45 :: d : Nm) = u := ⟨_, rfl⟩
  have hul : u.length = d.length + 1 := by rw [← hu]; rfl
  have hg0 : ∀ pf, (S u)[0]'pf = 45 := by rw [← hu]; exact fun _ => rfl
  have HGI := Aside0.mk (show ∀ (i : Nat) (hi : i < d.length) pf, (S u)[i + 1]'pf = d[i] by rw [← hu]; exact fun _ _ _ => rfl)
  rw [hu] at HP ⊢
  clear hu
  by_cases h0 : d = []
  · obtain ⟨e1, e2⟩ := num_none (HP.out.trans (if_neg fun h => h.1 h0))
    rw [e1, e2]
    subst h0
    have hul1 : u.length = 1 := hul
    clear HP HGI hul e1 e2
    go_enter Tryd.func35, Tryd.ntmps35
    go_wp2
    go_ret2
    exact ⟨rfl, rfl⟩
  have hpos : 0 < d.length := List.length_pos_iff.2 h0
  have hne1 : (((u.length : Nat) : Int) == 1) = false := by simp only [beq_eq_false_iff_ne, ne_eq]; omega
  by_cases h19 : 19 < d.length
  · obtain ⟨e1, e2⟩ := num_none (HP.out.trans (if_neg fun h => by have := h.2.1; omega))
    rw [e1, e2]
    have hgt : 19 < (u.length : Int) - 1 := by omega
    have hup : 0 < u.length := by omega
    have hub : u.length ≤ 1099511627777 := by omega
    clear HP HGI hul e1 e2 h0
    go_enter Tryd.func35, Tryd.ntmps35
    go_wp2
    go_ret2
    exact ⟨rfl, rfl⟩
  have hd0 : d.length ≤ 19 := by omega
  have hgd : ∀ pf, (S u)[1]'pf = d[0] := fun pf => HGI.out 0 hpos pf
  have hup : 0 < u.length := by omega
  have hup1 : 1 < u.length := by omega
  have hub : u.length ≤ 20 := by omega
  have hcmp : (u == ([48] : List UInt8)) = false := by
    simp only [beq_eq_false_iff_ne, ne_eq]
    intro e
    rw [e] at hup1
    simp at hup1
  by_cases h48 : d[0] = 48
  · obtain ⟨e1, e2⟩ := num_none (HP.out.trans (if_neg fun h => by
      have := h.2.2.1 (by rw [List.head?_eq_getElem?, List.getElem?_eq_getElem hpos, h48])
      exact absurd this.1 (by simp)))
    rw [e1, e2]
    rw [h48] at hgd
    clear HP HGI e1 e2 h0 h48 hul
    go_enter Tryd.func35, Tryd.ntmps35
    go_wp2
    go_ret2
    exact ⟨rfl, rfl⟩
  · have h48' : d.head? ≠ some 48 := by rw [List.head?_eq_getElem?, List.getElem?_eq_getElem hpos]; intro e; exact h48 (by simpa using e)
    have hx48 : ((d[0].toNat : Int) == 48) = false := toNat_ne (b := 48) h48
    have HOK := Aside0.mk (show ∀ (h1 : d.all isDig = true) (h2 : valA 0 d ≤ 9223372036854775808), 1 ≤ valA 0 d ∧ numV u = -(valA 0 d : Int) ∧ numO u = true from fun h1 h2 => by
      refine ⟨?_, num_some (HP.out.trans (if_pos ⟨h0, hd0, fun h => absurd h h48', h1, h2⟩))⟩
      cases d with
      | nil => exact absurd rfl h0
      | cons y d => exact all_pos h1 (fun e => h48 (by rw [← e]; rfl)))
    have HBAD := Aside0.mk (show (¬ d.all isDig = true ∨ ¬ valA 0 d ≤ 9223372036854775808) → numV u = 0 ∧ numO u = false from fun h => num_none (HP.out.trans (if_neg fun h2 => by rcases h with h | h; exact h h2.2.2.2.1; exact h h2.2.2.2.2)))
    obtain ⟨x, hx⟩ : ∃ x, d[0] = x := ⟨_, rfl⟩
    rw [hx] at hgd hx48
    have HUL := Aside0.mk hul
    clear HP h0 h48 h48' hx hul
    go_enter Tryd.func35, Tryd.ntmps35
    go_wp2
    go_loopw [6, 7] (fun v6 v7 wr => ∃ i : Nat, i ≤ d.length ∧ v7 = .int .i64 ((i + 1 : Nat) : Int) ∧ v6 = .int .u64 (valA 0 (d.take i) : Int) ∧ wr = w ∧ Aside0 ((d.take i).all isDig = true)) (fun _ v7 _ => d.length + 1 - (intOf v7).toNat)
    case atStart => exact ⟨0, by omega, rfl, rfl, rfl, ⟨rfl⟩⟩
    case round =>
      obtain ⟨i, hi, rfl, rfl, rfl, HA⟩ := hrel
      have hul := HUL.out
      by_cases hlt : i < d.length
      · have hltu : i + 1 < u.length := by omega
        obtain ⟨c, hc⟩ : ∃ c, d[i] = c := ⟨_, rfl⟩
        have hgc : ∀ pf, (S u)[i + 1]'pf = c := fun pf => (HGI.out i hlt pf).trans hc
        have hv := valA_take hd0 i hlt HA.out
        have htk : d.take (i + 1) = d.take i ++ [c] := by rw [List.take_add_one, List.getElem?_eq_getElem hlt, hc]; rfl
        obtain ⟨V, hV⟩ : ∃ V, valA 0 (d.take i) = V := ⟨_, rfl⟩
        have HVS := Aside0.mk (show valA 0 (d.take (i + 1)) = V * 10 + (c.toNat - 48) by rw [htk, valA_snoc, hV])
        have HAS := Aside0.mk (show isDig c = true → (d.take (i + 1)).all isDig = true from fun h => by rw [htk, List.all_append, HA.out]; simpa using h)
        have HB := Aside0.mk (show isDig c = false → numV u = 0 ∧ numO u = false from fun h => HBAD.out (.inl (all_bad hlt (by rw [hc]; exact h))))
        rw [hV] at hv ⊢
        have hc256 := c.toNat_lt
        obtain ⟨k, hk⟩ : ∃ k, c.toNat = k := ⟨_, rfl⟩
        have HD := Aside0.mk (show isDig c = decide (48 ≤ k ∧ k ≤ 57) by unfold isDig; rw [hk])
        rw [hk] at HVS hc256
        have hkk := hk
        clear hc htk hV HUL hul hup1 hcmp hx48 hgd hne1 hg0
        by_cases hlo : k < 48
        · obtain ⟨e1, e2⟩ := HB.out (by rw [HD.out]; simp; omega)
          have HE1 := Aside0.mk e1
          have HE2 := Aside0.mk e2
          clear HB HD HAS HVS e1 e2
          go_wp2
          go_ret2
          rw [HE1.out, HE2.out]
          exact ⟨rfl, rfl⟩
        · by_cases hhi : 57 < k
          · obtain ⟨e1, e2⟩ := HB.out (by rw [HD.out]; simp; omega)
            have HE1 := Aside0.mk e1
            have HE2 := Aside0.mk e2
            clear HB HD HAS HVS e1 e2
            go_wp2
            go_ret2
            rw [HE1.out, HE2.out]
            exact ⟨rfl, rfl⟩
          · have HAS2 := Aside0.mk (HAS.out (by rw [HD.out]; simp; omega))
            clear HB HD HAS
            have hge : 48 ≤ k := by omega
            have hle : k ≤ 57 := by omega
            go_wp2
            exact ⟨⟨i + 1, by omega, by go_num, by rw [HVS.out]; go_num, by trivial, HAS2⟩, by simp [intOf] <;> omega⟩
      · obtain rfl : i = d.length := by omega
        have hltu : u.length = d.length + 1 := hul
        have hall := HA.out
        rw [List.take_length] at hall ⊢
        have hv := valA_lt d 0 hall
        have hp10 : 10 ^ d.length ≤ 10 ^ 19 := Nat.pow_le_pow_right (by omega) hd0
        have HOK2 := Aside0.mk (HOK.out hall)
        have HBAD2 := Aside0.mk (fun h => HBAD.out (.inr h))
        obtain ⟨V, hV⟩ : ∃ V, valA 0 d = V := ⟨_, rfl⟩
        rw [hV] at hv HOK2 HBAD2 ⊢
        have hv19 : V < 10000000000000000000 := by omega
        clear hall hv hp10 hV HUL hul hup1 hcmp hx48 hgd hne1 hg0 HA HOK HBAD
        by_cases hbig : V ≤ 9223372036854775808
        · obtain ⟨h1, e1, e2⟩ := HOK2.out hbig
          have HE1 := Aside0.mk e1
          have HE2 := Aside0.mk e2
          clear e1 e2 HOK2 HBAD2
          go_wp2
          go_ret2
          rw [HE1.out, HE2.out]
          exact ⟨by go_num, rfl⟩
        · obtain ⟨e1, e2⟩ := HBAD2.out hbig
          have HE1 := Aside0.mk e1
          have HE2 := Aside0.mk e2
          clear e1 e2 HOK2 HBAD2
          go_wp2
          go_ret2
          rw [HE1.out, HE2.out]
          exact ⟨rfl, rfl⟩
set_option maxHeartbeats 1000000 in
set_option maxRecDepth 100000 in
theorem numPos (y : UInt8) (r : Nm) (h45 : y ≠ 45) (hd : (y :: r).length ≤ 1099511627776) (w : World) : Calls Tryd.prog 35 #[.string (S (y :: r))] w fun e W' => e = .returned (.tuple #[.int .i64 (numV (y :: r)), .bool (numO (y :: r))]) ∧ W' = w := by
  have HP := Aside0.mk (numP_pos h45 r)
  obtain ⟨u, hu⟩ : ∃ u, (y :: r : Nm) = u := ⟨_, rfl⟩
  have h0 : u ≠ [] := by rw [← hu]; simp
  have hup : 0 < u.length := List.length_pos_iff.2 h0
  have hy : u[0] = y := by simp only [← hu]; rfl
  have hg0 : ∀ pf, (S u)[0]'pf = y := fun _ => hy
  have hne45 : ((y.toNat : Int) == 45) = false := toNat_ne (b := 45) h45
  have hne0 : (((u.length : Nat) : Int) == 0) = false := by simp only [beq_eq_false_iff_ne, ne_eq]; omega
  rw [hu] at HP hd ⊢
  have HY := Aside0.mk hu
  clear hu
  by_cases h19 : 19 < u.length
  · obtain ⟨e1, e2⟩ := num_none (HP.out.trans (if_neg fun h => by have := h.2.1; omega))
    rw [e1, e2]
    have hgt : 19 < (u.length : Int) := by omega
    clear HP e1 e2 h0 hy h45
    go_enter Tryd.func35, Tryd.ntmps35
    go_wp2
    go_ret2
    exact ⟨rfl, rfl⟩
  have hd0 : u.length ≤ 19 := by omega
  by_cases hbad : y = 48 ∧ ¬ u = [48]
  · obtain ⟨e1, e2⟩ := num_none (HP.out.trans (if_neg fun h => by
      have := h.2.2.1 (by rw [List.head?_eq_getElem?, List.getElem?_eq_getElem hup, hy, hbad.1])
      exact hbad.2 this.2))
    rw [e1, e2]
    obtain ⟨rfl, h2⟩ := hbad
    have hcmp : (u == ([48] : List UInt8)) = false := by simpa using h2
    clear HP e1 e2 h0 hy h45 h2 hne45
    go_enter Tryd.func35, Tryd.ntmps35
    go_wp2
    go_ret2
    exact ⟨rfl, rfl⟩
  · have h48' : u.head? = some 48 → true = true ∧ u = [48] := fun h => by
      refine ⟨rfl, ?_⟩
      rw [List.head?_eq_getElem?, List.getElem?_eq_getElem hup, hy] at h
      have : y = 48 := by simpa using h
      by_cases hu : u = [48]
      · exact hu
      · exact absurd ⟨this, hu⟩ hbad
    have HOK := Aside0.mk (show ∀ (h1 : u.all isDig = true) (h2 : valA 0 u ≤ 9223372036854775807), numV u = (valA 0 u : Int) ∧ numO u = true from fun h1 h2 => num_some (HP.out.trans (if_pos ⟨h0, hd0, h48', h1, h2⟩)))
    have HBAD := Aside0.mk (show (¬ u.all isDig = true ∨ ¬ valA 0 u ≤ 9223372036854775807) → numV u = 0 ∧ numO u = false from fun h => num_none (HP.out.trans (if_neg fun h2 => by rcases h with h | h; exact h h2.2.2.2.1; exact h h2.2.2.2.2)))
    have hcase : (y = 48 ∧ (u == ([48] : List UInt8)) = true) ∨ ((y.toNat : Int) == 48) = false := by
      by_cases hy48 : y = 48
      · by_cases hu : u = [48]
        · exact .inl ⟨hy48, by simpa using hu⟩
        · exact absurd ⟨hy48, hu⟩ hbad
      · exact .inr (toNat_ne (b := 48) hy48)
    clear HP h0 h48' hy hbad HY
    rcases hcase with ⟨rfl, hcmp⟩ | hx48
    all_goals
      go_enter Tryd.func35, Tryd.ntmps35
      go_wp2
      go_loopw [6, 7] (fun v6 v7 wr => ∃ i : Nat, i ≤ u.length ∧ v7 = .int .i64 (i : Int) ∧ v6 = .int .u64 (valA 0 (u.take i) : Int) ∧ wr = w ∧ Aside0 ((u.take i).all isDig = true)) (fun _ v7 _ => u.length - (intOf v7).toNat)
      case atStart => exact ⟨0, by omega, rfl, rfl, rfl, ⟨rfl⟩⟩
      case round =>
        obtain ⟨i, hi, rfl, rfl, rfl, HA⟩ := hrel
        by_cases hlt : i < u.length
        · obtain ⟨c, hc⟩ : ∃ c, u[i] = c := ⟨_, rfl⟩
          have hgc : ∀ pf, (S u)[i]'pf = c := fun pf => hc
          have hv := valA_take hd0 i hlt HA.out
          have htk : u.take (i + 1) = u.take i ++ [c] := by rw [List.take_add_one, List.getElem?_eq_getElem hlt, hc]; rfl
          obtain ⟨V, hV⟩ : ∃ V, valA 0 (u.take i) = V := ⟨_, rfl⟩
          have HVS := Aside0.mk (show valA 0 (u.take (i + 1)) = V * 10 + (c.toNat - 48) by rw [htk, valA_snoc, hV])
          have HAS := Aside0.mk (show isDig c = true → (u.take (i + 1)).all isDig = true from fun h => by rw [htk, List.all_append, HA.out]; simpa using h)
          have HB := Aside0.mk (show isDig c = false → numV u = 0 ∧ numO u = false from fun h => HBAD.out (.inl (all_bad hlt (by rw [hc]; exact h))))
          rw [hV] at hv ⊢
          have hc256 := c.toNat_lt
          obtain ⟨k, hk⟩ : ∃ k, c.toNat = k := ⟨_, rfl⟩
          have HD := Aside0.mk (show isDig c = decide (48 ≤ k ∧ k ≤ 57) by unfold isDig; rw [hk])
          rw [hk] at HVS hc256
          have hkk := hk
          clear hc htk hV hg0 hne0
          first | clear hcmp | clear hx48
          by_cases hlo : k < 48
          · obtain ⟨e1, e2⟩ := HB.out (by rw [HD.out]; simp; omega)
            have HE1 := Aside0.mk e1
            have HE2 := Aside0.mk e2
            clear HB HD HAS HVS e1 e2
            go_wp2
            go_ret2
            rw [HE1.out, HE2.out]
            exact ⟨rfl, rfl⟩
          · by_cases hhi : 57 < k
            · obtain ⟨e1, e2⟩ := HB.out (by rw [HD.out]; simp; omega)
              have HE1 := Aside0.mk e1
              have HE2 := Aside0.mk e2
              clear HB HD HAS HVS e1 e2
              go_wp2
              go_ret2
              rw [HE1.out, HE2.out]
              exact ⟨rfl, rfl⟩
            · have HAS2 := Aside0.mk (HAS.out (by rw [HD.out]; simp; omega))
              clear HB HD HAS
              have hge : 48 ≤ k := by omega
              have hle : k ≤ 57 := by omega
              go_wp2
              exact ⟨⟨i + 1, by omega, by go_num, by rw [HVS.out]; go_num, by trivial, HAS2⟩, by simp [intOf] <;> omega⟩
        · obtain rfl : i = u.length := by omega
          have hall := HA.out
          rw [List.take_length] at hall ⊢
          have hv := valA_lt u 0 hall
          have hp10 : 10 ^ u.length ≤ 10 ^ 19 := Nat.pow_le_pow_right (by omega) hd0
          have HOK2 := Aside0.mk (HOK.out hall)
          have HBAD2 := Aside0.mk (fun h => HBAD.out (.inr h))
          obtain ⟨V, hV⟩ : ∃ V, valA 0 u = V := ⟨_, rfl⟩
          rw [hV] at hv HOK2 HBAD2 ⊢
          have hv19 : V < 10000000000000000000 := by omega
          clear hall hv hp10 hV hg0 hne0 HA HOK HBAD
          first | clear hcmp | clear hx48
          by_cases hbig : V ≤ 9223372036854775807
          · obtain ⟨e1, e2⟩ := HOK2.out hbig
            have HE1 := Aside0.mk e1
            have HE2 := Aside0.mk e2
            clear e1 e2 HOK2 HBAD2
            go_wp2
            go_ret2
            rw [HE1.out, HE2.out]
            exact ⟨rfl, rfl⟩
          · obtain ⟨e1, e2⟩ := HBAD2.out hbig
            have HE1 := Aside0.mk e1
            have HE2 := Aside0.mk e2
            clear e1 e2 HOK2 HBAD2
            go_wp2
            go_ret2
            rw [HE1.out, HE2.out]
            exact ⟨rfl, rfl⟩
theorem num_nil : numV [] = 0 ∧ numO [] = false := num_none (by unfold numP; rw [if_neg (by simp), if_neg (fun h => h.1 rfl)])
set_option maxRecDepth 100000 in
theorem refNumberIs (u : Nm) (hu : u.length ≤ 1073741824) (w : World) : Calls Tryd.prog 35 #[.string (S u)] w fun e W' => e = .returned (.tuple #[.int .i64 (numV u), .bool (numO u)]) ∧ W' = w := by
  cases u with
  | nil =>
    rw [num_nil.1, num_nil.2]
    go_enter Tryd.func35, Tryd.ntmps35
    go_wp2
    go_ret2
    exact ⟨rfl, rfl⟩
  | cons y r =>
    by_cases h : y = 45
    · subst h
      exact numNeg r (by simp at hu; omega) w
    · exact numPos y r h (by omega) w
end Go.Proofs.YtkcdlfkicopmoaaDoor.Fs
namespace Go.Proofs.YtkcdlfkicopmoaaDoor.Fs
open Go.RowKit Go.Proofs.YtkcdlfkicopmoaaDoor Go.Proofs.YtkcdlfkicopmoaaDoor.Plain Go.Proofs.YtkcdlfkicopmoaaDoorW.PrintWords Go.Maps
set_option linter.unusedVariables false
set_option linter.unusedSimpArgs false
theorem unhex_none {u : Nm} (e : unhexB u = none) : unhexT u = [] ∧ unhexO u = false := by unfold unhexT unhexO; rw [e]; exact ⟨rfl, rfl⟩
theorem unhex_some {u t : Nm} (e : unhexB u = some t) : unhexT u = t ∧ unhexO u = true := by unfold unhexT unhexO; rw [e]; exact ⟨rfl, rfl⟩
theorem unhexB_even {u : Nm} (h : u.length % 2 ≠ 1) : unhexB u = none := by
  unfold unhexB
  split
  · rename_i r
    exact pairs_odd r (by simp only [List.length_cons] at h; omega)
  · rfl
theorem unhexB_other {x : UInt8} {r : Nm} (h : x ≠ 120) : unhexB (x :: r) = none := by
  unfold unhexB
  split
  · rename_i h2; cases h2; exact absurd rfl h
  · rfl
set_option maxHeartbeats 1000000 in
set_option maxRecDepth 100000 in
theorem refTextIs (u : Nm) (hu : u.length ≤ 2147483649) (w : World) : Calls Tryd.prog 36 #[.string (S u)] w fun e W' => e = .returned (.tuple #[.string (S (unhexT u)), .bool (unhexO u)]) ∧ Below w.heap.size w W' := by
  by_cases hodd : u.length % 2 = 1
  · have hrem : (u.length : Int).tmod 2 = 1 := by rw [Int.tmod_eq_emod_of_nonneg (by omega)]; omega
    have hrem2 : (u.length : Int) % 2 = 1 := by omega
    obtain ⟨x, r, hx⟩ : ∃ x r, u = x :: r := by
      cases u with
      | nil => cases hodd
      | cons x r => exact ⟨x, r, rfl⟩
    have hg0 : ∀ pf, (S u)[0]'pf = x := by rw [hx]; exact fun _ => rfl
    have hup : 0 < u.length := by rw [hx]; simp
    by_cases h120 : x = 120
    · subst h120
      have HU := Aside0.mk (show unhexB u = (pairs (u.drop 1)).map (([] : Nm) ++ ·) by rw [hx]; show pairs r = _; simp)
      clear hx
      go_enter Tryd.func36, Tryd.ntmps36
      go_wp2
      go_loopw [4, 5, 6, 7] (fun v4 v5 v6 v7 wr => ∃ (i : Nat) (T : Nm), 1 ≤ i ∧ i ≤ u.length ∧ i % 2 = 1 ∧ T.length ≤ i ∧ v5 = .int .i64 i ∧ Aside0 (unhexB u = (pairs (u.drop i)).map (T ++ ·)) ∧ Aside0 (BRow w v4 T wr)) (fun _ v5 _ _ _ => u.length - (intOf v5).toNat)
      case atStart => exact ⟨1, [], by omega, by omega, rfl, by simp, rfl, HU, ⟨BRow.nil (Below.refl _ _)⟩⟩
      case round =>
        obtain ⟨i, T, hi1, hi, hi2, hTi, rfl, HP, HR⟩ := hrel
        by_cases hlt : i < u.length
        · have hlt2 : i + 1 < u.length := by omega
          obtain ⟨a, ha⟩ : ∃ a, u[i] = a := ⟨_, rfl⟩
          obtain ⟨b, hb⟩ : ∃ b, u[i + 1] = b := ⟨_, rfl⟩
          have hga : ∀ pf, (S u)[i]'pf = a := fun _ => ha
          have hgb : ∀ pf, (S u)[i + 1]'pf = b := fun _ => hb
          have hdr : u.drop i = a :: b :: u.drop (i + 2) := by
            rw [List.drop_eq_getElem_cons hlt, List.drop_eq_getElem_cons hlt2, ha, hb]
          have hp2 := HP.out
          rw [hdr, pairs_two] at hp2
          have HP2 := Aside0.mk hp2
          have hw : IntKind.i64.wrap ((i : Int) + 1) = ((i + 1 : Nat) : Int) := by rw [IntWalk.i64_in _ (by omega)]; omega
          clear hdr hp2 ha hb HP hg0 hrem hrem2 hodd
          go_wp2
          go_quiet ((go_at_call 50; go_must (exact Calls.quiet_of_same (digitIs _ _))))
          by_cases ha16 : hexv a < 16
          · by_cases hb16 : hexv b < 16
            · have hp3 := HP2.out
              rw [if_pos ⟨ha16, hb16⟩] at hp3
              obtain ⟨p, hpp⟩ : ∃ p, hexv a = p := ⟨_, rfl⟩
              obtain ⟨q, hqq⟩ : ∃ q, hexv b = q := ⟨_, rfl⟩
              have hxa : hexi a = (p : Int) := by unfold hexi; rw [if_pos ha16, hpp]
              have hxb : hexi b = (q : Int) := by unfold hexi; rw [if_pos hb16, hqq]
              rw [hpp, hqq] at hp3
              have HP3 := Aside0.mk hp3
              have hp16 : p < 16 := by omega
              have hq16 : q < 16 := by omega
              rw [hxa, hxb]
              obtain ⟨z, hz⟩ : ∃ z : UInt8, UInt8.ofNat (p * 16 + q) = z := ⟨_, rfl⟩
              have hzn : z.toNat = p * 16 + q := by rw [← hz, UInt8.toNat_ofNat']; omega
              have hz256 : ((p : Int) * 16 + (q : Int)) % 256 = (z.toNat : Int) := by omega
              have hzw : IntKind.u8.wrap ((p : Int) * 16 + (q : Int)) = (z.toNat : Int) := by rw [IntWalk.u8_in _ (by omega)]; omega
              rw [hz] at HP3
              have HLE := Aside0.mk (show T.length + ([z] : Nm).length ≤ 140737488355328 by simp only [List.length_cons, List.length_nil]; omega)
              have HNX := Aside0.mk (show unhexB u = (pairs (u.drop (i + 2))).map ((T ++ [z]) ++ ·) by rw [HP3.out, Option.map_map]; congr 1; funext x; simp)
              clear hp3 hpp hqq hxa hxb ha16 hb16 HP2 hga hgb hz hzn HP3
              go_wp2_with (at_builtin; refine appendB (HR.out.step (by repeat (first | exact Below.refl _ _ | apply pw_below_drewN | refine below_alloc ?_ _))) [z] HLE.out rfl _ _ rfl rfl _ 1 1 rfl rfl (cell_one_new _ _ _) ?_; rintro v1 W4 h; have HR4 := Aside0.mk h; clear h)
              go_roundw
              case rel => exact ⟨i + 2, T ++ [z], by omega, by omega, by omega, by simp; omega, by go_num, HNX, HR4⟩
              case measure => simp [intOf]; omega
            · have hp3 := HP2.out
              rw [if_neg (fun h => hb16 h.2), Option.map_none] at hp3
              obtain ⟨et, eo⟩ := unhex_none hp3
              have hxa : hexi a = (hexv a : Int) := by unfold hexi; rw [if_pos ha16]
              have hxb : hexi b = -1 := by unfold hexi; rw [if_neg hb16]
              obtain ⟨p, hpp⟩ : ∃ p, hexv a = p := ⟨_, rfl⟩
              rw [hpp] at hxa
              rw [hxa, hxb]
              have HET := Aside0.mk et
              have HEO := Aside0.mk eo
              clear hp3 hpp hxa hxb ha16 hb16 HP2 hga hgb et eo
              go_wp2
              go_ret2
              rw [HET.out, HEO.out]
              exact ⟨rfl, pw_below_drewN HR.out.below _⟩
          · have hp3 := HP2.out
            rw [if_neg (fun h => ha16 h.1), Option.map_none] at hp3
            obtain ⟨et, eo⟩ := unhex_none hp3
            have hxa : hexi a = -1 := by unfold hexi; rw [if_neg ha16]
            rw [hxa]
            have HET := Aside0.mk et
            have HEO := Aside0.mk eo
            clear hp3 hxa ha16 HP2 hga hgb et eo
            go_wp2
            go_ret2
            rw [HET.out, HEO.out]
            exact ⟨rfl, pw_below_drewN HR.out.below _⟩
        · obtain rfl : i = u.length := by omega
          have hp2 := HP.out
          rw [List.drop_length, show pairs [] = some [] from rfl, Option.map_some, List.append_nil] at hp2
          obtain ⟨et, eo⟩ := unhex_some hp2
          have HET := Aside0.mk et
          have HEO := Aside0.mk eo
          obtain ⟨A3, c3, hv3⟩ := HR.out.slice
          have HR2 := HR.out
          subst hv3
          have hcv := convB (c := c3) (HR2.reads (by omega)).1 rfl
          have HX := Aside0.mk HR2
          clear HR2 HR hp2 et eo HP hodd hrem hrem2 hg0
          go_wp2
          go_ret2
          rw [HET.out, HEO.out]
          exact ⟨rfl, HX.out.below⟩
    · have hne : ((x.toNat : Int) == 120) = false := by
        simp only [beq_eq_false_iff_ne, ne_eq]
        intro e
        exact h120 (UInt8.toNat_inj.1 (by show x.toNat = 120; omega))
      obtain ⟨et, eo⟩ := unhex_none (u := u) (by rw [hx]; exact unhexB_other h120)
      rw [et, eo]
      clear et eo hx h120
      go_enter Tryd.func36, Tryd.ntmps36
      go_wp2
      go_ret2
      exact ⟨rfl, Below.refl _ _⟩
  · have hne : ((u.length : Int).tmod 2 == 1) = false := by
      simp only [beq_eq_false_iff_ne, ne_eq]
      rw [Int.tmod_eq_emod_of_nonneg (by omega)]
      omega
    have hne2 : ((u.length : Int) % 2 == 1) = false := by simp only [beq_eq_false_iff_ne, ne_eq]; omega
    obtain ⟨et, eo⟩ := unhex_none (unhexB_even hodd)
    rw [et, eo]
    clear et eo hodd
    go_enter Tryd.func36, Tryd.ntmps36
    go_wp2
    go_ret2
    exact ⟨rfl, Below.refl _ _⟩
end Go.Proofs.YtkcdlfkicopmoaaDoor.Fs
