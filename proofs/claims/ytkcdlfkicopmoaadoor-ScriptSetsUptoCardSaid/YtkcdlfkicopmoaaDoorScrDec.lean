/- ref05.Dec at every natural number. -/
import Derived.Test.YtkcdlfkicopmoaaDoorScrRHex
import Derived.Lib.ItoaNum
namespace Go.Proofs.YtkcdlfkicopmoaaDoor.Fs
open Go.RowKit Go.Proofs.YtkcdlfkicopmoaaDoor Go.Proofs.YtkcdlfkicopmoaaDoor.Plain Go.Proofs.YtkcdlfkicopmoaaDoorW.PrintWords Go.Maps
set_option linter.unusedVariables false
set_option linter.unusedSimpArgs false
theorem convAny {w : World} {AA : Option Addr} {a : List UInt8} {n c : Nat} (h : ReadsInt w .u8 AA (B a).length (B a)) (hn : n = a.length) : (convert 45 9 (.slice AA n c)).run Tryd.prog w = .ok (.string (S a)) w := by
  subst hn
  have hC : Kd.C (Kd.int .u8) w AA (B a).length (B a) := Kd.C_of_reads (d := (0 : Int)) (h1 := fun _ => rfl) h
  have := Kd.C_string (P := Tryd.prog) (c := c) Tryd.underlying45 Tryd.underlying5 Tryd.underlying9 hC
  rw [B_length, strOfNums_B] at this
  exact this
def digit (n : Nat) : UInt8 := UInt8.ofNat (48 + n % 10)
theorem digit_toNat (n : Nat) : (digit n).toNat = 48 + n % 10 := by
  unfold digit
  rw [UInt8.toNat_ofNat']
  omega
theorem dec_step (k : Nat) : Lib.decDigits k = (if k < 10 then [] else Lib.decDigits (k / 10)) ++ [digit k] := by
  rw [Lib.decDigits]
  split
  · rename_i h
    unfold digit
    rw [Nat.mod_eq_of_lt h]
    rfl
  · rename_i h
    rfl
theorem dec_len {n m : Nat} (h : n < 10 ^ (m + 1)) : (Lib.decDigits n).length ≤ m + 1 := by
  induction m generalizing n with
  | zero =>
    rw [dec_step, if_pos (by omega)]
    simp
  | succ m ih =>
    rw [dec_step]
    split
    · simp
    · have := ih (n := n / 10) (by rw [Nat.pow_succ] at h; omega)
      rw [List.length_append, List.length_singleton]
      omega
theorem oneOf (W : World) (c : UInt8) (t : TypeId) (ht : t = 5) : (convert 45 9 (.slice (some ⟨W.heap.size, 0, none⟩) 1 1)).run Tryd.prog (W.alloc (.cells #[.int .u8 (c.toNat : Int)] t)) = .ok (.string (S [c])) (W.alloc (.cells #[.int .u8 (c.toNat : Int)] t)) := by
  subst ht
  refine convAny (a := [c]) (n := 1) ⟨rfl, (show (1 : Nat) ≤ 9223372036854775807 by omega), fun _ => ⟨_, rfl, fun j hj => ?_⟩⟩ rfl
  have hj' : j < 1 := hj
  obtain rfl : j = 0 := by omega
  have h := heap_alloc_new W (.cells #[.int .u8 (c.toNat : Int)] 5)
  have e : (⟨W.heap.size, 0, none⟩ : Addr).add 0 = ⟨W.heap.size, 0, none⟩ := rfl
  rw [e]
  unfold World.cell?
  simp only []
  rw [h]
  rfl
set_option maxHeartbeats 1000000 in
set_option maxRecDepth 100000 in
theorem decPos (n : Nat) (h1 : 1 ≤ n) (hn : n ≤ 9223372036854775807) (w : World) : Calls Tryd.prog 49 #[.int .i64 (n : Int)] w fun e w' => e = .returned (.string (S (Lib.decDigits n))) ∧ Below w.heap.size w w' := by
  have HL := Aside0.mk (dec_len (m := 19) (n := n) (by omega))
  go_enter Tryd.func49, Tryd.ntmps49
  go_wp2
  go_loopw [0, 3] (fun v0 v3 wr => ∃ (k : Nat) (t : List UInt8), k ≤ 9223372036854775807 ∧ t.length ≤ 20 ∧ v0 = .int .i64 (k : Int) ∧ v3 = .string (S t) ∧ Aside0 (Lib.decDigits n = (if k = 0 then [] else Lib.decDigits k) ++ t) ∧ Aside0 (Below w.heap.size w wr)) (fun v0 _ _ => (intOf v0).toNat)
  case atStart => exact ⟨n, [], hn, by simp, rfl, rfl, ⟨by rw [if_neg (by omega), List.append_nil]⟩, ⟨Below.refl _ _⟩⟩
  case round =>
    obtain ⟨k, t, hk, ht, rfl, rfl, HK, HB⟩ := hrel
    by_cases h0 : k = 0
    · subst h0
      have HE := Aside0.mk (show Lib.decDigits n = t from HK.out)
      go_wp2
      go_ret
      exact ⟨by rw [HE.out]; rfl, HB.out⟩
    · have hpos : 0 < (k : Int) := by omega
      have hc := oneOf wr (digit k) 5 rfl
      have hd := digit_toNat k
      have e1 : ((digit k).toNat : Int) = 48 + (k : Int) % 10 := by rw [hd]; omega
      rw [e1] at hc
      have hs1 : (S [digit k]).size = 1 := rfl
      have hs2 : (S t).size = t.length := S_size t
      have hnew : Lib.decDigits n = (if k / 10 = 0 then [] else Lib.decDigits (k / 10)) ++ ([digit k] ++ t) := by
        rw [HK.out, if_neg h0, dec_step k, List.append_assoc]
        by_cases h10 : k < 10
        · rw [if_pos h10, if_pos (by omega)]
        · rw [if_neg h10, if_neg (by omega)]
      have hlen : ([digit k] ++ t).length ≤ 20 := by
        have h2 := congrArg List.length hnew
        have := HL.out
        simp only [List.length_append] at h2 ⊢
        omega
      have HN := Aside0.mk hnew
      have HN2 := Aside0.mk hlen
      clear hd e1 hnew hlen HK
      go_wp2
      refine ⟨⟨k / 10, [digit k] ++ t, by omega, HN2.out, by simp, ?_, HN, ⟨below_alloc HB.out _⟩⟩, by simp [intOf]; omega⟩
      rw [S_append]
theorem decNat (n : Nat) (hn : n ≤ 9223372036854775807) (w : World) : Calls Tryd.prog 49 #[.int .i64 (n : Int)] w fun e w' => e = .returned (.string (S (Lib.decDigits n))) ∧ Below w.heap.size w w' := by
  by_cases h : n = 0
  · subst h
    have HE := Aside0.mk (show (⟨#[48]⟩ : ByteArray) = S (Lib.decDigits 0) by rw [Lib.decDigits]; rfl)
    have HB0 := Aside0.mk (Below.refl w.heap.size w)
    go_enter Tryd.func49, Tryd.ntmps49
    go_wp2
    go_ret
    exact ⟨congrArg (fun s => Ending.returned (.string s)) HE.out, HB0.out⟩
  · exact decPos n (by omega) hn w
set_option maxHeartbeats 1000000 in
set_option maxRecDepth 100000 in
theorem refDecIs (n : Int) (h : I64 n) (w : World) : Calls Tryd.prog 33 #[.int .i64 n] w fun e w' => e = .returned (.string (S (Lib.itoa n))) ∧ Below w.heap.size w w' := by
  have h1 := h.1
  have h2 := h.2
  have HB0 := Aside0.mk (Below.refl w.heap.size w)
  by_cases h0 : 0 ≤ n
  · obtain ⟨k, rfl⟩ := Int.eq_ofNat_of_zero_le h0
    have X := Aside0.mk (decNat k (by omega))
    rw [show Lib.itoa (k : Int) = Lib.decDigits k by unfold Lib.itoa; rw [if_neg (by omega)]; rfl]
    clear h h1 h2
    go_enter Tryd.func33, Tryd.ntmps33
    go_wp2_with (go_at_call 49; refine (X.out _).mono ?_; rintro e W1 ⟨rfl, hb⟩; have HB1 := Aside0.mk hb; clear hb)
    all_goals go_ret
    all_goals exact ⟨rfl, HB1.out⟩
  · obtain ⟨k0, rfl⟩ : ∃ k : Nat, n = -(k : Int) := ⟨n.natAbs, by omega⟩
    have hk0 : 1 ≤ k0 := by omega
    have hkm : k0 ≤ 9223372036854775808 := by omega
    rw [show Lib.itoa (-(k0 : Int)) = 45 :: Lib.decDigits k0 by unfold Lib.itoa; rw [if_pos (by omega)]; simp]
    have HL := Aside0.mk (dec_len (m := 19) (n := k0) (by omega))
    have hneg : ∀ k : Nat, (-(k : Int)).tmod 10 = -((k % 10 : Nat) : Int) ∧ (-(k : Int)).tdiv 10 = -((k / 10 : Nat) : Int) := by
      intro k
      rw [Int.neg_tmod, Int.neg_tdiv, Int.tmod_eq_emod_of_nonneg (by omega), Int.tdiv_eq_ediv_of_nonneg (by omega)]
      omega
    have HN := Aside0.mk hneg
    obtain ⟨e1, e2⟩ := hneg k0
    obtain ⟨q, hq⟩ : ∃ q, k0 / 10 = q := ⟨_, rfl⟩
    obtain ⟨r, hr⟩ : ∃ r, k0 % 10 = r := ⟨_, rfl⟩
    rw [hr] at e1
    rw [hq] at e2
    have hr9 : (r : Int) ≤ 9 := by omega
    have hq9 : (q : Int) ≤ 922337203685477580 := by omega
    have hc := oneOf w (digit k0) 5 rfl
    rw [show ((digit k0).toNat : Int) = 48 + (r : Int) by rw [digit_toNat]; omega] at hc
    have HD := Aside0.mk (show Lib.decDigits k0 = (if q = 0 then [] else Lib.decDigits q) ++ [digit k0] by rw [dec_step k0, ← hq]; by_cases h10 : k0 < 10 <;> simp [h10])
    have hk1 : (-(k0 : Int)) < 0 := by omega
    clear hq hr h h1 h2 hneg
    go_enter Tryd.func33, Tryd.ntmps33
    go_wp2
    go_loopw [0, 3] (fun v0 v3 wr => ∃ (k : Nat) (t : List UInt8), k ≤ 922337203685477580 ∧ t.length ≤ 20 ∧ v0 = .int .i64 (-(k : Int)) ∧ v3 = .string (S t) ∧ Aside0 (Lib.decDigits k0 = (if k = 0 then [] else Lib.decDigits k) ++ t) ∧ Aside0 (Below w.heap.size w wr)) (fun v0 _ _ => (intOf v0).natAbs)
    case atStart => exact ⟨q, [digit k0], by omega, by simp, rfl, rfl, HD, ⟨below_alloc HB0.out _⟩⟩
    case round =>
      clear hc e1 e2 hr9 hk1
      obtain ⟨k, t, hk, ht, rfl, rfl, HK, HB⟩ := hrel
      by_cases hz : k = 0
      · subst hz
        have HE := Aside0.mk (show S [45] ++ S t = S (45 :: Lib.decDigits k0) by rw [S_append, HK.out]; rfl)
        have hs2 : (S t).size = t.length := S_size t
        go_wp2
        go_ret
        exact ⟨congrArg (fun s => Ending.returned (.string s)) HE.out, HB.out⟩
      · obtain ⟨e1, e2⟩ := HN.out k
        have hnew : Lib.decDigits k0 = (if k / 10 = 0 then [] else Lib.decDigits (k / 10)) ++ ([digit k] ++ t) := by
          rw [HK.out, if_neg hz, dec_step k, List.append_assoc]
          by_cases h10 : k < 10
          · rw [if_pos h10, if_pos (by omega)]
          · rw [if_neg h10, if_neg (by omega)]
        have hlen : ([digit k] ++ t).length ≤ 20 := by
          have h2 := congrArg List.length hnew
          have := HL.out
          simp only [List.length_append] at h2 ⊢
          omega
        have HN1 := Aside0.mk hnew
        have HN2 := Aside0.mk hlen
        obtain ⟨q, hq⟩ : ∃ q, k / 10 = q := ⟨_, rfl⟩
        obtain ⟨r, hr⟩ : ∃ r, k % 10 = r := ⟨_, rfl⟩
        rw [hr] at e1
        rw [hq] at e2 HN1
        have hr9 : (r : Int) ≤ 9 := by omega
        have hql : q < k := by omega
        have hc := oneOf wr (digit k) 5 rfl
        rw [show ((digit k).toNat : Int) = 48 + (r : Int) by rw [digit_toNat]; omega] at hc
        have hk1 : (-(k : Int)) < 0 := by omega
        have hkp : 0 < k := by omega
        have hs1 : (S [digit k]).size = 1 := rfl
        have hs2 : (S t).size = t.length := S_size t
        clear hq hr hnew hlen HK
        go_wp2
        refine ⟨⟨q, [digit k] ++ t, by omega, HN2.out, by simp, by rw [S_append], HN1, ⟨below_alloc HB.out _⟩⟩, by simp [intOf]; omega⟩
end Go.Proofs.YtkcdlfkicopmoaaDoor.Fs
