/- law23: Dec, Body. -/
import Derived.Test.YthdjeikfbbdehaaDoorDsnFns
import Derived.Lib.ItoaNum
namespace Go.Proofs.YthdjeikfbbdehaaDoor.Fs
open Go.RowKit Go.Proofs.YthdjeikfbbdehaaDoor Go.Proofs.YthdjeikfbbdehaaDoor.Plain Go.Proofs.YthdjeikfbbdehaaDoorW.PrintWords Go.Maps
set_option linter.unusedVariables false
set_option linter.unusedSimpArgs false
theorem chain' {W W1 W2 : World} (h : Below W.heap.size W W1) (h' : Below W1.heap.size W1 W2) : Below W.heap.size W W2 := h.trans (h'.mono h.size)
theorem convAny {w : World} {AA : Option Addr} {a : List UInt8} {n c : Nat} (h : ReadsInt w .u8 AA (B a).length (B a)) (hn : n = a.length) : (convert 24 9 (.slice AA n c)).run Tryd.prog w = .ok (.string (S a)) w := by
  subst hn
  have hC : Kd.C (Kd.int .u8) w AA (B a).length (B a) := Kd.C_of_reads (d := (0 : Int)) (h1 := fun _ => rfl) h
  have := Kd.C_string (P := Tryd.prog) (c := c) Tryd.underlying24 Tryd.underlying5 Tryd.underlying9 hC
  rw [B_length, strOfNums_B] at this
  exact this
def digit (n : Nat) : UInt8 := UInt8.ofNat (48 + n % 10)
theorem digit_toNat (n : Nat) : (digit n).toNat = 48 + n % 10 := by
  unfold digit
  rw [UInt8.toNat_ofNat']
  omega
theorem dec_step (k : Nat) : Lib.decDigits k = (if k < 10 then [] else Lib.decDigits (k / 10)) ++ [digit k] := by
  rw [Lib.decDigits]
  split
  · rename_i h
    unfold digit
    rw [Nat.mod_eq_of_lt h]
    rfl
  · rename_i h
    rfl
theorem dec_len {n m : Nat} (h : n < 10 ^ (m + 1)) : (Lib.decDigits n).length ≤ m + 1 := by
  induction m generalizing n with
  | zero =>
    rw [dec_step, if_pos (by omega)]
    simp
  | succ m ih =>
    rw [dec_step]
    split
    · simp
    · have := ih (n := n / 10) (by rw [Nat.pow_succ] at h; omega)
      rw [List.length_append, List.length_singleton]
      omega
theorem oneOf (W : World) (c : UInt8) (t : TypeId) (ht : t = 5) : (convert 24 9 (.slice (some ⟨W.heap.size, 0, none⟩) 1 1)).run Tryd.prog (W.alloc (.cells #[.int .u8 (c.toNat : Int)] t)) = .ok (.string (S [c])) (W.alloc (.cells #[.int .u8 (c.toNat : Int)] t)) := by
  subst ht
  refine convAny (a := [c]) (n := 1) ⟨rfl, (show (1 : Nat) ≤ 9223372036854775807 by omega), fun _ => ⟨_, rfl, fun j hj => ?_⟩⟩ rfl
  have hj' : j < 1 := hj
  obtain rfl : j = 0 := by omega
  have h := heap_alloc_new W (.cells #[.int .u8 (c.toNat : Int)] 5)
  have e : (⟨W.heap.size, 0, none⟩ : Addr).add 0 = ⟨W.heap.size, 0, none⟩ := rfl
  rw [e]
  unfold World.cell?
  simp only []
  rw [h]
  rfl
set_option maxHeartbeats 1000000 in
set_option maxRecDepth 100000 in
theorem decIs (n : Nat) (h1 : 1 ≤ n) (hn : n ≤ 999999999) (w : World) : Calls Tryd.prog 16 #[.int .i64 (n : Int)] w fun e w' => e = .returned (.string (S (Lib.decDigits n))) ∧ Below w.heap.size w w' := by
  have HL := Aside0.mk (dec_len (m := 8) (n := n) (by omega))
  go_enter Tryd.func16, Tryd.ntmps16
  go_wp2
  go_loopw [0, 3] (fun v0 v3 wr => ∃ (k : Nat) (t : List UInt8), k ≤ 999999999 ∧ t.length ≤ 9 ∧ v0 = .int .i64 (k : Int) ∧ v3 = .string (S t) ∧ Aside0 (Lib.decDigits n = (if k = 0 then [] else Lib.decDigits k) ++ t) ∧ Aside0 (Below w.heap.size w wr)) (fun v0 _ _ => (intOf v0).toNat)
  case atStart => exact ⟨n, [], hn, by simp, rfl, rfl, ⟨by rw [if_neg (by omega), List.append_nil]⟩, ⟨Below.refl _ _⟩⟩
  case round =>
    obtain ⟨k, t, hk, ht, rfl, rfl, HK, HB⟩ := hrel
    by_cases h0 : k = 0
    · subst h0
      have HE := Aside0.mk (show Lib.decDigits n = t from HK.out)
      go_wp2
      go_ret
      exact ⟨by rw [HE.out]; rfl, HB.out⟩
    · have hpos : 0 < (k : Int) := by omega
      have hc := oneOf wr (digit k) 5 rfl
      have hd := digit_toNat k
      have e1 : ((digit k).toNat : Int) = 48 + (k : Int) % 10 := by rw [hd]; omega
      rw [e1] at hc
      have hs1 : (S [digit k]).size = 1 := rfl
      have hs2 : (S t).size = t.length := S_size t
      have hnew : Lib.decDigits n = (if k / 10 = 0 then [] else Lib.decDigits (k / 10)) ++ ([digit k] ++ t) := by
        rw [HK.out, if_neg h0, dec_step k, List.append_assoc]
        by_cases h10 : k < 10
        · rw [if_pos h10, if_pos (by omega)]
        · rw [if_neg h10, if_neg (by omega)]
      have hlen : ([digit k] ++ t).length ≤ 9 := by
        have h2 := congrArg List.length hnew
        have := HL.out
        simp only [List.length_append] at h2 ⊢
        omega
      have HN := Aside0.mk hnew
      have HN2 := Aside0.mk hlen
      clear hd e1 hnew hlen HK
      go_wp2
      refine ⟨⟨k / 10, [digit k] ++ t, by omega, HN2.out, by simp, ?_, HN, ⟨below_alloc HB.out _⟩⟩, by simp [intOf]; omega⟩
      rw [S_append]
end Go.Proofs.YthdjeikfbbdehaaDoor.Fs
