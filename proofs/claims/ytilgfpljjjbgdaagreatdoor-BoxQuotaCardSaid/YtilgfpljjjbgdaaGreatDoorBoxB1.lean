/- box: name: what it answers. box: right, Read; ref05.Parse. box: Read. -/
import Derived.Test.YtilgfpljjjbgdaaGreatDoorIdsB1
import Derived.Test.YtilgfpljjjbgdaaGreatDoorBoxGlob
import Derived.Test.YtilgfpljjjbgdaaGreatDoorByteRow
import Derived.Lib.Repeat
import Derived.Deep.RegionHeld3
import Derived.Test.YtilgfpljjjbgdaaGreatDoorAddrB
namespace Go.Proofs.YtilgfpljjjbgdaaGreatDoor.Fs
open Go.RowKit Go.Proofs.YtilgfpljjjbgdaaGreatDoor Go.Proofs.YtilgfpljjjbgdaaGreatDoor.Plain Go.Proofs.YtilgfpljjjbgdaaGreatDoorW.PrintWords Go.Maps
set_option linter.unusedVariables false
set_option linter.unusedSimpArgs false
theorem below_grow (w : World) (k : Nat) (os : Array Obj) : Below w.heap.size w (Sort.grow (w.drewN k) os) := by
  refine ⟨rfl, rfl, rfl, by simp [Sort.grow, World.drewN], fun i hi => ?_⟩
  simp only [Sort.grow, World.drewN]
  rw [Array.getElem?_append_left hi]
theorem below_bytes (w : World) (t : ByteArray) : Below w.heap.size w (Lib.bytesWorld w 5 t) := bytes_below (Below.refl _ _) (Nat.le_refl _) _ _
theorem itoaIs (n : Int) (h0 : -9223372036854775808 ≤ n) (h1 : n ≤ 9223372036854775807) (w : World) (hG : GI w) : Calls Tryz.prog 33 #[.int .i64 n] w fun e w' => e = .returned (.string (S (Lib.itoa n))) ∧ Below w.heap.size w w' := by
  refine (Tryz.strconv_Itoa n h0 h1 w hG.tab).mono ?_
  rintro e w' ⟨rfl, k, os, rfl⟩
  exact ⟨rfl, below_grow _ _ _⟩
/-- Atoi's answer, error or not -/
def atoiVal (t : Nm) : Int := match Lib.atoiAll t with | .ok v => v | .range => Lib.atoiSat t | _ => 0
def atoiOk (t : Nm) : Bool := match Lib.atoiAll t with | .ok _ => true | _ => false
theorem atoiIs (t : Nm) (ht : t.length ≤ 1000000) (w : World) (hG : GI w) : Calls Tryz.prog 29 #[.string (S t)] w fun e w' => ∃ x : Value, e = .returned (.tuple #[.int .i64 (atoiVal t), x]) ∧ (x = .nilIface ∨ ∃ a b, x = .iface a b) ∧ ((x = .nilIface) = (atoiOk t = true)) ∧ Below w.heap.size w w' := by
  obtain ⟨⟨t1, p1, c1⟩, t2, p2, c2⟩ := hG.errs
  cases hc : Lib.atoiAll t with
  | ok v =>
    refine (Tryz.strconv_Atoi_ok (S t) (by rw [S_size]; omega) v hc w).mono ?_
    rintro e w' ⟨rfl, hw⟩
    refine ⟨.nilIface, by unfold atoiVal; rw [hc], .inl rfl, by unfold atoiOk; rw [hc]; simp, ?_⟩
    rcases hw with rfl | ⟨u, rfl⟩
    · exact Below.refl _ _
    · exact below_bytes _ _
  | range =>
    refine (Tryz.strconv_Atoi_range (S t) (by rw [S_size]; omega) hc _ w c2 (.inr ⟨_, _, rfl⟩)).mono ?_
    rintro e w' ⟨N, rfl, _, _, hb⟩
    exact ⟨_, by unfold atoiVal; rw [hc]; rfl, .inr ⟨_, _, rfl⟩, by unfold atoiOk; rw [hc]; simp, hb⟩
  | _ =>
    refine (Tryz.strconv_Atoi_syntax (S t) (by rw [S_size]; omega) ⟨(fun v h => by have h' := hc.symm.trans h; cases h'), (fun h => by have h' := hc.symm.trans h; cases h')⟩ _ w c1 (.inr ⟨_, _, rfl⟩)).mono ?_
    rintro e w' ⟨N, rfl, _, _, hb⟩
    exact ⟨_, by unfold atoiVal; rw [hc], .inr ⟨_, _, rfl⟩, by unfold atoiOk; rw [hc]; simp, hb⟩
theorem repeat_zero (k : Nat) : Lib.repeatL [48] k = List.replicate k 48 := by
  induction k with
  | zero => rfl
  | succ k ih => rw [Lib.repeatL, ih, List.replicate_succ]; rfl
theorem parseUint_digits : ∀ (l : Nm) (acc : Nat), l.all isDig = true → acc * 10 ^ l.length + valN l < 1000000000000 → Lib.parseUint10 acc l = .ok (acc * 10 ^ l.length + valN l) := by
  have step : ∀ (l : Nm) (a : Nat), l.foldl (fun a c => a * 10 + (c.toNat - 48)) a = a * 10 ^ l.length + valN l := by
    intro l
    induction l with
    | nil => intro a; simp [valN]
    | cons c r ih =>
      intro a
      rw [List.foldl_cons, ih]
      show _ = a * 10 ^ (r.length + 1) + List.foldl _ (0 * 10 + (c.toNat - 48)) r
      rw [ih, Nat.zero_mul, Nat.zero_add, Nat.pow_succ, Nat.add_mul, Nat.mul_assoc, Nat.mul_comm 10 (10 ^ r.length), Nat.add_assoc]
  intro l
  induction l with
  | nil => intro acc _ _; simp [Lib.parseUint10, valN]
  | cons c r ih =>
    intro acc h hb
    rw [List.all_cons, Bool.and_eq_true] at h
    have h1 := h.1
    simp only [isDig, decide_eq_true_eq] at h1
    have e : acc * 10 ^ (c :: r).length + valN (c :: r) = (acc * 10 + (c.toNat - 48)) * 10 ^ r.length + valN r := by
      rw [← step (c :: r) acc, List.foldl_cons, step]
    have hp : 0 < 10 ^ r.length := Nat.pow_pos (by omega)
    have hle : acc * 10 + (c.toNat - 48) ≤ (acc * 10 + (c.toNat - 48)) * 10 ^ r.length := Nat.le_mul_of_pos_right _ hp
    rw [e] at hb ⊢
    rw [Lib.parseUint10, if_pos h1, if_neg (by omega), if_neg (by omega)]
    exact ih _ h.2 hb
theorem atoi_nine {t : Nm} (hl : t.length = 9) (h : t.all isDig = true) : Lib.atoiAll t = .ok (valN t : Int) := by
  cases t with
  | nil => cases hl
  | cons c r =>
    have h' := h
    rw [List.all_cons, Bool.and_eq_true] at h
    have h1 := h.1
    simp only [isDig, decide_eq_true_eq] at h1
    have hv := valN_lt h'
    rw [hl] at hv
    have hp := parseUint_digits (c :: r) 0 h' (by rw [Nat.zero_mul, Nat.zero_add]; omega)
    rw [Nat.zero_mul, Nat.zero_add] at hp
    unfold Lib.atoiAll
    simp only []
    have c1 : ¬ (c.toNat = 43 ∨ c.toNat = 45) := by omega
    have c2 : ¬ c.toNat = 45 := by omega
    rw [if_neg c1]
    unfold Lib.parseMag
    rw [if_neg (by simp), hp]
    simp only [c2, not_false_eq_true, true_and, false_and, if_false]
    rw [if_neg (by omega)]
theorem atoiVal_range (t : Nm) : -9223372036854775808 ≤ atoiVal t ∧ atoiVal t ≤ 9223372036854775807 := by
  unfold atoiVal
  cases h : Lib.atoiAll t with
  | ok v =>
    simp only []
    unfold Lib.atoiAll at h
    split at h
    · cases h
    · simp only [] at h
      split at h
      · cases h
      · cases h
      · rename_i u _
        split at h
        · cases h
        · split at h
          · cases h
          · have e := Lib.NumEnd.ok.inj h
            split at e <;> omega
  | range =>
    simp only []
    unfold Lib.atoiSat
    split <;> omega
  | _ => simp
/-- a mail's file -/
def fileN (u : Nm) (c : UInt8) (n : Nat) : Nm := u ++ c :: digN 9 n
theorem itoa_nine {n : Nat} (h : n ≤ 999999999) : digN 9 n = List.replicate (9 - (Lib.itoa (n : Int)).length) 48 ++ Lib.itoa (n : Int) ∧ (Lib.itoa (n : Int)).length ≤ 9 := by
  have e : Lib.itoa (n : Int) = Lib.decDigits n := by unfold Lib.itoa; rw [if_neg (by omega)]; rfl
  rw [e]
  exact digN_itoa (k := 9) (n := n) (by omega) (by omega)
theorem convOne {X : World} {b : Nat} {c : UInt8} (h : X.cell? ⟨b, 0, none⟩ = some (.int .u8 (c.toNat : Int))) : (convert 27 9 (.slice (some ⟨b, 0, none⟩) 1 1)).run Tryz.prog X = .ok (.string (S [c])) X := by
  refine convAny (a := [c]) (n := 1) ⟨rfl, (show (1 : Nat) ≤ 9223372036854775807 by omega), fun _ => ⟨_, rfl, fun j hj => ?_⟩⟩ rfl
  have hj' : j < 1 := hj
  obtain rfl : j = 0 := by omega
  exact h
theorem oneByte (W : World) (c : UInt8) : (convert 27 9 (.slice (some ⟨W.heap.size, 0, none⟩) 1 1)).run Tryz.prog (W.alloc (.cells #[.int .u8 (c.toNat : Int)] 5)) = .ok (.string (S [c])) (W.alloc (.cells #[.int .u8 (c.toNat : Int)] 5)) := by
  refine convOne ?_
  have h := heap_alloc_new W (.cells #[.int .u8 (c.toNat : Int)] 5)
  unfold World.cell?
  simp only []
  rw [h]
  rfl
theorem oneLater {W X : World} {c : UInt8} (hb : Below (W.alloc (.cells #[.int .u8 (c.toNat : Int)] 5)).heap.size (W.alloc (.cells #[.int .u8 (c.toNat : Int)] 5)) X) : (convert 27 9 (.slice (some ⟨W.heap.size, 0, none⟩) 1 1)).run Tryz.prog X = .ok (.string (S [c])) X := by
  refine convOne ?_
  have h := heap_alloc_new W (.cells #[.int .u8 (c.toNat : Int)] 5)
  have h2 := (hb.block W.heap.size (by simp)).trans h
  unfold World.cell?
  simp only []
  rw [h2]
  rfl
theorem oneDrew {W X : World} {c : UInt8} (hb : Below (W.alloc (.cells #[.int .u8 (c.toNat : Int)] 5)).drew.heap.size (W.alloc (.cells #[.int .u8 (c.toNat : Int)] 5)).drew X) : (convert 27 9 (.slice (some ⟨W.heap.size, 0, none⟩) 1 1)).run Tryz.prog X = .ok (.string (S [c])) X :=
  oneLater (chain' (W := W.alloc (.cells #[.int .u8 (c.toNat : Int)] 5)) (below_drew1 (Below.refl _ _)) hb)
set_option maxHeartbeats 1000000 in
set_option maxRecDepth 100000 in
theorem boxNameIs (u : Nm) (hu : u.length ≤ 1000000) (c : UInt8) (n : Nat) (hn : n ≤ 999999999) (w : World) (hG : GI w) : Calls Tryz.prog 21 #[.string (S u), .int .u8 (c.toNat : Int), .int .i64 (n : Int)] w fun e w' => e = .returned (.string (S (fileN u c n))) ∧ Below w.heap.size w w' := by
  obtain ⟨e, hl⟩ := itoa_nine hn
  have X := itoaIs (n : Int) (by omega) (by omega) w hG
  obtain ⟨t, ht⟩ : ∃ t, Lib.itoa (n : Int) = t := ⟨_, rfl⟩
  rw [ht] at X e hl
  have HE := Aside0.mk (show fileN u c n = u ++ [c] ++ (List.replicate (9 - t.length) 48) ++ t by unfold fileN; rw [e]; simp)
  have hsub : IntKind.i64.wrap (9 - (t.length : Int)) = ((9 - t.length : Nat) : Int) := by rw [IntWalk.i64_in _ (by omega)]; omega
  have HR0 : ∀ W, Calls Tryz.prog 34 #[.string ⟨#[48]⟩, .int .i64 ((9 - t.length : Nat) : Int)] W fun e w' => e = .returned (.string (S (List.replicate (9 - t.length) 48))) ∧ Below W.heap.size W w' := fun W => by
    refine (Tryz.strings_Repeat ⟨#[48]⟩ (9 - t.length) W (by omega) (by show 1 * (9 - t.length) ≤ _; omega)).mono ?_
    rintro e w' ⟨rfl, hb⟩
    refine ⟨?_, hb⟩
    rw [show ((⟨#[48]⟩ : ByteArray).data.toList) = [48] from rfl, repeat_zero]
    rfl
  have hzl : (List.replicate (9 - t.length) (48 : UInt8)).length ≤ 9 := by simp
  obtain ⟨z, hz1⟩ : ∃ z, List.replicate (9 - t.length) (48 : UInt8) = z := ⟨_, rfl⟩
  rw [hz1] at HR0 hzl HE
  have HR := Aside0.mk HR0
  have hz2 : (S z).size = z.length := S_size z
  have hz3 : (S t).size = t.length := S_size t
  have hz4 : (S u).size = u.length := S_size u
  have hz5 : (S [c]).size = 1 := rfl
  have c0 : (9223372036854775807 < u.length + 1) = False := by simp; omega
  have c1 : (9223372036854775807 < u.length + 1 + z.length) = False := by simp; omega
  have c2 : (9223372036854775807 < u.length + 1 + z.length + t.length) = False := by simp; omega
  have HSE := Aside0.mk (show S u ++ S [c] ++ S z ++ S t = S (fileN u c n) by rw [HE.out]; simp only [S_append])
  clear hz1 HR0 e ht hG hn hl
  go_enter Tryz.func21, Tryz.ntmps21
  go_wp2_with (go_at_call 33; refine X.mono ?_; rintro e W1 ⟨rfl, hb⟩; have HB1 := Aside0.mk hb; clear hb X)
  have hcv : (convert 27 9 (.slice (some ⟨W1.heap.size, 0, none⟩) 1 1)).run Tryz.prog (W1.alloc (.cells #[.int .u8 (c.toNat : Int)] 5)).drew = .ok (.string (S [c])) (W1.alloc (.cells #[.int .u8 (c.toNat : Int)] 5)).drew := oneLater (W := W1) (below_drew1 (Below.refl _ _))
  go_region_with (first | (go_at_call 34; go_must (refine (HR.out _).mono ?_; rintro e W2 ⟨rfl, hb⟩; have hcv3 := oneByte W2 c; (try have hcv2 : (convert 27 9 (.slice (some ⟨W1.heap.size, 0, none⟩) 1 1)).run Tryz.prog W2 = .ok (.string (S [c])) W2 := oneDrew (W := W1) hb); have HB2 := Aside0.mk hb; clear hb)))
  all_goals go_wp2
  all_goals go_ret
  all_goals
    refine ⟨?_, ?_⟩
    · exact congrArg (fun s => Ending.returned (.string s)) HSE.out
    · first
        | exact chain' HB1.out (chain' (W := W1) (by repeat (first | exact Below.refl _ _ | apply below_drew1 | refine below_alloc ?_ _)) HB2.out)
        | exact below_alloc (chain' HB1.out (chain' (W := W1) (by repeat (first | exact Below.refl _ _ | apply below_drew1 | refine below_alloc ?_ _)) HB2.out)) _
        | exact below_drew1 (below_alloc (chain' HB1.out (chain' (W := W1) (by repeat (first | exact Below.refl _ _ | apply below_drew1 | refine below_alloc ?_ _)) HB2.out)) _)
end Go.Proofs.YtilgfpljjjbgdaaGreatDoor.Fs
namespace Go.Proofs.YtilgfpljjjbgdaaGreatDoor.Fs
open Go.RowKit Go.Proofs.YtilgfpljjjbgdaaGreatDoor Go.Proofs.YtilgfpljjjbgdaaGreatDoor.Plain Go.Proofs.YtilgfpljjjbgdaaGreatDoorW.PrintWords Go.Maps Go.Proofs.YtilgfpljjjbgdaaGreatDoor.Pure
set_option linter.unusedVariables false
set_option linter.unusedSimpArgs false
/-- a mailbox, as it should be -/
def parT (u : Nm) : Nm := (toParse (partsB u)).1.data.toList
def parO (u : Nm) : Bool := (toParse (partsB u)).2
def boxB (u : Nm) : Bool := parO u && (parT u == u)
theorem GI.glob {w : World} (h : GI w) : GlobM w := GlobM.of h.maxLen
theorem addrParseIs (u : Nm) (hu : u.length ≤ 500000) (w : World) (hG : GI w) : Calls Tryz.prog 30 #[.string (S u)] w fun e w' => e = .returned (.tuple #[.string (S (parT u)), .bool (parO u)]) ∧ Below w.heap.size w w' := by
  obtain ⟨k, hk⟩ := addrParse_f u hu
  have hk := hk k (Nat.le_refl k)
  exact PALL.addr_Parse.calls k (S u) _ _ w hG.glob hk
theorem refParseIs (u : Nm) (hu : u.length ≤ 500000) (w : World) (hG : GI w) : Calls Tryz.prog 25 #[.string (S u)] w fun e w' => e = .returned (.tuple #[.string (S (parT u)), .bool (parO u)]) ∧ Below w.heap.size w w' := by
  obtain ⟨k, hk⟩ := refParse_f u (by omega)
  have hk := hk k (Nat.le_refl k)
  exact PALL.pillarboxref05_Parse.calls k (S u) _ _ w hG.glob hk
set_option maxRecDepth 100000 in
theorem rightIs (u : Nm) (hu : u.length ≤ 500000) (w : World) (hG : GI w) : Calls Tryz.prog 19 #[.string (S u)] w fun e w' => e = .returned (.bool (boxB u)) ∧ Below w.heap.size w w' := by
  have X := addrParseIs u hu w hG
  have HB := Aside0.mk (show boxB u = (parO u && (parT u == u)) from rfl)
  obtain ⟨t, ht⟩ : ∃ t, parT u = t := ⟨_, rfl⟩
  obtain ⟨o, ho⟩ : ∃ o, parO u = o := ⟨_, rfl⟩
  rw [ht, ho] at X HB
  clear ht ho hG
  cases o with
  | false =>
    go_enter Tryz.func19, Tryz.ntmps19
    go_wp2_with (go_at_call 30; refine X.mono ?_; rintro e W1 ⟨rfl, hb⟩; have HB1 := Aside0.mk hb; clear hb X)
    go_ret
    rw [HB.out]
    exact ⟨rfl, HB1.out⟩
  | true =>
    by_cases h : t = u
    · have hb1 : (t == u) = true := by simpa using h
      go_enter Tryz.func19, Tryz.ntmps19
      go_wp2_with (go_at_call 30; refine X.mono ?_; rintro e W1 ⟨rfl, hb⟩; have HB1 := Aside0.mk hb; clear hb X)
      go_ret
      rw [HB.out, hb1]
      exact ⟨rfl, HB1.out⟩
    · have hb1 : (t == u) = false := by simpa using h
      go_enter Tryz.func19, Tryz.ntmps19
      go_wp2_with (go_at_call 30; refine X.mono ?_; rintro e W1 ⟨rfl, hb⟩; have HB1 := Aside0.mk hb; clear hb X)
      go_ret
      rw [HB.out, hb1]
      exact ⟨rfl, HB1.out⟩
theorem box_parts {u : Nm} (h : boxB u = true) : ∃ n b, u = n ++ 64 :: b ∧ localB n = true ∧ domB b = true ∧ u.length ≤ 64 := by
  unfold boxB parO at h
  cases hp : partsB u with
  | none => rw [hp] at h; simp [toParse] at h
  | some p =>
    obtain ⟨n, d⟩ := p
    obtain ⟨b, h1, h2, h3, h4, h5, h6⟩ := parts_some hp
    exact ⟨n, b, h2, h3, h4, h5⟩
def okC' (c : UInt8) : Bool := decide (33 ≤ c.toNat ∧ c.toNat ≤ 126 ∧ c.toNat ≠ 47)
theorem local_ok : ∀ c : UInt8, PALL.okB [46, 95, 43, 45] c = true → okC' c = true := by
  have key : ∀ m : Fin 256, PALL.okB [46, 95, 43, 45] (UInt8.ofNat m) = true → okC' (UInt8.ofNat m) = true := by decide +kernel
  intro c
  have := key ⟨c.toNat, c.toNat_lt⟩
  simpa using this
theorem dom_ok : ∀ c : UInt8, PALL.okB [45] c = true → okC' c = true := by
  have key : ∀ m : Fin 256, PALL.okB [45] (UInt8.ofNat m) = true → okC' (UInt8.ofNat m) = true := by decide +kernel
  intro c
  have := key ⟨c.toNat, c.toNat_lt⟩
  simpa using this
theorem box_bytes {u : Nm} (h : boxB u = true) : u.all okC' = true ∧ 1 ≤ u.length ∧ u.length ≤ 64 := by
  obtain ⟨n, b, rfl, h1, h2, h3⟩ := box_parts h
  refine ⟨?_, by simp; omega, h3⟩
  rw [List.all_append, List.all_cons, Bool.and_eq_true, Bool.and_eq_true]
  refine ⟨?_, by decide, ?_⟩
  · rw [List.all_eq_true]
    intro c hc
    unfold localB at h1
    simp only [Bool.and_eq_true] at h1
    exact local_ok c (List.all_eq_true.1 h1.2.1 c hc)
  · rw [List.all_eq_true]
    intro c hc
    unfold domB at h2
    simp only [Bool.and_eq_true] at h2
    rcases dom_bytes b h2.1 c hc with hx | hx
    · exact dom_ok c hx
    · rw [hx]; decide
theorem file_right {u : Nm} (h : boxB u = true) {c : UInt8} (hc : okC' c = true) (n : Nat) : rightB (fileN u c n) = true := by
  obtain ⟨h1, h2, h3⟩ := box_bytes h
  unfold rightB fileN
  rw [Bool.and_eq_true]
  refine ⟨?_, by simp [digN_length]; omega⟩
  show (u ++ c :: digN 9 n).all okC' = true
  rw [List.all_append, List.all_cons, h1, hc, Bool.true_and, Bool.true_and, List.all_eq_true]
  intro d hd
  have := List.all_eq_true.1 (digN_all 9 n) d hd
  unfold isDig at this
  unfold okC'
  simp only [decide_eq_true_eq] at this ⊢
  omega
end Go.Proofs.YtilgfpljjjbgdaaGreatDoor.Fs
namespace Go.Proofs.YtilgfpljjjbgdaaGreatDoor.Fs
open Go.RowKit Go.Proofs.YtilgfpljjjbgdaaGreatDoor Go.Proofs.YtilgfpljjjbgdaaGreatDoor.Plain Go.Proofs.YtilgfpljjjbgdaaGreatDoorW.PrintWords Go.Maps
set_option linter.unusedVariables false
set_option linter.unusedSimpArgs false
theorem ownsRow_base {X : World} {a b size n : Nat} {e : TypeId} {v : Value} {xs : List Value} (h : X.ownsRow b e size v n xs) (hb : a ≤ b) : X.ownsRow a e size v n xs := ⟨h.1, h.2.imp id (fun ⟨g, cap, cur, e, hg, r⟩ => ⟨g, cap, cur, e, Nat.le_trans hb hg, r⟩)⟩
def idOk (n : Int) : Bool := decide (1 ≤ n ∧ n ≤ 999999999)
def goodB (u : Nm) (n : Int) : Bool := boxB u && idOk n
def readB (d : Disk) (u : Nm) (n : Int) : List UInt8 × Bool := if goodB u n = true then ((d.read (fileN u 43 n.toNat)).1, decide ((d.read (fileN u 43 n.toNat)).2 = 0)) else ([], false)
def RdOf (W : World) (bs : List UInt8) (v : Value) (W' : World) : Prop := W'.ownsRow W.heap.size 5 1 v (B bs).length (nums .u8 (B bs)) ∧ Below W.heap.size W W'
theorem rdNil {W W' : World} (hb : Below W.heap.size W W') : RdOf W [] (.slice none 0 0) W' := ⟨World.ownsRow_nil _ _ _ _, hb⟩
set_option maxHeartbeats 1000000 in
set_option maxRecDepth 100000 in
/-- what is asked before a mail is read: any disk -/
theorem readBad (p : Option Addr) (u : Nm) (hu : u.length ≤ 500000) (n : Int) (h : goodB u n = false) (W : World) (hG : GI W) : Calls Tryz.prog 9 #[.pointer p, .string (S u), .int .i64 n] W fun e W' => e = .returned (.tuple #[.slice none 0 0, .bool false]) ∧ Below W.heap.size W W' := by
  have X := rightIs u hu W hG
  have HG := Aside0.mk (show goodB u n = (boxB u && idOk n) from rfl)
  obtain ⟨o, ho⟩ : ∃ o, boxB u = o := ⟨_, rfl⟩
  rw [ho] at X HG
  clear ho hG
  cases o with
  | false =>
    clear h HG
    go_enter Tryz.func9, Tryz.ntmps9
    go_wp2_with (go_at_call 19; refine X.mono ?_; rintro e W1 ⟨rfl, hb⟩; have HB1 := Aside0.mk hb; clear hb X)
    go_ret2
    exact ⟨rfl, HB1.out⟩
  | true =>
    have hn : ¬ (1 ≤ n ∧ n ≤ 999999999) := by
      have := HG.out
      rw [h, Bool.true_and] at this
      unfold idOk at this
      simpa using this.symm
    clear h HG
    by_cases h1 : n < 1
    · clear hn
      go_enter Tryz.func9, Tryz.ntmps9
      go_wp2_with (go_at_call 19; refine X.mono ?_; rintro e W1 ⟨rfl, hb⟩; have HB1 := Aside0.mk hb; clear hb X)
      go_ret2
      exact ⟨rfl, HB1.out⟩
    · have h2 : 999999999 < n := by omega
      clear hn
      go_enter Tryz.func9, Tryz.ntmps9
      go_wp2_with (go_at_call 19; refine X.mono ?_; rintro e W1 ⟨rfl, hb⟩; have HB1 := Aside0.mk hb; clear hb X)
      go_ret2
      exact ⟨rfl, HB1.out⟩
theorem good_parts {u : Nm} {n : Int} (h : goodB u n = true) : boxB u = true ∧ ∃ k : Nat, n = k ∧ 1 ≤ k ∧ k ≤ 999999999 := by
  unfold goodB idOk at h
  simp only [Bool.and_eq_true, decide_eq_true_eq] at h
  exact ⟨h.1, n.toNat, by omega, by omega, by omega⟩
theorem file_len (u : Nm) (hu : u.length ≤ 500000) (c : UInt8) (k : Nat) : (fileN u c k).length ≤ 140737488351232 := by
  unfold fileN
  simp [digN_length]
  omega
set_option maxHeartbeats 1000000 in
set_option maxRecDepth 100000 in
theorem boxReadIs {w0 W : World} {f : Nat} {d : Disk} {N : Nat} {T : Nat → Prop} (h : FsAt w0 f d N T W) (hN : N ≤ 1000000) (u : Nm) (hu : u.length ≤ 500000) (n : Int) (hG : GI W) :
    Calls Tryz.prog 9 #[.pointer (some ⟨f, 0, none⟩), .string (S u), .int .i64 n] W fun e W' => ∃ v, e = .returned (.tuple #[v, .bool (readB d u n).2]) ∧ RdOf W (readB d u n).1 v W' := by
  cases hg : goodB u n with
  | false =>
    refine (readBad (some ⟨f, 0, none⟩) u hu n hg W hG).mono ?_
    rintro e W' ⟨rfl, hb⟩
    have e1 : readB d u n = ([], false) := by unfold readB; rw [hg]; rfl
    rw [e1]
    exact ⟨_, rfl, rdNil hb⟩
  | true =>
    obtain ⟨hb, k, rfl, h1, h2⟩ := good_parts hg
    have e1 : readB d u (k : Int) = ((d.read (fileN u 43 k)).1, decide ((d.read (fileN u 43 k)).2 = 0)) := by unfold readB; rw [if_pos hg]; rfl
    rw [e1]
    have X := rightIs u hu W hG
    rw [hb] at X
    have XN := Aside0.mk (fun (X : World) (hX : Below W.heap.size W X) => show Calls Tryz.prog 21 #[.string (S u), .int .u8 43, .int .i64 (k : Int)] X (fun e w' => e = .returned (.string (S (fileN u 43 k))) ∧ Below X.heap.size X w') from boxNameIs u (by omega) 43 k h2 X (hG.below hX))
    have XR := Aside0.mk (fun (X : World) (hX : Below W.heap.size W X) => read (h.step hX) hN (fileN u 43 k) (file_len u hu 43 k))
    obtain ⟨F, hF⟩ : ∃ F, fileN u 43 k = F := ⟨_, rfl⟩
    obtain ⟨r, hr⟩ : ∃ r, d.read F = r := ⟨_, rfl⟩
    obtain ⟨bs, er⟩ := r
    rw [hF] at XN XR ⊢
    rw [hr] at XR ⊢
    dsimp only at XR ⊢
    clear hF hr hG hb hg e1 h
    by_cases he : er = 0
    · subst he
      go_enter Tryz.func9, Tryz.ntmps9
      go_wp2_with (first
        | (go_at_call 19; refine X.mono ?_; rintro e W1 ⟨rfl, hb⟩; have HB1 := Aside0.mk hb; clear hb X)
        | (go_at_call 21; refine (XN.out _ HB1.out).mono ?_; rintro e W2 ⟨rfl, hb⟩; have HB2 := Aside0.mk (chain' HB1.out hb); clear hb)
        | (go_at_call 20; refine (XR.out _ HB2.out).mono ?_; rintro e W3 ⟨v, rfl, ho, hb⟩; have HB3 := Aside0.mk (chain' HB2.out hb); have HO := Aside0.mk ho; clear hb ho))
      go_ret2
      exact ⟨v, rfl, ownsRow_base HO.out HB2.out.size, HB3.out⟩
    · have hne : (er == 0) = false := by simpa using he
      have hd : decide (er = 0) = false := by simpa using he
      rw [hd]
      clear hd he
      go_enter Tryz.func9, Tryz.ntmps9
      go_wp2_with (first
        | (go_at_call 19; refine X.mono ?_; rintro e W1 ⟨rfl, hb⟩; have HB1 := Aside0.mk hb; clear hb X)
        | (go_at_call 21; refine (XN.out _ HB1.out).mono ?_; rintro e W2 ⟨rfl, hb⟩; have HB2 := Aside0.mk (chain' HB1.out hb); clear hb)
        | (go_at_call 20; refine (XR.out _ HB2.out).mono ?_; rintro e W3 ⟨v, rfl, ho, hb⟩; have HB3 := Aside0.mk (chain' HB2.out hb); have HO := Aside0.mk ho; clear hb ho))
      go_ret2
      exact ⟨v, rfl, ownsRow_base HO.out HB2.out.size, HB3.out⟩
set_option maxHeartbeats 1000000 in
set_option maxRecDepth 100000 in
theorem boxReadNil (u : Nm) (hu : u.length ≤ 500000) (n : Int) (W : World) (hG : GI W) : Calls Tryz.prog 9 #[.pointer none, .string (S u), .int .i64 n] W fun e W' => ∃ v, e = .returned (.tuple #[v, .bool false]) ∧ Below W.heap.size W W' := by
  cases hg : goodB u n with
  | false =>
    refine (readBad none u hu n hg W hG).mono ?_
    rintro e W' ⟨rfl, hb⟩
    exact ⟨_, rfl, hb⟩
  | true =>
    obtain ⟨hb, k, rfl, h1, h2⟩ := good_parts hg
    have X := rightIs u hu W hG
    rw [hb] at X
    have XN := Aside0.mk (fun (X : World) (hX : Below W.heap.size W X) => show Calls Tryz.prog 21 #[.string (S u), .int .u8 43, .int .i64 (k : Int)] X (fun e w' => e = .returned (.string (S (fileN u 43 k))) ∧ Below X.heap.size X w') from boxNameIs u (by omega) 43 k h2 X (hG.below hX))
    have XR := Aside0.mk (fun (X : World) => readNil (fileN u 43 k) X)
    obtain ⟨F, hF⟩ : ∃ F, fileN u 43 k = F := ⟨_, rfl⟩
    rw [hF] at XN XR
    clear hF hG hb hg
    go_enter Tryz.func9, Tryz.ntmps9
    go_wp2_with (first
      | (go_at_call 19; refine X.mono ?_; rintro e W1 ⟨rfl, hb⟩; have HB1 := Aside0.mk hb; clear hb X)
      | (go_at_call 21; refine (XN.out _ HB1.out).mono ?_; rintro e W2 ⟨rfl, hb⟩; have HB2 := Aside0.mk (chain' HB1.out hb); clear hb)
      | (go_at_call 20; refine (XR.out _).mono ?_; rintro e W3 ⟨rfl, hb⟩; have HB3 := Aside0.mk (chain' HB2.out hb); clear hb))
    go_ret2
    exact ⟨_, rfl, HB3.out⟩
end Go.Proofs.YtilgfpljjjbgdaaGreatDoor.Fs
