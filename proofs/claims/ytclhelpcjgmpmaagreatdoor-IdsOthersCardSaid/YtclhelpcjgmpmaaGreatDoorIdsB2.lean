/- What the library's package-level variables hold: the table of powers of ten; ErrSyntax and ErrRange some errors. ids: Name and number: what they answer. -/
import Derived.Test.YtclhelpcjgmpmaaGreatDoorShelf
import Derived.Test.YtclhelpcjgmpmaaGreatDoorRows
import Derived.Test.YtclhelpcjgmpmaaGreatDoorWWords
import Derived.Below
import Derived.Stop.LaidErr
import Derived.Lib.LaidTab
import Derived.MakeChecks
import Derived.Test.YtclhelpcjgmpmaaGreatDoorIdsB1
import Derived.Lib.Repeat
namespace Go.Proofs.YtclhelpcjgmpmaaGreatDoor.Fs
open Go.RowKit Go.Shelf Go.Proofs.YtclhelpcjgmpmaaGreatDoorW.PrintWords
set_option linter.unusedVariables false
set_option linter.unusedSimpArgs false
def LFacts (w : World) : Prop := Lib.TabIs Tryz.prog w "internal/strconv.uint64pow10" .u64 Lib.pow10Tab ∧ (∃ t p, w.cell? ⟨2, 0, none⟩ = some (.iface t p)) ∧ (∃ t p, w.cell? ⟨3, 0, none⟩ = some (.iface t p))
structure GI (w : World) : Prop where
  mk :: (out : ∃ W0 : World, LFacts W0 ∧ W0.heap.size ≤ w.heap.size ∧ ∀ k, k < W0.heap.size → w.heap[k]? = W0.heap[k]?)
theorem GI.of {w : World} (h : LFacts w) : GI w := ⟨w, h, Nat.le_refl _, fun _ _ => rfl⟩
theorem GI.below {w w' : World} (h : GI w) (hb : Below w.heap.size w w') : GI w' := by
  obtain ⟨W0, hf, h1, h2⟩ := h
  exact ⟨W0, hf, Nat.le_trans h1 hb.size, fun k hk' => (hb.block k (Nat.lt_of_lt_of_le hk' h1)).trans (h2 k hk')⟩
theorem gPow : Tryz.prog.globalNamed "internal/strconv.uint64pow10" = some 0 := by kernel_rfl
theorem GI.tab {w : World} (h : GI w) : Lib.TabIs Tryz.prog w "internal/strconv.uint64pow10" .u64 Lib.pow10Tab := by
  obtain ⟨W0, hf, h1, h2⟩ := h
  have h0 := hf.1
  unfold Lib.TabIs World.var? at h0 ⊢
  rw [gPow] at h0 ⊢
  simp only [Option.bind_some] at h0 ⊢
  have hlt : 0 < W0.heap.size := by
    rcases Nat.lt_or_ge 0 W0.heap.size with h | h
    · exact h
    · rw [Array.getElem?_eq_none h] at h0; cases h0
  rw [h2 _ hlt]
  exact h0
theorem GI.errs {w : World} (h : GI w) : (∃ t p, w.cell? ⟨2, 0, none⟩ = some (.iface t p)) ∧ (∃ t p, w.cell? ⟨3, 0, none⟩ = some (.iface t p)) := by
  obtain ⟨W0, ⟨_, ⟨t1, p1, c1⟩, t2, p2, c2⟩, h1, h2⟩ := h
  exact ⟨⟨t1, p1, (World.cell?_of_block (w := W0) (h2 _ (World.block_lt_of_cell? W0 _ c1))).trans c1⟩, t2, p2, (World.cell?_of_block (w := W0) (h2 _ (World.block_lt_of_cell? W0 _ c2))).trans c2⟩
theorem gES : Tryz.prog.globalNamed "strconv.ErrSyntax" = some 2 := by kernel_rfl
theorem gER : Tryz.prog.globalNamed "strconv.ErrRange" = some 3 := by kernel_rfl
theorem starErr : "*" ++ "errors.errorString" = "*errors.errorString" := by decide
theorem rowErr (u : TypeId) (h : Tryz.prog.typeName? 3 u = some "*errors.errorString") : u = 149 :=
  typeName_ptr_named (nm := "errors.errorString") (by rw [starErr]; kernel_rfl) (by kernel_rfl) (by decide) u (by rw [starErr]; exact h)
theorem facts_of_laid {W : World} (h : laidMetH Tryz.prog Rows.idsNoneRow.laid W) : LFacts W := by
  rw [MakeChecks.laidMetH_plain _ _ _ (by kernel_rfl)] at h
  have h3 := h.tail.tail
  have h4 := h3.tail
  have h5 := h4.tail
  have ht := Lib.tabIs_of_head (zs := Lib.pow10Tab) gPow (t := 123) (e := 92) (n := 20) (by kernel_rfl) Tryz.underlying123 Tryz.underlying92 (by kernel_rfl) (by kernel_rfl) h3
  obtain ⟨a1, s1, hv1, -, -, -⟩ := laid_sentinel h4 gER (ti := 77) (by kernel_rfl) Tryz.underlying77 rowErr Tryz.underlying149 Tryz.underlying151 rfl rfl Tryz.underlying9 (by kernel_rfl) (by kernel_rfl)
  obtain ⟨a0, s0, hv0, -, -, -⟩ := laid_sentinel h5 gES (ti := 77) (by kernel_rfl) Tryz.underlying77 rowErr Tryz.underlying149 Tryz.underlying151 rfl rfl Tryz.underlying9 (by kernel_rfl) (by kernel_rfl)
  exact ⟨ht, ⟨_, _, by have h0 := World.var?_cell gES hv0 0; simpa using h0⟩, ⟨_, _, by have h0 := World.var?_cell gER hv1 0; simpa using h0⟩⟩
end Go.Proofs.YtclhelpcjgmpmaaGreatDoor.Fs
namespace Go.Proofs.YtclhelpcjgmpmaaGreatDoor.Fs
open Go.RowKit Go.Proofs.YtclhelpcjgmpmaaGreatDoor Go.Proofs.YtclhelpcjgmpmaaGreatDoor.Plain Go.Proofs.YtclhelpcjgmpmaaGreatDoorW.PrintWords Go.Maps
set_option linter.unusedVariables false
set_option linter.unusedSimpArgs false
theorem below_grow (w : World) (k : Nat) (os : Array Obj) : Below w.heap.size w (Sort.grow (w.drewN k) os) := by
  refine ⟨rfl, rfl, rfl, by simp [Sort.grow, World.drewN], fun i hi => ?_⟩
  simp only [Sort.grow, World.drewN]
  rw [Array.getElem?_append_left hi]
theorem below_bytes (w : World) (t : ByteArray) : Below w.heap.size w (Lib.bytesWorld w 5 t) := bytes_below (Below.refl _ _) (Nat.le_refl _) _ _
theorem itoaIs (n : Int) (h0 : -9223372036854775808 ≤ n) (h1 : n ≤ 9223372036854775807) (w : World) (hG : GI w) : Calls Tryz.prog 19 #[.int .i64 n] w fun e w' => e = .returned (.string (S (Lib.itoa n))) ∧ Below w.heap.size w w' := by
  refine (Tryz.strconv_Itoa n h0 h1 w hG.tab).mono ?_
  rintro e w' ⟨rfl, k, os, rfl⟩
  exact ⟨rfl, below_grow _ _ _⟩
/-- Atoi's answer, error or not -/
def atoiVal (t : Nm) : Int := match Lib.atoiAll t with | .ok v => v | .range => Lib.atoiSat t | _ => 0
def atoiOk (t : Nm) : Bool := match Lib.atoiAll t with | .ok _ => true | _ => false
theorem atoiIs (t : Nm) (ht : t.length ≤ 1000000) (w : World) (hG : GI w) : Calls Tryz.prog 58 #[.string (S t)] w fun e w' => ∃ x : Value, e = .returned (.tuple #[.int .i64 (atoiVal t), x]) ∧ (x = .nilIface ∨ ∃ a b, x = .iface a b) ∧ ((x = .nilIface) = (atoiOk t = true)) ∧ Below w.heap.size w w' := by
  obtain ⟨⟨t1, p1, c1⟩, t2, p2, c2⟩ := hG.errs
  cases hc : Lib.atoiAll t with
  | ok v =>
    refine (Tryz.strconv_Atoi_ok (S t) (by rw [S_size]; omega) v hc w).mono ?_
    rintro e w' ⟨rfl, hw⟩
    refine ⟨.nilIface, by unfold atoiVal; rw [hc], .inl rfl, by unfold atoiOk; rw [hc]; simp, ?_⟩
    rcases hw with rfl | ⟨u, rfl⟩
    · exact Below.refl _ _
    · exact below_bytes _ _
  | range =>
    refine (Tryz.strconv_Atoi_range (S t) (by rw [S_size]; omega) hc _ w c2 (.inr ⟨_, _, rfl⟩)).mono ?_
    rintro e w' ⟨N, rfl, _, _, hb⟩
    exact ⟨_, by unfold atoiVal; rw [hc]; rfl, .inr ⟨_, _, rfl⟩, by unfold atoiOk; rw [hc]; simp, hb⟩
  | _ =>
    refine (Tryz.strconv_Atoi_syntax (S t) (by rw [S_size]; omega) ⟨(fun v h => by have h' := hc.symm.trans h; cases h'), (fun h => by have h' := hc.symm.trans h; cases h')⟩ _ w c1 (.inr ⟨_, _, rfl⟩)).mono ?_
    rintro e w' ⟨N, rfl, _, _, hb⟩
    exact ⟨_, by unfold atoiVal; rw [hc], .inr ⟨_, _, rfl⟩, by unfold atoiOk; rw [hc]; simp, hb⟩
/-- the name of any number -/
def nameI (n : Int) : Nm := if 0 ≤ n ∧ n ≤ 999999999 then nameOf n.toNat else []
theorem repeat_zero (k : Nat) : Lib.repeatL [48] k = List.replicate k 48 := by
  induction k with
  | zero => rfl
  | succ k ih => rw [Lib.repeatL, ih, List.replicate_succ]; rfl
theorem nameI_eq {n : Int} (h0 : 0 ≤ n) (h1 : n ≤ 999999999) : nameI n = nextLead ++ (List.replicate (9 - (Lib.itoa n).length) 48 ++ Lib.itoa n) ∧ (Lib.itoa n).length ≤ 9 := by
  have e : Lib.itoa n = Lib.decDigits n.toNat := by unfold Lib.itoa; rw [if_neg (by omega)]
  have hd := digN_itoa (k := 9) (n := n.toNat) (by omega) (by omega)
  rw [e]
  refine ⟨?_, hd.2⟩
  unfold nameI
  rw [if_pos ⟨h0, h1⟩]
  unfold nameOf
  rw [hd.1]
set_option maxHeartbeats 1000000 in
set_option maxRecDepth 100000 in
theorem nameIs (n : Int) (h0 : -9223372036854775808 ≤ n) (h1 : n ≤ 9223372036854775807) (w : World) (hG : GI w) : Calls Tryz.prog 9 #[.int .i64 n] w fun e w' => e = .returned (.string (S (nameI n))) ∧ Below w.heap.size w w' := by
  by_cases hn : n < 0
  · have e : nameI n = [] := by unfold nameI; rw [if_neg (by omega)]
    have HE := Aside0.mk e
    clear e
    go_enter Tryz.func9, Tryz.ntmps9
    go_wp2
    go_ret
    rw [HE.out]
    exact ⟨rfl, Below.refl _ _⟩
  by_cases hm : n > 999999999
  · have e : nameI n = [] := by unfold nameI; rw [if_neg (by omega)]
    have HE := Aside0.mk e
    clear e
    go_enter Tryz.func9, Tryz.ntmps9
    go_wp2
    go_ret
    rw [HE.out]
    exact ⟨rfl, Below.refl _ _⟩
  obtain ⟨e, hl⟩ := nameI_eq (n := n) (by omega) (by omega)
  have X := itoaIs n h0 h1 w hG
  obtain ⟨t, ht⟩ : ∃ t, Lib.itoa n = t := ⟨_, rfl⟩
  rw [ht] at X e hl
  have HE := Aside0.mk e
  have hsub : IntKind.i64.wrap (9 - (t.length : Int)) = ((9 - t.length : Nat) : Int) := by rw [IntWalk.i64_in _ (by omega)]; omega
  have HR0 : ∀ W, Calls Tryz.prog 20 #[.string ⟨#[48]⟩, .int .i64 ((9 - t.length : Nat) : Int)] W fun e w' => e = .returned (.string (S (List.replicate (9 - t.length) 48))) ∧ Below W.heap.size W w' := fun W => by
    refine (Tryz.strings_Repeat ⟨#[48]⟩ (9 - t.length) W (by omega) (by show 1 * (9 - t.length) ≤ _; omega)).mono ?_
    rintro e w' ⟨rfl, hb⟩
    refine ⟨?_, hb⟩
    rw [show ((⟨#[48]⟩ : ByteArray).data.toList) = [48] from rfl, repeat_zero]
    rfl
  have hzl : (List.replicate (9 - t.length) (48 : UInt8)).length ≤ 9 := by simp
  obtain ⟨z, hz1⟩ : ∃ z, List.replicate (9 - t.length) (48 : UInt8) = z := ⟨_, rfl⟩
  rw [hz1] at HR0 hzl
  have HZ := Aside0.mk hz1
  have HR := Aside0.mk HR0
  have hz2 : (S z).size = z.length := S_size z
  have hlead : (⟨#[110, 101, 120, 116, 45]⟩ : ByteArray).size = 5 := rfl
  clear hz1 HR0
  have hz : (S t).size = t.length := S_size t
  clear e ht h0 h1 hG
  go_enter Tryz.func9, Tryz.ntmps9
  go_wp2_with (first
    | (go_at_call 19; refine X.mono ?_; rintro e W1 ⟨rfl, hb⟩; have HB1 := Aside0.mk hb; clear hb X)
    | (go_at_call 20; refine (HR.out W1).mono ?_; rintro e W2 ⟨rfl, hb⟩; have HB2 := Aside0.mk hb; clear hb HR))
  go_ret
  rw [HE.out, HZ.out]
  refine ⟨?_, chain' HB1.out HB2.out⟩
  rw [show (⟨#[110, 101, 120, 116, 45]⟩ : ByteArray) = S nextLead from rfl, S_append, S_append, List.append_assoc]
  rfl
theorem parseUint_digits : ∀ (l : Nm) (acc : Nat), l.all isDig = true → acc * 10 ^ l.length + valN l < 1000000000000 → Lib.parseUint10 acc l = .ok (acc * 10 ^ l.length + valN l) := by
  have step : ∀ (l : Nm) (a : Nat), l.foldl (fun a c => a * 10 + (c.toNat - 48)) a = a * 10 ^ l.length + valN l := by
    intro l
    induction l with
    | nil => intro a; simp [valN]
    | cons c r ih =>
      intro a
      rw [List.foldl_cons, ih]
      show _ = a * 10 ^ (r.length + 1) + List.foldl _ (0 * 10 + (c.toNat - 48)) r
      rw [ih, Nat.zero_mul, Nat.zero_add, Nat.pow_succ, Nat.add_mul, Nat.mul_assoc, Nat.mul_comm 10 (10 ^ r.length), Nat.add_assoc]
  intro l
  induction l with
  | nil => intro acc _ _; simp [Lib.parseUint10, valN]
  | cons c r ih =>
    intro acc h hb
    rw [List.all_cons, Bool.and_eq_true] at h
    have h1 := h.1
    simp only [isDig, decide_eq_true_eq] at h1
    have e : acc * 10 ^ (c :: r).length + valN (c :: r) = (acc * 10 + (c.toNat - 48)) * 10 ^ r.length + valN r := by
      rw [← step (c :: r) acc, List.foldl_cons, step]
    have hp : 0 < 10 ^ r.length := Nat.pow_pos (by omega)
    have hle : acc * 10 + (c.toNat - 48) ≤ (acc * 10 + (c.toNat - 48)) * 10 ^ r.length := Nat.le_mul_of_pos_right _ hp
    rw [e] at hb ⊢
    rw [Lib.parseUint10, if_pos h1, if_neg (by omega), if_neg (by omega)]
    exact ih _ h.2 hb
theorem atoi_nine {t : Nm} (hl : t.length = 9) (h : t.all isDig = true) : Lib.atoiAll t = .ok (valN t : Int) := by
  cases t with
  | nil => cases hl
  | cons c r =>
    have h' := h
    rw [List.all_cons, Bool.and_eq_true] at h
    have h1 := h.1
    simp only [isDig, decide_eq_true_eq] at h1
    have hv := valN_lt h'
    rw [hl] at hv
    have hp := parseUint_digits (c :: r) 0 h' (by rw [Nat.zero_mul, Nat.zero_add]; omega)
    rw [Nat.zero_mul, Nat.zero_add] at hp
    unfold Lib.atoiAll
    simp only []
    have c1 : ¬ (c.toNat = 43 ∨ c.toNat = 45) := by omega
    have c2 : ¬ c.toNat = 45 := by omega
    rw [if_neg c1]
    unfold Lib.parseMag
    rw [if_neg (by simp), hp]
    simp only [c2, not_false_eq_true, true_and, false_and, if_false]
    rw [if_neg (by omega)]
theorem number_num {s : Nm} {n : Nat} (h : num s = some n) : Lib.hasPrefix s nextLead = true ∧ atoiOk (Lib.trimPrefix s nextLead) = true ∧ atoiVal (Lib.trimPrefix s nextLead) = n ∧ nameI n = s := by
  obtain ⟨h9, hn⟩ := nameOf_num h
  unfold num at h
  split at h
  · rename_i hc
    obtain ⟨h1, h2, h3⟩ := hc
    have e := Option.some.inj h
    have ht : Lib.trimPrefix s nextLead = s.drop 5 := by
      unfold Lib.trimPrefix Lib.hasPrefix
      rw [if_pos h1]; rfl
    rw [ht]
    have ha := atoi_nine h2 h3
    rw [e] at ha
    refine ⟨h1, by unfold atoiOk; rw [ha], by unfold atoiVal; rw [ha], ?_⟩
    unfold nameI
    rw [if_pos ⟨by omega, by omega⟩, Int.toNat_natCast]
    exact hn
  · cases h
theorem number_none {s : Nm} (h : num s = none) (hp : Lib.hasPrefix s nextLead = true) (v : Int) : nameI v ≠ s := by
  intro e
  unfold nameI at e
  split at e
  · rename_i hv
    rw [← e, num_nameOf (by omega)] at h
    cases h
  · rw [← e] at hp
    cases hp
theorem atoiVal_range (t : Nm) : -9223372036854775808 ≤ atoiVal t ∧ atoiVal t ≤ 9223372036854775807 := by
  unfold atoiVal
  cases h : Lib.atoiAll t with
  | ok v =>
    simp only []
    unfold Lib.atoiAll at h
    split at h
    · cases h
    · simp only [] at h
      split at h
      · cases h
      · cases h
      · rename_i u _
        split at h
        · cases h
        · split at h
          · cases h
          · have e := Lib.NumEnd.ok.inj h
            split at e <;> omega
  | range =>
    simp only []
    unfold Lib.atoiSat
    split <;> omega
  | _ => simp
set_option maxHeartbeats 1000000 in
set_option maxRecDepth 100000 in
theorem numberIs (s : Nm) (hs : s.length ≤ 1000000) (w : World) (hG : GI w) : Calls Tryz.prog 40 #[.string (S s)] w fun e w' => ∃ v : Int, e = .returned (.tuple #[.int .i64 v, .bool (num s).isSome]) ∧ (∀ n, num s = some n → v = n) ∧ Below w.heap.size w w' := by
  have X0 : ∀ W, Calls Tryz.prog 57 #[.string (S s), .string ⟨#[110, 101, 120, 116, 45]⟩] W fun e w' => e = .returned (.tuple #[.string (S (Lib.trimPrefix s nextLead)), .bool (Lib.hasPrefix s nextLead)]) ∧ w' = W := fun W => Tryz.strings_CutPrefix (S s) ⟨#[110, 101, 120, 116, 45]⟩ W
  have hlt : (Lib.trimPrefix s nextLead).length ≤ s.length := by
    unfold Lib.trimPrefix
    split
    · rw [List.length_drop]; omega
    · omega
  have hnum := fun n (h : num s = some n) => number_num h
  have hnone := fun (h : num s = none) hp v => number_none h hp v
  obtain ⟨t, ht⟩ : ∃ t, Lib.trimPrefix s nextLead = t := ⟨_, rfl⟩
  obtain ⟨p, hp⟩ : ∃ p, Lib.hasPrefix s nextLead = p := ⟨_, rfl⟩
  rw [ht, hp] at X0
  rw [ht] at hlt
  rw [ht, hp] at hnum
  rw [hp] at hnone
  have X1 := atoiIs t (by omega) w hG
  obtain ⟨v, hv⟩ : ∃ v, atoiVal t = v := ⟨_, rfl⟩
  obtain ⟨o, ho⟩ : ∃ o, atoiOk t = o := ⟨_, rfl⟩
  have hvr := atoiVal_range t
  rw [hv, ho] at X1
  rw [hv] at hvr
  rw [hv, ho] at hnum
  have XN := fun W (hb : Below w.heap.size w W) => nameIs v hvr.1 hvr.2 W (hG.below hb)
  have HX1 := Aside0.mk X1
  have HXN := Aside0.mk XN
  have HX0 := Aside0.mk X0
  have HNUM := Aside0.mk hnum
  have HNON := Aside0.mk hnone
  clear X0 X1 XN hnum hnone hlt ht hp hv ho hvr hG hs
  cases p with
  | false =>
    have e0 : num s = none := by
      cases h : num s with
      | none => rfl
      | some n => have := (HNUM.out _ h).1; cases this
    have HE := Aside0.mk e0
    clear e0
    go_enter Tryz.func40, Tryz.ntmps40
    go_wp2_with (first
      | (go_at_call 57; refine (HX0.out _).mono ?_; rintro e W1 ⟨rfl, rfl⟩)
      | (go_at_call 58; refine HX1.out.mono ?_; rintro e W1 ⟨x, rfl, -, -, hb⟩; have HB := Aside0.mk hb; clear hb))
    go_ret2
    rw [HE.out]
    exact ⟨v, rfl, (fun n h => by cases h), HB.out⟩
  | true =>
    cases o with
    | false =>
      have e0 : num s = none := by
        cases h : num s with
        | none => rfl
        | some n => have := (HNUM.out _ h).2.1; cases this
      have HE := Aside0.mk e0
      clear e0
      go_enter Tryz.func40, Tryz.ntmps40
      go_wp2_with (first
        | (go_at_call 57; refine (HX0.out _).mono ?_; rintro e W1 ⟨rfl, rfl⟩)
        | (go_at_call 58; refine HX1.out.mono ?_; rintro e W1 ⟨x, rfl, hx, hi, hb⟩; obtain ⟨a, b, rfl⟩ : ∃ a b, x = .iface a b := (by rcases hx with hx | hx; exact absurd (hi.mp hx) (by decide); exact hx); have HB := Aside0.mk hb; clear hb hi hx))
      go_ret2
      rw [HE.out]
      exact ⟨v, rfl, (fun n h => by cases h), HB.out⟩
    | true =>
      obtain ⟨m, hm⟩ : ∃ m, nameI v = m := ⟨_, rfl⟩
      rw [hm] at HXN
      have HM := Aside0.mk hm
      clear hm
      by_cases hms : m = s
      · have e0 : ∃ n, num s = some n ∧ v = n := by
          cases h : num s with
          | none => exact absurd (HM.out.trans hms) (HNON.out h rfl v)
          | some n => exact ⟨n, rfl, (HNUM.out _ h).2.2.1⟩
        obtain ⟨n, hn, hvn⟩ := e0
        have HE := Aside0.mk hn
        have HV := Aside0.mk hvn
        have hb1 : (m == s) = true := by simpa using hms
        clear hn hvn hms
        go_enter Tryz.func40, Tryz.ntmps40
        go_wp2_with (first
          | (go_at_call 57; refine (HX0.out _).mono ?_; rintro e W1 ⟨rfl, rfl⟩)
          | (go_at_call 58; refine HX1.out.mono ?_; rintro e W1 ⟨x, rfl, -, hi, hb⟩; obtain rfl := hi.mpr (by first | trivial | rfl); have HB := Aside0.mk hb; clear hb hi)
          | (go_at_call 9; refine (HXN.out _ HB.out).mono ?_; rintro e W2 ⟨rfl, hb⟩; have HB2 := Aside0.mk (chain' HB.out hb); clear hb))
        go_ret2
        rw [HE.out]
        exact ⟨v, rfl, (fun k h => by cases h; exact HV.out), HB2.out⟩
      · have e0 : num s = none := by
          cases h : num s with
          | none => rfl
          | some n =>
            have h1 := HNUM.out _ h
            exact absurd (HM.out.symm.trans (by rw [h1.2.2.1]; exact h1.2.2.2)) hms
        have HE := Aside0.mk e0
        have hb1 : (m == s) = false := by simpa using hms
        clear e0 hms
        go_enter Tryz.func40, Tryz.ntmps40
        go_wp2_with (first
          | (go_at_call 57; refine (HX0.out _).mono ?_; rintro e W1 ⟨rfl, rfl⟩)
          | (go_at_call 58; refine HX1.out.mono ?_; rintro e W1 ⟨x, rfl, -, hi, hb⟩; obtain rfl := hi.mpr (by first | trivial | rfl); have HB := Aside0.mk hb; clear hb hi)
          | (go_at_call 9; refine (HXN.out _ HB.out).mono ?_; rintro e W2 ⟨rfl, hb⟩; have HB2 := Aside0.mk (chain' HB.out hb); clear hb))
        go_ret2
        rw [HE.out]
        exact ⟨v, rfl, (fun n h => by cases h), HB2.out⟩
end Go.Proofs.YtclhelpcjgmpmaaGreatDoor.Fs
