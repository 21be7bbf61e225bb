/- law13: IdsOthers. -/
import Derived.Test.YtclhelpcjgmpmaaGreatDoorIdsRow
import Derived.Test.YtclhelpcjgmpmaaGreatDoorStrList
namespace Go.Proofs.YtclhelpcjgmpmaaGreatDoor.Fs
open Go.RowKit Go.Proofs.YtclhelpcjgmpmaaGreatDoor Go.Proofs.YtclhelpcjgmpmaaGreatDoor.Plain Go.Proofs.YtclhelpcjgmpmaaGreatDoorW.PrintWords Go.Maps
set_option linter.unusedVariables false
set_option linter.unusedSimpArgs false
/-- files of whatever names; the greatest number that a name says -/
def Oth (i most : Nat) (d : Disk) : Prop := On d ∧ d.now.length ≤ i ∧ (∀ p ∈ d.now, ∀ k, num p.1 = some k → k ≤ most) ∧ (most = 0 ∨ ∃ p ∈ d.now, num p.1 = some most) ∧ (∀ p ∈ d.now, rightB p.1 = true) ∧ most ≤ 999999999
theorem oth_fresh : Oth 0 0 (Disk.fresh 1000) := ⟨⟨rfl, rfl⟩, Nat.le_refl _, (fun p h => by cases h), .inl rfl, (fun p h => by cases h), by omega⟩
theorem num_lt {s : Nm} : (num s).getD 0 ≤ 999999999 := by
  cases h : num s with
  | none => simp
  | some n => have := (nameOf_num h).1; simp; omega
theorem right_names {d : Disk} {ns : List Nm} (h : d.ready ns = 0) : ∀ n ∈ ns, rightB n = true := by
  intro n hn
  unfold Disk.ready at h
  split at h
  · cases h
  · rename_i h1
    cases hb : rightB n with
    | true => rfl
    | false => exact absurd (List.any_eq_true.2 ⟨n, hn, by simp [hb]⟩) h1
theorem oth_create {i most : Nat} {d : Disk} (h : Oth i most d) (hi : i < 250) (s : Nm) (x : Nat) :
    ((d.create x s).1 ≠ 0 ∧ (d.create x s).2 = d ∧ (rightB s = true → ∃ y, (s, y) ∈ d.now)) ∨ ((d.create x s).1 = 0 ∧ Oth (i + 1) (max most ((num s).getD 0)) (d.create x s).2) := by
  obtain ⟨h1, h2, h3, h4, h5, h6⟩ := h
  unfold Disk.create
  split
  · rename_i hr
    refine .inl ⟨hr, rfl, fun hs => ?_⟩
    exact absurd (live_ready h1.1 (by simpa using hs)) hr
  · rename_i hr
    have hr' := right_names (Decidable.not_not.1 hr)
    split
    · rename_i hg
      obtain ⟨y, hy⟩ := Option.isSome_iff_exists.1 hg
      exact .inl ⟨(show (5 : Int) ≠ 0 by decide), rfl, fun _ => ⟨y, get_mem hy⟩⟩
    · rename_i hg
      rw [if_neg (by omega), on_change (d := { d with bytes := setAt d.bytes x [], firm := setAt d.firm x 0 }) h1]
      refine .inr ⟨rfl, h1, ?_, ?_, ?_, ?_, ?_⟩
      · rw [now_snoc]
        exact Nat.le_trans (length_put_le _ _ _) (by show d.now.length + 1 ≤ _; omega)
      · rw [now_snoc]
        intro p hp k hk
        rcases mem_put.1 hp with rfl | ⟨hp, _⟩
        · have hk' : num s = some k := hk
          rw [hk']
          exact Nat.le_max_right _ _
        · exact Nat.le_trans (h3 p hp k hk) (Nat.le_max_left _ _)
      · rw [now_snoc]
        have hself : (s, x) ∈ put d.now s x := mem_put.2 (.inl rfl)
        cases hn : num s with
        | none =>
          rw [Option.getD_none, Nat.max_zero]
          refine h4.imp id (fun ⟨p, hp, e⟩ => ⟨p, mem_put.2 (.inr ⟨hp, fun es => ?_⟩), e⟩)
          rw [es, hn] at e
          cases e
        | some k =>
          rw [Option.getD_some]
          rcases Nat.le_total most k with hle | hle
          · rw [Nat.max_eq_right hle]
            exact .inr ⟨_, hself, hn⟩
          · rw [Nat.max_eq_left hle]
            rcases h4 with h4 | ⟨p, hp, e⟩
            · exact .inl h4
            · by_cases es : p.1 = s
              · rw [es, hn] at e
                exact .inr ⟨_, hself, by rw [← Option.some.inj e]; exact hn⟩
              · exact .inr ⟨p, mem_put.2 (.inr ⟨hp, es⟩), e⟩
      · rw [now_snoc]
        intro p hp
        rcases mem_put.1 hp with rfl | ⟨hp, _⟩
        · exact hr' s (by simp)
        · exact h5 p hp
      · have := num_lt (s := s)
        omega
theorem oth_open {i most : Nat} {d : Disk} (h : Oth i most d) : ∃ fl, d.opened = ⟨most, most, fl⟩ ∧ Live0 d ⟨most, most, fl⟩ ∧ fl.length ≤ 1000 := by
  obtain ⟨h1, h2, h3, h4, h5, h6⟩ := h
  have hL := opened_live d
  have hb : d.opened.bound = most := by
    rcases hL.2.1 with ⟨_, e, hn⟩ | ⟨_, ⟨x, hx⟩, e⟩
    · rcases h4 with h4 | ⟨p, hp, e2⟩
      · omega
      · rw [hn p hp] at e2; cases e2
    · have l1 := h3 _ (get_mem hx) _ e
      rcases h4 with h4 | ⟨p, hp, e2⟩
      · omega
      · have := hL.1 p hp _ e2
        omega
  have e : d.opened = ⟨most, most, d.opened.file⟩ := by
    have e2 : d.opened.last = d.opened.bound := rfl
    obtain ⟨J, hJ⟩ : ∃ J, d.opened = J := ⟨_, rfl⟩
    rw [hJ] at hb e2 ⊢
    obtain ⟨a, b, c⟩ := J
    have hb' : b = most := hb
    have e2' : a = b := e2
    rw [e2', hb']
  refine ⟨d.opened.file, e, by rw [← e]; exact hL, ?_⟩
  rcases hL.2.1 with ⟨e, _⟩ | ⟨_, _, e⟩
  · rw [e]; decide
  · rw [← (nameOf_num e).2, nameOf_length]; omega
theorem oth_names {i most : Nat} {d : Disk} (h : Oth i most d) : ∀ s ∈ names d.now, s.length ≤ 1000000 := fun s hs => by
  obtain ⟨x, hx⟩ := mem_names.1 hs
  have := h.2.2.2.2.1 _ hx
  unfold rightB at this
  simp only [Bool.and_eq_true, decide_eq_true_eq] at this
  have h2 : s.length ≤ 80 := this.2.2
  omega
theorem oth_next {i most : Nat} {d : Disk} {fl : Nm} (h : Oth i most d) (hi : i < 250) (hL : Live0 d ⟨most, most, fl⟩) (x : Nat) : (d.next x ⟨most, most, fl⟩).1 = if most = 999999999 then (0, 3) else (most + 1, 0) := by
  unfold Disk.next
  rw [if_neg (by rw [h.1.1]; decide)]
  by_cases hm : most = 999999999
  · rw [if_pos hm, if_pos hm]
  · rw [if_neg hm, if_neg hm, if_pos (Nat.le_refl most)]
    rcases more_cases h.1.1 hL (Nat.le_refl _) hm (by have := h.2.1; omega) x with ⟨m1, _, _, _, m5, _⟩ | ⟨_, hn, _⟩
    · rw [if_neg (by rw [m1]; decide), m5]
    · exact absurd h.1 hn
/-- what the law reckons of some bytes -/
def kv (l : Nm) : Int := if l.all isDig = true then (valN l : Int) else -1
theorem kv_snoc (l : Nm) (c : UInt8) : kv (l ++ [c]) = if isDig c = true ∧ 0 ≤ kv l then kv l * 10 + ((c.toNat : Int) - 48) else -1 := by
  unfold kv
  rw [List.all_append]
  simp only [List.all_cons, List.all_nil, Bool.and_true]
  by_cases h1 : l.all isDig = true
  · by_cases h2 : isDig c = true
    · have h3 := h2
      simp only [isDig, decide_eq_true_eq] at h3
      rw [h1, h2]
      simp only [Bool.and_self, if_true]
      rw [if_pos ⟨trivial, by omega⟩, valN_snoc]
      omega
    · have h2' : isDig c = false := by simpa using h2
      rw [h1, h2']
      simp
  · have h1' : l.all isDig = false := by simpa using h1
    rw [h1']
    simp
theorem kv_num {s : Nm} (hl : s.length = 14) (hp : s.take 5 = nextLead) (most : Nat) : max (most : Int) (kv (s.drop 5)) = ((max most ((num s).getD 0) : Nat) : Int) := by
  have hpre : nextLead.isPrefixOf s = true := by
    rw [List.isPrefixOf_iff_prefix, ← hp]
    exact List.take_prefix 5 s
  have hd : (s.drop 5).length = 9 := by rw [List.length_drop]; omega
  unfold kv num
  by_cases h : (s.drop 5).all isDig = true
  · rw [if_pos h, if_pos ⟨hpre, hd, h⟩, Option.getD_some]
    omega
  · rw [if_neg h, if_neg (fun e => h e.2.2), Option.getD_none]
    omega
theorem num_none_len {s : Nm} (h : s.length ≠ 14 ∨ s.take 5 ≠ nextLead) : num s = none := by
  unfold num
  rw [if_neg]
  rintro ⟨h1, h2, _⟩
  rcases h with h | h
  · rw [List.length_drop] at h2
    obtain ⟨t, ht⟩ := List.isPrefixOf_iff_prefix.1 h1
    have := congrArg List.length ht
    simp only [List.length_append, nextLead, List.length_cons, List.length_nil] at this
    omega
  · obtain ⟨t, ht⟩ := List.isPrefixOf_iff_prefix.1 h1
    apply h
    rw [← ht]
    rfl
theorem kv_lt {l : Nm} {n : Nat} (h : l.length ≤ n) : -1 ≤ kv l ∧ kv l < 10 ^ n := by
  unfold kv
  have hp : (0 : Int) < 10 ^ n := by
    have := Nat.pow_pos (n := n) (show 0 < 10 by omega)
    have e : ((10 ^ n : Nat) : Int) = (10 : Int) ^ n := by simp
    omega
  split
  · rename_i hd
    have h1 := valN_lt hd
    have h2 : 10 ^ l.length ≤ 10 ^ n := Nat.pow_le_pow_right (by omega) h
    have e : ((10 ^ n : Nat) : Int) = (10 : Int) ^ n := by simp
    omega
  · omega
theorem Oth.mono {i j most : Nat} {d : Disk} (h : Oth i most d) (hij : i ≤ j) : Oth j most d := ⟨h.1, Nat.le_trans h.2.1 hij, h.2.2⟩
theorem num_digits {k : Nat} (hk : k ≤ 999999999) : num (nextLead ++ digN 9 k) = some k := num_nameOf (by omega)
theorem oth_number {i most k : Nat} {d : Disk} (h : Oth i most d) (hi : i < 250) (hk : k ≤ 999999999) (x : Nat) : Oth (i + 1) (max most k) (d.create x (nextLead ++ digN 9 k)).2 := by
  have hn := num_digits hk
  rcases oth_create h hi (nextLead ++ digN 9 k) x with ⟨_, e, hy⟩ | ⟨_, e⟩
  · obtain ⟨y, hy⟩ := hy (nameOf_right k)
    have := h.2.2.1 _ hy k hn
    rw [e, Nat.max_eq_left this]
    exact h.mono (by omega)
  · rw [hn] at e
    exact e
theorem kv_byte {s : Nm} {j : Nat} {b : UInt8} {K : Int} (hj : j < s.length) (hb : s[j] = b) (h5 : 5 ≤ j) (hK : K = kv ((s.drop 5).take (j - 5))) : (if 48 ≤ (b.toNat : Int) ∧ (b.toNat : Int) ≤ 57 ∧ 0 ≤ K then K * 10 + ((b.toNat : Int) - 48) else -1) = kv ((s.drop 5).take (j + 1 - 5)) := by
  have e : (s.drop 5).take (j + 1 - 5) = (s.drop 5).take (j - 5) ++ [b] := by
    rw [show j + 1 - 5 = (j - 5) + 1 by omega, List.take_add_one, List.getElem?_drop, show 5 + (j - 5) = j by omega, List.getElem?_eq_getElem hj, hb]
    rfl
  rw [e, kv_snoc, ← hK]
  by_cases h : isDig b = true
  · have h2 := h
    simp only [isDig, decide_eq_true_eq] at h2
    by_cases h0 : 0 ≤ K
    · rw [if_pos (show isDig b = true ∧ 0 ≤ K from ⟨h, h0⟩), if_pos (by omega)]
    · rw [if_neg (show ¬ (isDig b = true ∧ 0 ≤ K) from fun e => h0 e.2), if_neg (by omega)]
  · have h2 := h
    simp only [isDig, decide_eq_true_eq] at h2
    rw [if_neg (show ¬ (isDig b = true ∧ 0 ≤ K) from fun e => h e.1), if_neg (by omega)]
def FsW (w0 : World) (f : Nat) (d : Disk) (N : Nat) (W : World) : Prop := ∃ T, FsAt w0 f d N T W
theorem createW {w0 W : World} {f : Nat} {d : Disk} {N : Nat} (h : FsW w0 f d N W) (hN : N ≤ 1000000) (n : Nm) (hn : n.length ≤ 140737488351232) :
    Calls Tryz.prog 16 #[.pointer (some ⟨f, 0, none⟩), .string (S n)] W fun e W' => ∃ x, e = .returned (.int .i64 (d.create x n).1) ∧ FsW w0 f (d.create x n).2 (N + 1) W' := by
  obtain ⟨T, h⟩ := h
  refine (create h hN n hn).mono ?_
  rintro e W' ⟨x, -, rfl, T', h', -⟩
  exact ⟨x, rfl, T', h'⟩
theorem FsW.below {w0 W : World} {f : Nat} {d : Disk} {N : Nat} (h : FsW w0 f d N W) : Below w0.heap.size w0 W := by
  obtain ⟨T, h⟩ := h
  exact h.below'
theorem FsW.step {w0 W X : World} {f : Nat} {d : Disk} {N : Nat} (h : FsW w0 f d N W) (hb : Below W.heap.size W X) : FsW w0 f d N X := by
  obtain ⟨T, h⟩ := h
  exact ⟨T, h.step hb⟩
theorem FsW.le {w0 W : World} {f : Nat} {d : Disk} {N N' : Nat} (h : FsW w0 f d N W) (hN : N ≤ N') : FsW w0 f d N' W := by
  obtain ⟨T, h⟩ := h
  exact ⟨T, h.le' hN⟩
set_option maxHeartbeats 2000000 in
set_option maxRecDepth 100000 in
theorem idsOthers {w : World} (v : Value) (hv : StrsOf w v) (k : Int) (hk : (Lit.int .i64 k).wf = true) (hG : GI w) : Calls Tryz.prog 5 #[v, .int .i64 k] w fun e w' => e = .returned (.bool true) ∧ Below w.heap.size w w' := by
  have hr : -9223372036854775808 ≤ k ∧ k ≤ 9223372036854775807 := by
    have e1 : IntKind.i64.min = -9223372036854775808 := rfl
    have e2 : IntKind.i64.max = 9223372036854775807 := rfl
    simp only [Lit.wf, e1, e2, Bool.and_eq_true, decide_eq_true_eq] at hk
    omega
  obtain ⟨A, c, l, rfl, hln, hna⟩ := hv
  have X0 := new (Below.refl w.heap.size w) 1000
  have HG := Aside0.mk hG
  have HNA := Aside0.mk hna
  obtain ⟨n, hn⟩ : ∃ n, l.length = n := ⟨_, rfl⟩
  rw [hn] at hln ⊢
  have HN := Aside0.mk hn
  clear hG hk hna hn
  go_enter Tryz.func5, Tryz.ntmps5
  go_wp2_with (first
    | (go_at_call 11; refine X0.mono ?_; rintro e W1 ⟨f, T, rfl, h1, -, -⟩; clear X0; have H1 := Aside0.mk (show FsW w f _ 0 W1 from ⟨T, h1⟩); clear h1))
  go_loopw [6, 7, 8, 9] (fun v6 v7 v8 v9 wr => ∃ (i m : Nat) (d : Disk), i ≤ 20 ∧ i ≤ n ∧ m ≤ 999999999 ∧ v7 = .int .i64 i ∧ v6 = .int .i64 m ∧ Aside0 (Oth i m d) ∧ Aside0 (FsW w f d i wr)) (fun _ v7 _ _ _ => 20 - (intOf v7).toNat)
  case atStart => exact ⟨0, 0, Disk.fresh 1000, by omega, by omega, by omega, rfl, rfl, ⟨oth_fresh⟩, ⟨H1.out⟩⟩
  case round =>
    obtain ⟨i, m, d, hi, hin, hm, rfl, rfl, HO, HW⟩ := hrel
    clear H1
    by_cases hlt : i < n ∧ i < 20
    · have hlt1 : i < n := hlt.1
      have hlt2 : i < 20 := hlt.2
      clear hlt
      have hil : i < l.length := by rw [HN.out]; exact hlt1
      obtain ⟨a, hA, hcell, hsl⟩ := (HNA.out.below HW.out.below) i hil
      have HC := Aside0.mk (fun X (hX : Below w.heap.size w X) => (HNA.out.below hX) i hil)
      subst hA
      obtain ⟨s, hs⟩ : ∃ s, l[i] = s := ⟨_, rfl⟩
      rw [hs] at hcell hsl HC
      have XC := createW HW.out (by omega) s hsl
      clear hs hil
      go_wp2_with (fail)
      refine XC.mono ?_
      clear XC hcell
      rintro e W1 ⟨x, rfl, h1⟩
      obtain ⟨a', hA', hc1, -⟩ := HC.out W1 h1.below
      obtain rfl := Option.some.inj hA'
      have hq := oth_create HO.out (by omega) s x
      obtain ⟨r, hr⟩ : ∃ r, d.create x s = r := ⟨_, rfl⟩
      rw [hr] at h1 hq ⊢
      obtain ⟨r1, d1⟩ := r
      have hq' : (r1 ≠ 0 ∧ d1 = d) ∨ (r1 = 0 ∧ Oth (i + 1) (max m ((num s).getD 0)) d1) := hq.imp (fun h => ⟨h.1, h.2.1⟩) id
      have H1 := Aside0.mk h1
      clear hr h1 hq HW hA' HC
      rcases hq' with ⟨h0, hd⟩ | ⟨h0, hO⟩
      · have hn : (r1 == 0) = false := by simpa using h0
        have hn2 : (r1 != 0) = true := by simpa using h0
        subst hd
        clear h0
        go_wp2_with (fail)
        go_roundw
        case rel => exact ⟨i + 1, m, d1, by omega, by omega, hm, by go_num, rfl, ⟨HO.out.mono (by omega)⟩, H1⟩
        case measure => simp [intOf]; omega
      · subst h0
        have HO1 := Aside0.mk hO
        clear hO HO
        by_cases h14 : s.length = 14
        · by_cases h5 : s.take 5 = nextLead
          · have hx : (S s).extract 0 5 = ⟨#[110, 101, 120, 116, 45]⟩ := by rw [S_extract, h5]; rfl
            have hsz : (S s).size = 14 := by rw [S_size, h14]
            have HKV := Aside0.mk (kv_num h14 h5 m)
            have HL := Aside0.mk h14
            clear h5 h14 hsl
            go_wp2_with (fail)
            go_loopw [8, 9] (fun v8 v9 wr => ∃ (j : Nat) (K : Int), 5 ≤ j ∧ j ≤ 14 ∧ -1 ≤ K ∧ K < 1000000000 ∧ v9 = .int .i64 j ∧ v8 = .int .i64 K ∧ Aside0 (K = kv ((s.drop 5).take (j - 5))) ∧ wr = W1) (fun _ v9 _ => 14 - (intOf v9).toNat)
            case atStart => exact ⟨5, 0, by omega, by omega, by omega, by omega, rfl, rfl, ⟨rfl⟩, rfl⟩
            case round =>
              obtain ⟨j, K, hj5, hj, hK0, hK1, rfl, rfl, HK, rfl⟩ := hrel
              by_cases hjl : j < 14
              · have hjs : j < s.length := by rw [HL.out]; exact hjl
                obtain ⟨b, hb⟩ : ∃ b, s[j] = b := ⟨_, rfl⟩
                have hgb : ∀ pf, (S s)[j]'pf = b := fun _ => hb
                have HB := Aside0.mk (kv_byte hjs hb hj5 HK.out)
                have hb255 : (b.toNat : Int) ≤ 255 := by have := b.toNat_lt; omega
                clear hb hjs
                obtain ⟨B, hB⟩ : ∃ B : Int, (b.toNat : Int) = B := ⟨_, rfl⟩
                have hB0 : 0 ≤ B := by omega
                rw [hB] at HB hb255
                by_cases h48 : 48 ≤ B
                · by_cases h57 : B ≤ 57
                  · by_cases hK : 0 ≤ K
                    · have hHB := HB.out
                      rw [if_pos ⟨h48, h57, hK⟩] at hHB
                      have HB2 := Aside0.mk hHB
                      have hkl := (kv_lt (l := (s.drop 5).take (j + 1 - 5)) (n := 9) (by rw [List.length_take]; omega))
                      rw [← hHB] at hkl
                      clear hHB HB
                      go_wp2_with (fail)
                      go_roundw
                      case rel => exact ⟨j + 1, K * 10 + (B - 48), by omega, by omega, by omega, by omega, by go_num, by go_num, HB2, trivial⟩
                      case measure => simp [intOf]; omega
                    · have hHB := HB.out
                      rw [if_neg (by omega)] at hHB
                      have hKe : K = -1 := by omega
                      have HB2 := Aside0.mk hHB
                      subst hKe
                      clear hHB HB
                      go_wp2_with (fail)
                      go_roundw
                      case rel => exact ⟨j + 1, -1, by omega, by omega, by omega, by omega, by go_num, rfl, HB2, trivial⟩
                      case measure => simp [intOf]; omega
                  · have hHB := HB.out
                    rw [if_neg (by omega)] at hHB
                    have HB2 := Aside0.mk hHB
                    clear hHB HB
                    go_wp2_with (fail)
                    go_roundw
                    case rel => exact ⟨j + 1, -1, by omega, by omega, by omega, by omega, by go_num, rfl, HB2, trivial⟩
                    case measure => simp [intOf]; omega
                · have hHB := HB.out
                  rw [if_neg (by omega)] at hHB
                  have HB2 := Aside0.mk hHB
                  clear hHB HB
                  go_wp2_with (fail)
                  go_roundw
                  case rel => exact ⟨j + 1, -1, by omega, by omega, by omega, by omega, by go_num, rfl, HB2, trivial⟩
                  case measure => simp [intOf]; omega
              · obtain rfl : j = 14 := by omega
                have hKV := HKV.out
                have hke := HK.out
                rw [List.take_of_length_le (by rw [List.length_drop, HL.out]; exact Nat.le_refl _)] at hke
                rw [← hke] at hKV
                have HM := Aside0.mk hKV
                have hm2 := HO1.out.2.2.2.2.2
                obtain ⟨M, hM⟩ : ∃ M, max m ((num s).getD 0) = M := ⟨_, rfl⟩
                rw [hM] at HM HO1 hm2
                clear hKV hke HK HKV hM
                go_wp2_with (fail)
                go_roundw
                case rel => exact ⟨i + 1, M, d1, by omega, by omega, hm2, by go_num, congrArg (Value.int .i64) HM.out, HO1, H1⟩
                case measure => simp [intOf]; omega
          · have hx : (S s).extract 0 5 = S (s.take 5) := by rw [S_extract]; rfl
            have hsz : (S s).size = 14 := by rw [S_size, h14]
            have hq : (List.take 5 s == [110, 101, 120, 116, 45]) = false := by simpa [nextLead] using h5
            have hz5 : (S (s.take 5)).size = 5 := by rw [S_size, List.length_take]; omega
            have HE := Aside0.mk (num_none_len (.inr h5))
            clear h5 h14 hsl
            go_wp2_with (fail)
            go_roundw
            case rel => exact ⟨i + 1, m, d1, by omega, by omega, hm, by go_num, rfl, ⟨by have := HO1.out; rw [HE.out, Option.getD_none, Nat.max_zero] at this; exact this⟩, H1⟩
            case measure => simp [intOf]; omega
        · have hsz : ¬ ((S s).size : Int) = 14 := by rw [S_size]; omega
          have HE := Aside0.mk (num_none_len (.inl h14))
          have hsl2 : ((S s).size : Int) ≤ 140737488351232 := by rw [S_size]; omega
          clear h14 hsl
          go_wp2_with (fail)
          go_roundw
          case rel => exact ⟨i + 1, m, d1, by omega, by omega, hm, by go_num, rfl, ⟨by have := HO1.out; rw [HE.out, Option.getD_none, Nat.max_zero] at this; exact this⟩, H1⟩
          case measure => simp [intOf]; omega
    · have hex : ¬ (i : Int) < n ∨ ((i : Int) < n ∧ ¬ (i : Int) < 20) := by omega
      have HO2 := Aside0.mk (HO.out.mono hi)
      have HW2 := Aside0.mk (HW.out.le hi)
      clear HO HW hlt
      by_cases hkk : 0 ≤ k ∧ k ≤ 999999999
      · obtain ⟨q, rfl⟩ : ∃ q : Nat, k = q := ⟨k.toNat, by omega⟩
        have hq9 : q ≤ 999999999 := by omega
        obtain ⟨M, hM⟩ : ∃ M, max m q = M := ⟨_, rfl⟩
        have hmx : max (m : Int) (q : Int) = (M : Int) := by omega
        have hM9 : M ≤ 999999999 := by omega
        have HM := Aside0.mk hM
        have hz : (S (digN 9 q)).size = 9 := by rw [S_size, digN_length]
        have hcat : (⟨#[110, 101, 120, 116, 45]⟩ : ByteArray) ++ S (digN 9 q) = S (nextLead ++ digN 9 q) := S_append nextLead (digN 9 q)
        have HZ := Aside0.mk (show (nextLead ++ digN 9 q).length ≤ 140737488351232 by rw [List.length_append, digN_length]; decide)
        clear hM hkk hr
        rcases hex with hex | ⟨hex, hex2⟩
        all_goals
          by_cases hmax : M = 999999999
          · subst hmax
            go_wp2_with (first
              | (go_at_call 10; refine (digitsIs q hq9 _).mono ?_; rintro e W2 ⟨rfl, hb⟩; have HF2 := Aside0.mk (HW2.out.step hb); clear hb HW2)
              | (go_at_call 16; refine (createW HF2.out (by omega) (nextLead ++ digN 9 q) HZ.out).mono ?_; rintro e W3 ⟨y, rfl, h3⟩; have HOF := Aside0.mk (oth_number HO2.out (by omega) hq9 y); rw [HM.out] at HOF; obtain ⟨D, hD⟩ : ∃ D, d.create y (nextLead ++ digN 9 q) = D := ⟨_, rfl⟩; rw [hD] at HOF h3 ⊢; obtain ⟨D1, D2⟩ := D; have HF := Aside0.mk h3; clear hD h3 HF2 HO2)
              | (go_at_call 12; obtain ⟨T, h⟩ := HF.out; obtain ⟨fl, eo, hL, hfl⟩ := oth_open HOF.out; refine (openIs h (by omega) HG.out HOF.out.1.1 (by have := HOF.out.2.1; omega) (oth_names HOF.out)).mono ?_; rintro e W4 ⟨xb, rfl, hc, hx, hb⟩; rw [eo] at hc; have H4 := Aside0.mk (idsOpened h hc hx hb); have HX := Aside0.mk (Nat.le_trans h.below'.size hx); have HL := Aside0.mk hL; have HFL := Aside0.mk hfl; clear hc hx hb h eo hL hfl HF)
              | (go_at_call 15; refine (lastIs H4.out.cells').mono ?_; rintro e V7 ⟨rfl, rfl⟩)
              | (go_at_call 13; refine (nextIs H4.out (by omega) HG.out HX.out hM9 hM9 HFL.out).mono ?_; rintro e W5 ⟨x, rfl, h5⟩; rw [oth_next HOF.out (by omega) HL.out x, if_pos rfl]; have HB9 := Aside0.mk h5.below''; clear h5 H4)
              | (go_at_call 8; refine (answers _ (HG.out.below HB9.out)).mono ?_; rintro e W6 ⟨rfl, hb⟩; have HB6 := Aside0.mk (chain' HB9.out hb); clear hb))
            go_ret
            exact ⟨rfl, HB6.out⟩
          · have hmax2 : ¬ (M : Int) = 999999999 := by omega
            go_wp2_with (first
              | (go_at_call 10; refine (digitsIs q hq9 _).mono ?_; rintro e W2 ⟨rfl, hb⟩; have HF2 := Aside0.mk (HW2.out.step hb); clear hb HW2)
              | (go_at_call 16; refine (createW HF2.out (by omega) (nextLead ++ digN 9 q) HZ.out).mono ?_; rintro e W3 ⟨y, rfl, h3⟩; have HOF := Aside0.mk (oth_number HO2.out (by omega) hq9 y); rw [HM.out] at HOF; obtain ⟨D, hD⟩ : ∃ D, d.create y (nextLead ++ digN 9 q) = D := ⟨_, rfl⟩; rw [hD] at HOF h3 ⊢; obtain ⟨D1, D2⟩ := D; have HF := Aside0.mk h3; clear hD h3 HF2 HO2)
              | (go_at_call 12; obtain ⟨T, h⟩ := HF.out; obtain ⟨fl, eo, hL, hfl⟩ := oth_open HOF.out; refine (openIs h (by omega) HG.out HOF.out.1.1 (by have := HOF.out.2.1; omega) (oth_names HOF.out)).mono ?_; rintro e W4 ⟨xb, rfl, hc, hx, hb⟩; rw [eo] at hc; have H4 := Aside0.mk (idsOpened h hc hx hb); have HX := Aside0.mk (Nat.le_trans h.below'.size hx); have HL := Aside0.mk hL; have HFL := Aside0.mk hfl; clear hc hx hb h eo hL hfl HF)
              | (go_at_call 15; refine (lastIs H4.out.cells').mono ?_; rintro e V7 ⟨rfl, rfl⟩)
              | (go_at_call 13; refine (nextIs H4.out (by omega) HG.out HX.out hM9 hM9 HFL.out).mono ?_; rintro e W5 ⟨x, rfl, h5⟩; rw [oth_next HOF.out (by omega) HL.out x, if_neg hmax]; have HB9 := Aside0.mk h5.below''; clear h5 H4)
              | (go_at_call 8; refine (answers _ (HG.out.below HB9.out)).mono ?_; rintro e W6 ⟨rfl, hb⟩; have HB6 := Aside0.mk (chain' HB9.out hb); clear hb))
            go_ret
            exact ⟨rfl, HB6.out⟩
      · obtain ⟨M, rfl⟩ : ∃ M, M = m := ⟨_, rfl⟩
        have hM9 : M ≤ 999999999 := hm
        have HOF := Aside0.mk (HO2.out.mono (show 20 ≤ 21 by omega))
        have HF := HW2
        clear HO2 HW2
        have hkk2 : k < 0 ∨ (0 ≤ k ∧ ¬ k ≤ 999999999) := by omega
        clear hkk hr
        rcases hkk2 with hkk | ⟨hkk, hkk2⟩
        all_goals
          rcases hex with hex | ⟨hex, hex2⟩
          all_goals
            by_cases hmax : M = 999999999
            · subst hmax
              go_wp2_with (first
                | (go_at_call 12; obtain ⟨T, h⟩ := HF.out; obtain ⟨fl, eo, hL, hfl⟩ := oth_open HOF.out; refine (openIs h (by omega) HG.out HOF.out.1.1 (by have := HOF.out.2.1; omega) (oth_names HOF.out)).mono ?_; rintro e W4 ⟨xb, rfl, hc, hx, hb⟩; rw [eo] at hc; have H4 := Aside0.mk (idsOpened h hc hx hb); have HX := Aside0.mk (Nat.le_trans h.below'.size hx); have HL := Aside0.mk hL; have HFL := Aside0.mk hfl; clear hc hx hb h eo hL hfl HF)
                | (go_at_call 15; refine (lastIs H4.out.cells').mono ?_; rintro e V7 ⟨rfl, rfl⟩)
                | (go_at_call 13; refine (nextIs H4.out (by omega) HG.out HX.out hM9 hM9 HFL.out).mono ?_; rintro e W5 ⟨x, rfl, h5⟩; rw [oth_next HOF.out (by omega) HL.out x, if_pos rfl]; have HB9 := Aside0.mk h5.below''; clear h5 H4)
                | (go_at_call 8; refine (answers _ (HG.out.below HB9.out)).mono ?_; rintro e W6 ⟨rfl, hb⟩; have HB6 := Aside0.mk (chain' HB9.out hb); clear hb))
              go_ret
              exact ⟨rfl, HB6.out⟩
            · have hmax2 : ¬ (M : Int) = 999999999 := by omega
              go_wp2_with (first
                | (go_at_call 12; obtain ⟨T, h⟩ := HF.out; obtain ⟨fl, eo, hL, hfl⟩ := oth_open HOF.out; refine (openIs h (by omega) HG.out HOF.out.1.1 (by have := HOF.out.2.1; omega) (oth_names HOF.out)).mono ?_; rintro e W4 ⟨xb, rfl, hc, hx, hb⟩; rw [eo] at hc; have H4 := Aside0.mk (idsOpened h hc hx hb); have HX := Aside0.mk (Nat.le_trans h.below'.size hx); have HL := Aside0.mk hL; have HFL := Aside0.mk hfl; clear hc hx hb h eo hL hfl HF)
                | (go_at_call 15; refine (lastIs H4.out.cells').mono ?_; rintro e V7 ⟨rfl, rfl⟩)
                | (go_at_call 13; refine (nextIs H4.out (by omega) HG.out HX.out hM9 hM9 HFL.out).mono ?_; rintro e W5 ⟨x, rfl, h5⟩; rw [oth_next HOF.out (by omega) HL.out x, if_neg hmax]; have HB9 := Aside0.mk h5.below''; clear h5 H4)
                | (go_at_call 8; refine (answers _ (HG.out.below HB9.out)).mono ?_; rintro e W6 ⟨rfl, hb⟩; have HB6 := Aside0.mk (chain' HB9.out hb); clear hb))
              go_ret
              exact ⟨rfl, HB6.out⟩
end Go.Proofs.YtclhelpcjgmpmaaGreatDoor.Fs
