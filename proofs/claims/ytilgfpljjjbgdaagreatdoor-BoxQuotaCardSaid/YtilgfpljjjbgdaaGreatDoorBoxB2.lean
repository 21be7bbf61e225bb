/- box: Mails. box: Used. box: the steps of lay. box: lay, where every step is done. -/
import Derived.Test.YtilgfpljjjbgdaaGreatDoorBoxB1
import Derived.Test.YtilgfpljjjbgdaaGreatDoorFsB3
namespace Go.Proofs.YtilgfpljjjbgdaaGreatDoor.Fs
open Go.RowKit Go.Proofs.YtilgfpljjjbgdaaGreatDoor Go.Proofs.YtilgfpljjjbgdaaGreatDoor.Plain Go.Proofs.YtilgfpljjjbgdaaGreatDoorW.PrintWords Go.Maps
set_option linter.unusedVariables false
set_option linter.unusedSimpArgs false
/-- nine digits that are a mail's number -/
def num9 (t : Nm) : Option Nat := if t.length = 9 ∧ t.all isDig = true ∧ 0 < valN t then some (valN t) else none
def idOf (u s : Nm) : Option Nat := if boxB u = true ∧ (u ++ [43]) <+: s then num9 (s.drop (u.length + 1)) else none
def mailsL (d : Disk) (u : Nm) : List Nat := (names d.now).filterMap (idOf u)
theorem num9_digN {k : Nat} (h1 : 1 ≤ k) (h2 : k ≤ 999999999) : num9 (digN 9 k) = some k := by
  have e : valN (digN 9 k) = k := by rw [valN_digN]; exact Nat.mod_eq_of_lt (by omega)
  unfold num9
  rw [if_pos ⟨digN_length 9 k, digN_all 9 k, by omega⟩, e]
theorem num9_some {t : Nm} {k : Nat} (h : num9 t = some k) : t.length = 9 ∧ t.all isDig = true ∧ valN t = k ∧ 1 ≤ k ∧ k ≤ 999999999 ∧ digN 9 k = t := by
  unfold num9 at h
  split at h
  · rename_i hc
    obtain ⟨h1, h2, h3⟩ := hc
    cases h
    have hv := valN_lt h2
    rw [h1] at hv
    have hd := digN_valN h2
    rw [h1] at hd
    exact ⟨h1, h2, rfl, h3, by omega, hd⟩
  · cases h
theorem pre_drop {u s : Nm} (h : (u ++ [43]) <+: s) : s = u ++ 43 :: s.drop (u.length + 1) := by
  obtain ⟨r, rfl⟩ := h
  simp [List.drop_append]
theorem idOf_file {u : Nm} (hu : boxB u = true) {k : Nat} (h1 : 1 ≤ k) (h2 : k ≤ 999999999) : idOf u (fileN u 43 k) = some k := by
  have hp : (u ++ [43]) <+: fileN u 43 k := ⟨digN 9 k, by unfold fileN; simp⟩
  unfold idOf
  rw [if_pos ⟨hu, hp⟩]
  have e : (fileN u 43 k).drop (u.length + 1) = digN 9 k := by unfold fileN; simp [List.drop_append]
  rw [e, num9_digN h1 h2]
theorem idOf_some {u s : Nm} {k : Nat} (h : idOf u s = some k) : boxB u = true ∧ (u ++ [43]) <+: s ∧ s = fileN u 43 k ∧ 1 ≤ k ∧ k ≤ 999999999 ∧ (s.drop (u.length + 1)).length = 9 ∧ (s.drop (u.length + 1)).all isDig = true ∧ valN (s.drop (u.length + 1)) = k := by
  unfold idOf at h
  split at h
  · rename_i hc
    obtain ⟨a1, a2, a3, a4, a5, a6⟩ := num9_some h
    refine ⟨hc.1, hc.2, ?_, a4, a5, a1, a2, a3⟩
    unfold fileN
    rw [a6]
    exact pre_drop hc.2
  · cases h
theorem parse_lt : ∀ (l : Nm) (a n : Nat), Lib.parseUint10 a l = .ok n → n < (a + 1) * 10 ^ l.length
  | [], a, n, h => by
    rw [Lib.parseUint10] at h
    cases h
    simp
  | c :: r, a, n, h => by
    rw [Lib.parseUint10] at h
    split at h
    · rename_i hc
      split at h
      · cases h
      · split at h
        · cases h
        · have ih := parse_lt r _ n h
          refine Nat.lt_of_lt_of_le ih ?_
          rw [List.length_cons, Nat.pow_succ, Nat.mul_comm (10 ^ r.length) 10, ← Nat.mul_assoc]
          exact Nat.mul_le_mul_right _ (by omega)
    · cases h
theorem mag_lt {l : Nm} {n : Nat} (h : Lib.parseMag l = .ok n) : n < 10 ^ l.length := by
  unfold Lib.parseMag at h
  split at h
  · cases h
  · have := parse_lt l 0 n h
    simpa using this
theorem atoi_lt {t : Nm} (hl : t.length = 9) (ho : atoiOk t = true) : atoiVal t ≤ 999999999 := by
  have hv : ∀ v, Lib.atoiAll t = .ok v → v ≤ 999999999 := by
    intro v h
    unfold Lib.atoiAll at h
    split at h
    · cases h
    · rename_i c r
      simp only [] at h
      have hr : r.length = 8 := by simpa using hl
      split at h
      · cases h
      · cases h
      · rename_i u hu
        have hu9 : u < 10 ^ 9 := by
          split at hu
          · have := mag_lt hu
            rw [hr] at this
            omega
          · have := mag_lt hu
            rw [hl] at this
            exact this
        split at h
        · cases h
        · split at h
          · cases h
          · have e := Lib.NumEnd.ok.inj h
            split at e <;> omega
  unfold atoiVal
  unfold atoiOk at ho
  cases h : Lib.atoiAll t with
  | ok v => exact hv v h
  | range => rw [h] at ho; cases ho
  | _ => simp
/-- what the tests of the loop say -/
theorem mails_test (u s : Nm) (p o : Bool) (t : Nm) (v : Int) (hp : Lib.hasPrefix s (u ++ [43]) = p) (ht : Lib.trimPrefix s (u ++ [43]) = t) (ho : atoiOk t = o) (hv : atoiVal t = v) :
    (∀ k, idOf u s = some k → p = true ∧ o = true ∧ boxB u = true ∧ 0 < v ∧ t.length = 9 ∧ v = k ∧ fileN u 43 k = s) ∧ (∀ k : Nat, boxB u = true → 1 ≤ k → k ≤ 999999999 → fileN u 43 k = s → idOf u s = some k) := by
  refine ⟨fun k h => ?_, fun k h0 h1 h2 h3 => by rw [← h3]; exact idOf_file h0 h1 h2⟩
  obtain ⟨a0, a1, a2, a3, a4, a5, a6, a7⟩ := idOf_some h
  have hpt : p = true := by
    rw [← hp]
    unfold Lib.hasPrefix
    simpa [List.isPrefixOf_iff_prefix] using a1
  have htd : t = s.drop (u.length + 1) := by
    rw [← ht]
    unfold Lib.trimPrefix
    rw [hp, hpt]
    simp
  rw [← htd] at a5 a6 a7
  have hn := atoi_nine a5 a6
  refine ⟨hpt, by rw [← ho]; unfold atoiOk; rw [hn], a0, ?_, a5, ?_, a2.symm⟩
  · rw [← hv]; unfold atoiVal; rw [hn]; show (0 : Int) < (valN t : Int); omega
  · rw [← hv]; unfold atoiVal; rw [hn]; show (valN t : Int) = k; omega
theorem infoInt : (Tryz.prog.info? 3).map (fun i => (i.zero, i.size, i.bytes)) = some (some (.int .i64 0), 1, 8) := by kernel_rfl
def ints (l : List Nat) : List Value := l.map fun n : Nat => .int .i64 (n : Int)
theorem ints_append (l r : List Nat) : ints (l ++ r) = ints l ++ ints r := by simp [ints]
/-- a list of numbers that the call owns -/
structure IRow (w0 : World) (v : Value) (l : List Nat) (W : World) : Prop where
  row : W.ownsRow w0.heap.size 3 1 v l.length (ints l)
  below : Below w0.heap.size w0 W
theorem IRow.step {w0 W X : World} {v : Value} {l : List Nat} (h : IRow w0 v l W) (hb : Below W.heap.size W X) : IRow w0 v l X :=
  ⟨own_move h.row (fun k hk => hb.block k (h.row.lt k hk).2), h.below.trans (hb.mono h.below.size)⟩
theorem IRow.nil {w0 W : World} (hb : Below w0.heap.size w0 W) : IRow w0 (.slice none 0 0) [] W := ⟨World.ownsRow_nil _ _ _ _, hb⟩
/-- 'append(l, n)' -/
theorem appendI {w0 X : World} {v : Value} {l : List Nat} (h : IRow w0 v l X) (s : Nat) (hn : l.length ≤ 1000000000) {ops : Array Oper} {rest : List Oper} {o : Oper} {a : Act} {Q : Exit → Act → World → Prop} (hgd : o.guard = none) (x y : Operand)
    (ho : o.op = .call { callee := .builtin .append, args := #[x, y], argTypes := #[40, 40] }) (hx : a.eval x = v) (ad : Addr) (c : Nat) (hy : a.eval y = .slice (some ad) 1 c)
    (hc : ∀ j u, [Value.int .i64 (s : Int)][j]? = some u → X.cell? (ad.add j) = some u)
    (hK : ∀ v1 w1, IRow w0 v1 (l ++ [s]) w1 → wpList Tryz.prog ops Q rest (a.put o.dst v1) w1) : wpList Tryz.prog ops Q (o :: rest) a X := by
  obtain ⟨i0, hi, hzz⟩ := Option.map_eq_some_iff.1 infoInt
  simp only [Prod.mk.injEq] at hzz
  obtain ⟨hz0, hz1, hz2⟩ := hzz
  refine wpList_append_own_at (P := Tryz.prog) _ hgd x y 40 ho w0.heap.size 3 i0 (.int .i64 0) 1 8 Tryz.underlying40 hi hz0 hz1 hz2 rfl (by decide) v l.length (ints l) hx h.row ad 1 c [.int .i64 (s : Int)] hy rfl hc (by intro u hu; simp only [List.mem_singleton] at hu; subst hu; rfl) (by simp only [maxLen]; omega) (by omega) h.below.size ?_
  intro v1 w1 h1 h2 _ _
  refine hK v1 w1 ⟨?_, h.below.grown h2 h.below.size (fun k hk => ?_)⟩
  · rw [List.length_append, ints_append]
    exact h1
  · rcases h.row.2 with ⟨rfl, _⟩ | ⟨g, cap, cur, rfl, hg, _⟩
    · cases hk
    · cases hk; exact hg
theorem fm_succ (g : Nm → Option Nat) {l : List Nm} {i : Nat} (h : i < l.length) : (l.take (i + 1)).filterMap g = (l.take i).filterMap g ++ (g l[i]).toList := by
  rw [List.take_add_one, List.getElem?_eq_getElem h, List.filterMap_append]
  congr 1
theorem fm_len (g : Nm → Option Nat) (l : List Nm) : (l.filterMap g).length ≤ l.length := List.length_filterMap_le _ _
set_option maxHeartbeats 2000000 in
set_option maxRecDepth 100000 in
/-- the loop over any names -/
theorem mailsIs (p : Option Addr) (ns : List Nm) (W0 : World) (XL : ∀ W, Below W0.heap.size W0 W → Calls Tryz.prog 13 #[.pointer p] W fun e W' => ∃ (A : Option Addr) (c : Nat), e = .returned (.slice A ns.length c) ∧ NamesAt W' A ns ∧ Below W.heap.size W W') (hns : ns.length ≤ 1000000) (hnl : ∀ s ∈ ns, s.length ≤ 1000000) (u : Nm) (hu : u.length ≤ 500000) (hG : GI W0) :
    Calls Tryz.prog 14 #[.pointer p, .string (S u)] W0 fun e W' => ∃ v, e = .returned v ∧ IRow W0 v (ns.filterMap (idOf u)) W' := by
  have X0 := XL W0 (Below.refl _ _)
  have HG := Aside0.mk hG
  have HNL := Aside0.mk hnl
  have HB0 := Aside0.mk (Below.refl W0.heap.size W0)
  clear XL hG hnl
  go_enter Tryz.func14, Tryz.ntmps14
  go_wp2_with (go_at_call 13; refine X0.mono ?_; rintro e W1 ⟨A, c, rfl, hn, hb⟩; have HN1 := Aside0.mk hn; have HB1 := Aside0.mk hb; clear hn hb X0)
  go_loopw [5, 7, 8, 9, 10, 11, 15] (fun v5 v7 v8 v9 v10 v11 v15 wr => ∃ i : Nat, i ≤ ns.length ∧ v15 = .int .i64 i ∧ Aside0 (IRow W1 v5 ((ns.take i).filterMap (idOf u)) wr)) (fun _ _ _ _ _ _ v15 _ => ns.length - (intOf v15).toNat)
  case atStart => exact ⟨0, by omega, rfl, ⟨IRow.nil (Below.refl _ _)⟩⟩
  case round =>
    obtain ⟨i, hi, rfl, HR⟩ := hrel
    by_cases hlt : i < ns.length
    · obtain ⟨ad, hA1, hcell, -⟩ := (HN1.out.below HR.out.below) i hlt
      have hsl := HNL.out _ (List.getElem_mem hlt)
      have HT := Aside0.mk (fm_succ (idOf u) hlt)
      have HLE := Aside0.mk (show ((ns.take i).filterMap (idOf u)).length ≤ 1000000000 by have := fm_len (idOf u) (ns.take i); rw [List.length_take] at this; omega)
      obtain ⟨s, hs⟩ : ∃ s, ns[i] = s := ⟨_, rfl⟩
      rw [hs] at hcell hsl HT
      subst hA1
      have hgw : GI wr := HG.out.below (chain' HB1.out HR.out.below)
      have HX0 := Aside0.mk (fun X => show Calls Tryz.prog 28 #[.string (S s), .string (S u ++ S [43])] X (fun e w' => e = .returned (.tuple #[.string (S (Lib.trimPrefix s (u ++ [43]))), .bool (Lib.hasPrefix s (u ++ [43]))]) ∧ w' = X) from by rw [S_append]; exact Tryz.strings_CutPrefix (S s) (S (u ++ [43])) X)
      have hlt2 : (Lib.trimPrefix s (u ++ [43])).length ≤ s.length := by
        unfold Lib.trimPrefix
        split
        · rw [List.length_drop]; omega
        · omega
      have hone := oneByte wr 43
      have hone2 : (convert 27 9 (.slice (some ⟨wr.heap.size, 0, none⟩) 1 1)).run Tryz.prog (wr.alloc (.cells #[.int .u8 43] 5)) = .ok (.string (S [43])) (wr.alloc (.cells #[.int .u8 43] 5)) := hone
      obtain ⟨p', hp⟩ : ∃ p, Lib.hasPrefix s (u ++ [43]) = p := ⟨_, rfl⟩
      obtain ⟨t, ht⟩ : ∃ t, Lib.trimPrefix s (u ++ [43]) = t := ⟨_, rfl⟩
      obtain ⟨o, ho⟩ : ∃ o, atoiOk t = o := ⟨_, rfl⟩
      obtain ⟨v, hv⟩ : ∃ v, atoiVal t = v := ⟨_, rfl⟩
      have hvl := fun (h9 : t.length = 9) (hoo : o = true) => (by have := atoi_lt h9 (ho.trans hoo); rw [hv] at this; exact this : v ≤ 999999999)
      have HTEST := Aside0.mk (mails_test u s p' o t v hp ht ho hv)
      rw [hp, ht] at HX0
      rw [ht] at hlt2
      have HX1 := Aside0.mk (fun (X : World) (hX : Below wr.heap.size wr X) => atoiIs t (by omega) X (hgw.below hX))
      simp only [hv, ho] at HX1
      have HXR := Aside0.mk (fun (X : World) (hX : Below wr.heap.size wr X) => rightIs u hu X (hgw.below hX))
      obtain ⟨b, hb⟩ : ∃ b, boxB u = b := ⟨_, rfl⟩
      rw [hb] at HXR HTEST
      have hz1 : (S u).size = u.length := S_size u
      have hz2 : (S [43]).size = 1 := rfl
      have hz3 : (S t).size = t.length := S_size t
      have HNAME := Aside0.mk (fun (k : Nat) (h : k ≤ 999999999) (X : World) (hX : Below wr.heap.size wr X) => boxNameIs u (by omega) 43 k h X (hgw.below hX))
      clear hs hp ht ho hv hb hsl hlt2 hone hgw
      by_cases hall : p' = true ∧ o = true ∧ b = true ∧ 0 < v ∧ t.length = 9 ∧ fileN u 43 v.toNat = s
      · obtain ⟨rfl, rfl, rfl, h4, h5, h6⟩ := hall
        have hv9 := hvl h5 rfl
        obtain ⟨k, rfl⟩ : ∃ k : Nat, v = k := ⟨v.toNat, by omega⟩
        rw [Int.toNat_natCast] at h6
        have HS := Aside0.mk (HTEST.out.2 k rfl (by omega) (by omega) h6)
        have HXN := Aside0.mk (fun (X : World) (hX : Below wr.heap.size wr X) => show Calls Tryz.prog 21 #[.string (S u), .int .u8 43, .int .i64 (k : Int)] X (fun e w' => e = .returned (.string (S (fileN u 43 k))) ∧ Below X.heap.size X w') from HNAME.out k (by omega) X hX)
        have hbt : (s == s) = true := by simp
        rw [h6] at HXN
        clear hvl HTEST h6 hv9 HNAME
        go_wp2_with (first
  | (go_at_call 28; refine (HX0.out _).mono ?_; rintro e W2 ⟨rfl, rfl⟩)
  | (go_at_call 29; refine (HX1.out _ (below_alloc (Below.refl _ _) _)).mono ?_; rintro e W3 ⟨x, rfl, hx, hi, hb⟩; obtain rfl := hi.mpr (by first | trivial | rfl); have HB3 := Aside0.mk (chain' (W := wr) (below_alloc (Below.refl _ _) _) hb); clear hb hi hx)
  | (go_at_call 19; refine (HXR.out _ HB3.out).mono ?_; rintro e W4 ⟨rfl, hb⟩; have HB4 := Aside0.mk (chain' HB3.out hb); clear hb)
  | (go_at_call 21; refine (HXN.out _ HB4.out).mono ?_; rintro e W5 ⟨rfl, hb⟩; have HB5 := Aside0.mk (chain' HB4.out hb); clear hb)
  | (at_builtin; refine appendI (HR.out.step (below_alloc HB5.out _)) k HLE.out rfl _ _ rfl rfl _ 1 rfl (cell_one_new _ _ _) ?_; rintro v1 W6 h; have HR6 := Aside0.mk h; clear h))
        go_roundw
        case rel => exact ⟨i + 1, by omega, by go_num, ⟨by rw [HT.out, HS.out]; exact HR6.out⟩⟩
        case measure => simp [intOf] <;> omega
      · have HNO := Aside0.mk (show (idOf u s).toList = [] by
          cases hk : idOf u s with
          | none => rfl
          | some k => exact absurd (by obtain ⟨a1, a2, a3, a4, a5, a6, a7⟩ := HTEST.out.1 k hk; exact ⟨a1, a2, a3, a4, a5, by rw [a6, Int.toNat_natCast]; exact a7⟩) hall)
        clear HTEST
        have HT2 := Aside0.mk (show (ns.take (i + 1)).filterMap (idOf u) = (ns.take i).filterMap (idOf u) by rw [HT.out, HNO.out, List.append_nil])
        clear HT HNO
        cases p' with
        | false =>
          clear hall hvl HNAME
          go_wp2_with (first
            | (go_at_call 28; refine (HX0.out _).mono ?_; rintro e W2 ⟨rfl, rfl⟩)
            | (go_at_call 29; refine (HX1.out _ (below_alloc (Below.refl _ _) _)).mono ?_; rintro e W3 ⟨x, rfl, hx, hi, hb⟩; obtain ⟨x', hx'⟩ : ∃ x', x = x' := ⟨_, rfl⟩; have HB3 := Aside0.mk (chain' (W := wr) (below_alloc (Below.refl _ _) _) hb); clear hb hi hx)
            | (go_at_call 19; refine (HXR.out _ HB3.out).mono ?_; rintro e W4 ⟨rfl, hb⟩; have HB4 := Aside0.mk (chain' HB3.out hb); clear hb)
            | (go_at_call 21; refine (HXN.out _ HB4.out).mono ?_; rintro e W5 ⟨rfl, hb⟩; have HB5 := Aside0.mk (chain' HB4.out hb); clear hb))
          go_roundw
          case rel => exact ⟨i + 1, by omega, by go_num, ⟨by rw [HT2.out]; exact HR.out.step HB3.out⟩⟩
          case measure => simp [intOf] <;> omega
        | true =>
          cases o with
          | false =>
            clear hall hvl HNAME
            go_wp2_with (first
              | (go_at_call 28; refine (HX0.out _).mono ?_; rintro e W2 ⟨rfl, rfl⟩)
              | (go_at_call 29; refine (HX1.out _ (below_alloc (Below.refl _ _) _)).mono ?_; rintro e W3 ⟨x, rfl, hx, hi, hb⟩; obtain ⟨ea, eb, rfl⟩ : ∃ a b, x = .iface a b := (by rcases hx with hx | hx; exact absurd (hi.mp hx) (by decide); exact hx); have HB3 := Aside0.mk (chain' (W := wr) (below_alloc (Below.refl _ _) _) hb); clear hb hi hx)
              | (go_at_call 19; refine (HXR.out _ HB3.out).mono ?_; rintro e W4 ⟨rfl, hb⟩; have HB4 := Aside0.mk (chain' HB3.out hb); clear hb)
              | (go_at_call 21; refine (HXN.out _ HB4.out).mono ?_; rintro e W5 ⟨rfl, hb⟩; have HB5 := Aside0.mk (chain' HB4.out hb); clear hb))
            go_roundw
            case rel => exact ⟨i + 1, by omega, by go_num, ⟨by rw [HT2.out]; exact HR.out.step HB3.out⟩⟩
            case measure => simp [intOf] <;> omega
          | true =>
            cases b with
            | false =>
              clear hall hvl HNAME
              go_wp2_with (first
                | (go_at_call 28; refine (HX0.out _).mono ?_; rintro e W2 ⟨rfl, rfl⟩)
                | (go_at_call 29; refine (HX1.out _ (below_alloc (Below.refl _ _) _)).mono ?_; rintro e W3 ⟨x, rfl, hx, hi, hb⟩; obtain rfl := hi.mpr (by first | trivial | rfl); have HB3 := Aside0.mk (chain' (W := wr) (below_alloc (Below.refl _ _) _) hb); clear hb hi hx)
                | (go_at_call 19; refine (HXR.out _ HB3.out).mono ?_; rintro e W4 ⟨rfl, hb⟩; have HB4 := Aside0.mk (chain' HB3.out hb); clear hb)
                | (go_at_call 21; refine (HXN.out _ HB4.out).mono ?_; rintro e W5 ⟨rfl, hb⟩; have HB5 := Aside0.mk (chain' HB4.out hb); clear hb))
              go_roundw
              case rel => exact ⟨i + 1, by omega, by go_num, ⟨by rw [HT2.out]; exact HR.out.step HB4.out⟩⟩
              case measure => simp [intOf] <;> omega
            | true =>
              by_cases h4 : 0 < v
              · by_cases h5 : t.length = 9
                · have hv9 := hvl h5 rfl
                  obtain ⟨k, rfl⟩ : ∃ k : Nat, v = k := ⟨v.toNat, by omega⟩
                  have hne : fileN u 43 k ≠ s := fun e => hall ⟨rfl, rfl, rfl, h4, h5, by rw [Int.toNat_natCast]; exact e⟩
                  have HXN := Aside0.mk (fun (X : World) (hX : Below wr.heap.size wr X) => show Calls Tryz.prog 21 #[.string (S u), .int .u8 43, .int .i64 (k : Int)] X (fun e w' => e = .returned (.string (S (fileN u 43 k))) ∧ Below X.heap.size X w') from HNAME.out k (by omega) X hX)
                  obtain ⟨F, hF⟩ : ∃ F, fileN u 43 k = F := ⟨_, rfl⟩
                  rw [hF] at HXN hne
                  have hbf : (F == s) = false := by simpa using hne
                  clear hall hvl HNAME hne hF hv9
                  go_wp2_with (first
                    | (go_at_call 28; refine (HX0.out _).mono ?_; rintro e W2 ⟨rfl, rfl⟩)
                    | (go_at_call 29; refine (HX1.out _ (below_alloc (Below.refl _ _) _)).mono ?_; rintro e W3 ⟨x, rfl, hx, hi, hb⟩; obtain rfl := hi.mpr (by first | trivial | rfl); have HB3 := Aside0.mk (chain' (W := wr) (below_alloc (Below.refl _ _) _) hb); clear hb hi hx)
                    | (go_at_call 19; refine (HXR.out _ HB3.out).mono ?_; rintro e W4 ⟨rfl, hb⟩; have HB4 := Aside0.mk (chain' HB3.out hb); clear hb)
                    | (go_at_call 21; refine (HXN.out _ HB4.out).mono ?_; rintro e W5 ⟨rfl, hb⟩; have HB5 := Aside0.mk (chain' HB4.out hb); clear hb))
                  go_roundw
                  case rel => exact ⟨i + 1, by omega, by go_num, ⟨by rw [HT2.out]; exact HR.out.step HB5.out⟩⟩
                  case measure => simp [intOf] <;> omega
                · have h5' : ((t.length : Int) == 9) = false := by simp only [beq_eq_false_iff_ne, ne_eq]; omega
                  clear hall hvl HNAME h5
                  go_wp2_with (first
                    | (go_at_call 28; refine (HX0.out _).mono ?_; rintro e W2 ⟨rfl, rfl⟩)
                    | (go_at_call 29; refine (HX1.out _ (below_alloc (Below.refl _ _) _)).mono ?_; rintro e W3 ⟨x, rfl, hx, hi, hb⟩; obtain rfl := hi.mpr (by first | trivial | rfl); have HB3 := Aside0.mk (chain' (W := wr) (below_alloc (Below.refl _ _) _) hb); clear hb hi hx)
                    | (go_at_call 19; refine (HXR.out _ HB3.out).mono ?_; rintro e W4 ⟨rfl, hb⟩; have HB4 := Aside0.mk (chain' HB3.out hb); clear hb)
                    | (go_at_call 21; refine (HXN.out _ HB4.out).mono ?_; rintro e W5 ⟨rfl, hb⟩; have HB5 := Aside0.mk (chain' HB4.out hb); clear hb))
                  go_roundw
                  case rel => exact ⟨i + 1, by omega, by go_num, ⟨by rw [HT2.out]; exact HR.out.step HB4.out⟩⟩
                  case measure => simp [intOf] <;> omega
              · clear hall hvl HNAME
                go_wp2_with (first
                  | (go_at_call 28; refine (HX0.out _).mono ?_; rintro e W2 ⟨rfl, rfl⟩)
                  | (go_at_call 29; refine (HX1.out _ (below_alloc (Below.refl _ _) _)).mono ?_; rintro e W3 ⟨x, rfl, hx, hi, hb⟩; obtain rfl := hi.mpr (by first | trivial | rfl); have HB3 := Aside0.mk (chain' (W := wr) (below_alloc (Below.refl _ _) _) hb); clear hb hi hx)
                  | (go_at_call 19; refine (HXR.out _ HB3.out).mono ?_; rintro e W4 ⟨rfl, hb⟩; have HB4 := Aside0.mk (chain' HB3.out hb); clear hb)
                  | (go_at_call 21; refine (HXN.out _ HB4.out).mono ?_; rintro e W5 ⟨rfl, hb⟩; have HB5 := Aside0.mk (chain' HB4.out hb); clear hb))
                go_roundw
                case rel => exact ⟨i + 1, by omega, by go_num, ⟨by rw [HT2.out]; exact HR.out.step HB4.out⟩⟩
                case measure => simp [intOf] <;> omega
    · obtain rfl : i = ns.length := by omega
      have hr := HR.out
      rw [List.take_length] at hr
      have HR2 := Aside0.mk hr
      clear HR hr
      go_wp2
      go_ret
      exact ⟨_, rfl, ownsRow_base HR2.out.row HB1.out.size, chain' HB1.out HR2.out.below⟩
end Go.Proofs.YtilgfpljjjbgdaaGreatDoor.Fs
namespace Go.Proofs.YtilgfpljjjbgdaaGreatDoor.Fs
open Go.RowKit Go.Proofs.YtilgfpljjjbgdaaGreatDoor Go.Proofs.YtilgfpljjjbgdaaGreatDoor.Plain Go.Proofs.YtilgfpljjjbgdaaGreatDoorW.PrintWords Go.Maps
set_option linter.unusedVariables false
set_option linter.unusedSimpArgs false
def sumL (rd : Nat → List UInt8) (l : List Nat) : Nat := (l.map fun k => (rd k).length).sum
theorem sumL_succ (rd : Nat → List UInt8) {l : List Nat} {i : Nat} (h : i < l.length) : sumL rd (l.take (i + 1)) = sumL rd (l.take i) + (rd l[i]).length := by
  unfold sumL
  rw [List.take_add_one, List.getElem?_eq_getElem h, List.map_append, List.sum_append]
  simp only [Option.toList_some, List.map_cons, List.map_nil, List.sum_cons, List.sum_nil, Nat.add_zero]
theorem sumL_le (rd : Nat → List UInt8) : ∀ (l : List Nat), (∀ k ∈ l, (rd k).length ≤ 1000000) → sumL rd l ≤ 1000000 * l.length
  | [], _ => by simp [sumL]
  | k :: l, h => by
    have h1 := sumL_le rd l (fun j hj => h j (by simp [hj]))
    have h2 := h k (by simp)
    simp only [sumL, List.map_cons, List.sum_cons, List.length_cons] at h1 ⊢
    omega
theorem ints_get (l : List Nat) (i : Nat) (h : i < l.length) : (ints l)[i]? = some (.int .i64 (l[i] : Int)) := by
  simp [ints, h]
set_option maxHeartbeats 1000000 in
set_option maxRecDepth 100000 in
theorem usedLoop (p : Option Addr) (u : Nm) (ids : List Nat) (rd : Nat → List UInt8) (W0 : World)
    (XM : Calls Tryz.prog 14 #[.pointer p, .string (S u)] W0 fun e W' => ∃ v, e = .returned v ∧ IRow W0 v ids W')
    (XR : ∀ k ∈ ids, ∀ W, Below W0.heap.size W0 W → Calls Tryz.prog 9 #[.pointer p, .string (S u), .int .i64 (k : Int)] W fun e W' => ∃ v b, e = .returned (.tuple #[v, .bool b]) ∧ RdOf W (rd k) v W')
    (hl : ∀ k ∈ ids, (rd k).length ≤ 1000000) (hn : ids.length ≤ 1000000) :
    Calls Tryz.prog 11 #[.pointer p, .string (S u)] W0 fun e W' => e = .returned (.int .i64 (sumL rd ids : Int)) ∧ Below W0.heap.size W0 W' := by
  have HXR := Aside0.mk XR
  have HL := Aside0.mk hl
  clear XR hl
  go_enter Tryz.func11, Tryz.ntmps11
  go_wp2_with (go_at_call 14; refine XM.mono ?_; rintro e W1 ⟨v, rfl, hm⟩; obtain ⟨A, c, rfl⟩ := own_slice hm.row; have HM1 := Aside0.mk hm; clear hm XM)
  go_loopw [5, 7, 8, 9, 14] (fun v5 v7 v8 v9 v14 wr => ∃ i : Nat, i ≤ ids.length ∧ v14 = .int .i64 i ∧ v5 = .int .i64 (sumL rd (ids.take i) : Int) ∧ Aside0 (IRow W0 (.slice A ids.length c) ids wr)) (fun _ _ _ _ v14 _ => ids.length - (intOf v14).toNat)
  case atStart => exact ⟨0, by omega, rfl, rfl, HM1⟩
  case round =>
    obtain ⟨i, hi, rfl, rfl, HM⟩ := hrel
    by_cases hlt : i < ids.length
    · obtain ⟨g, hA, hcell, -⟩ := rowCell HM.out.row i hlt (ints_get ids i hlt)
      have XR1 := HXR.out _ (List.getElem_mem hlt) wr HM.out.below
      have hk := HL.out _ (List.getElem_mem hlt)
      have HS := Aside0.mk (sumL_succ rd hlt)
      have hs := sumL_le rd (ids.take i) (fun k hk => HL.out k (List.mem_of_mem_take hk))
      rw [List.length_take] at hs
      obtain ⟨k, hke⟩ : ∃ k, ids[i] = k := ⟨_, rfl⟩
      obtain ⟨s, hse⟩ : ∃ s, sumL rd (ids.take i) = s := ⟨_, rfl⟩
      obtain ⟨bs, hbs⟩ : ∃ bs, rd k = bs := ⟨_, rfl⟩
      rw [hke] at hcell XR1 hk HS
      rw [hse] at HS hs ⊢
      rw [hbs] at XR1 hk HS
      have hs2 : s ≤ 1000000000000 := by
        have : 1000000 * min i ids.length ≤ 1000000 * 1000000 := Nat.mul_le_mul_left _ (by omega)
        omega
      subst hA
      have hcell2 : wr.cell? ((⟨g, 0, none⟩ : Addr).add i) = some (.int .i64 (k : Int)) := by
        have h5 : (⟨g, 0, none⟩ : Addr).add i = ⟨g, i, none⟩ := by unfold Addr.add; split <;> simp_all
        rw [h5]; exact hcell
      clear hke hse hbs hs
      go_wp2_with (go_at_call 9; refine XR1.mono ?_; rintro e W2 ⟨v2, b2, rfl, ho, hb⟩; obtain ⟨A2, c2, rfl⟩ := own_slice ho; have hBL := B_length bs; rw [hBL]; have HB2 := Aside0.mk hb; clear hb ho XR1 hBL)
      go_roundw
      case rel => exact ⟨i + 1, by omega, by go_num, by rw [HS.out]; go_num, ⟨HM.out.step HB2.out⟩⟩
      case measure => simp [intOf] <;> omega
    · obtain rfl : i = ids.length := by omega
      rw [List.take_length]
      go_wp2
      go_ret
      exact ⟨rfl, HM.out.below⟩
end Go.Proofs.YtilgfpljjjbgdaaGreatDoor.Fs
namespace Go.Proofs.YtilgfpljjjbgdaaGreatDoor.Fs
open Go.RowKit Go.Proofs.YtilgfpljjjbgdaaGreatDoor Go.Proofs.YtilgfpljjjbgdaaGreatDoor.Plain Go.Proofs.YtilgfpljjjbgdaaGreatDoorW.PrintWords Go.Maps
set_option linter.unusedVariables false
set_option linter.unusedSimpArgs false
/-- a post of a write -/
def Wrote (w0 : World) (f : Nat) (d' : Disk) (N : Nat) (T : Nat → Prop) (W W' : World) : Prop := ∃ T', FsAt w0 f d' N T' W' ∧ Turn T W T' W'
set_option maxRecDepth 100000 in
theorem lay1Is {w0 W : World} {f : Nat} {d : Disk} {N : Nat} {T : Nat → Prop} (h : FsAt w0 f d N T W) (hN : N ≤ 1000000) (n : Nm) (hn : n.length ≤ 140737488351232) (b4 b9 : Nat) (c4 : W.cell? ⟨b4, 0, none⟩ = some (.pointer (some ⟨f, 0, none⟩))) (c9 : W.cell? ⟨b9, 0, none⟩ = some (.string (S n))) :
    Calls Tryz.prog 39 #[.pointer (some ⟨b4, 0, none⟩), .pointer (some ⟨b9, 0, none⟩)] W fun e W' => ∃ x, ¬ d.has x ∧ e = .returned (.int .i64 (d.create x n).1) ∧ Wrote w0 f (d.create x n).2 (N + 1) T W W' := by
  have X := create h hN n hn
  clear h
  go_enter Tryz.func39, Tryz.ntmps39
  go_wp2_with (go_at_call 40; refine X.mono ?_; rintro e W1 ⟨x, hx, rfl, T', hF, hT⟩; have HX := Aside0.mk hx; have HF := Aside0.mk hF; have HT := Aside0.mk hT; clear hx hF hT X)
  go_ret
  exact ⟨x, HX.out, rfl, T', HF.out, HT.out⟩
set_option maxHeartbeats 1000000 in
set_option maxRecDepth 100000 in
theorem lay2Is {w0 W : World} {f : Nat} {d : Disk} {N : Nat} {T : Nat → Prop} (h : FsAt w0 f d N T W) (n : Nm) (hn : n.length ≤ 140737488351232) (b : List UInt8) (hN : N + b.length ≤ 1000000) (A : Option Addr) (m c : Nat) (hm : m = b.length) (hb : ReadsInt W .u8 A (B b).length (B b)) (b4 b9 b7 : Nat) (c4 : W.cell? ⟨b4, 0, none⟩ = some (.pointer (some ⟨f, 0, none⟩))) (c9 : W.cell? ⟨b9, 0, none⟩ = some (.string (S n))) (c7 : W.cell? ⟨b7, 0, none⟩ = some (.slice A m c)) :
    Calls Tryz.prog 41 #[.pointer (some ⟨b4, 0, none⟩), .pointer (some ⟨b9, 0, none⟩), .pointer (some ⟨b7, 0, none⟩)] W fun e W' => e = .returned (.int .i64 (d.append n b).1) ∧ Wrote w0 f (d.append n b).2 (N + b.length + 1) T W W' := by
  have X := append h n hn b hN A m c hm hb
  obtain ⟨r, hr⟩ : ∃ r, d.append n b = r := ⟨_, rfl⟩
  obtain ⟨M, hM⟩ : ∃ M, N + b.length + 1 = M := ⟨_, rfl⟩
  rw [hr, hM] at X ⊢
  clear h hb hm hN hr hM hn
  go_enter Tryz.func41, Tryz.ntmps41
  go_wp2_with (go_at_call 42; refine X.mono ?_; rintro e W1 ⟨rfl, T', hF, hT⟩; have HF := Aside0.mk hF; have HT := Aside0.mk hT; clear hF hT X)
  go_ret
  exact ⟨rfl, T', HF.out, HT.out⟩
set_option maxRecDepth 100000 in
theorem lay3Is {w0 W : World} {f : Nat} {d : Disk} {N : Nat} {T : Nat → Prop} (h : FsAt w0 f d N T W) (hN : N ≤ 1000000) (n : Nm) (hn : n.length ≤ 140737488351232) (b4 b9 : Nat) (c4 : W.cell? ⟨b4, 0, none⟩ = some (.pointer (some ⟨f, 0, none⟩))) (c9 : W.cell? ⟨b9, 0, none⟩ = some (.string (S n))) :
    Calls Tryz.prog 43 #[.pointer (some ⟨b4, 0, none⟩), .pointer (some ⟨b9, 0, none⟩)] W fun e W' => e = .returned (.int .i64 (d.sync n).1) ∧ Wrote w0 f (d.sync n).2 (N + 1) T W W' := by
  have X := sync h hN n hn
  clear h
  go_enter Tryz.func43, Tryz.ntmps43
  go_wp2_with (go_at_call 44; refine X.mono ?_; rintro e W1 ⟨rfl, T', hF, hT⟩; have HF := Aside0.mk hF; have HT := Aside0.mk hT; clear hF hT X)
  go_ret
  exact ⟨rfl, T', HF.out, HT.out⟩
theorem turnCell {T T' : Nat → Prop} {W W' : World} {b : Nat} {v : Value} (hT : Turn T W T' W') (h : W.cell? ⟨b, 0, none⟩ = some v) (hn : ¬ T b) : W'.cell? ⟨b, 0, none⟩ = some v :=
  (World.cell?_of_block (hT.2.2.1 b (World.block_lt_of_cell? _ _ h) hn)).trans h
theorem Wrote.after {w0 W W1 W' : World} {f : Nat} {d' : Disk} {N : Nat} {T : Nat → Prop} (hb : Below W.heap.size W W1) (h : Wrote w0 f d' N T W1 W') : Wrote w0 f d' N T W W' := by
  obtain ⟨T', hF, hT⟩ := h
  exact ⟨T', hF, (Turn.of_below hb).trans hT⟩
set_option maxHeartbeats 1000000 in
set_option maxRecDepth 100000 in
theorem lay4Is {w0 W : World} {f : Nat} {d : Disk} {N : Nat} {T : Nat → Prop} (h : FsAt w0 f d N T W) (hN : N ≤ 1000000) (n : Nm) (hn : n.length ≤ 140737488351232) (u : Nm) (hu : u.length ≤ 500000) (k : Nat) (hk : k ≤ 999999999) (hG : GI W) (b4 b9 b5 b6 : Nat) (c4 : W.cell? ⟨b4, 0, none⟩ = some (.pointer (some ⟨f, 0, none⟩))) (c9 : W.cell? ⟨b9, 0, none⟩ = some (.string (S n))) (c5 : W.cell? ⟨b5, 0, none⟩ = some (.string (S u))) (c6 : W.cell? ⟨b6, 0, none⟩ = some (.int .i64 (k : Int))) (t4 : ¬ T b4) (t9 : ¬ T b9) (t5 : ¬ T b5) (t6 : ¬ T b6) :
    Calls Tryz.prog 45 #[.pointer (some ⟨b4, 0, none⟩), .pointer (some ⟨b9, 0, none⟩), .pointer (some ⟨b5, 0, none⟩), .pointer (some ⟨b6, 0, none⟩)] W fun e W' => e = .returned (.int .i64 (d.rename n (fileN u 43 k)).1) ∧ Wrote w0 f (d.rename n (fileN u 43 k)).2 (N + 1) T W W' := by
  have HXN := Aside0.mk (fun (X : World) (hX : Below W.heap.size W X) => show Calls Tryz.prog 21 #[.string (S u), .int .u8 43, .int .i64 (k : Int)] X (fun e w' => e = .returned (.string (S (fileN u 43 k))) ∧ Below X.heap.size X w') from boxNameIs u (by omega) 43 k hk X (hG.below hX))
  have HXR := Aside0.mk (fun (X : World) (hX : Below W.heap.size W X) => rename (h.step hX) hN n (fileN u 43 k) hn (file_len u hu 43 k))
  have K0 : W.cell? ⟨b4, 0, none⟩ = some (.pointer (some ⟨f, 0, none⟩)) ∧ W.cell? ⟨b9, 0, none⟩ = some (.string (S n)) ∧ W.cell? ⟨b5, 0, none⟩ = some (.string (S u)) ∧ W.cell? ⟨b6, 0, none⟩ = some (.int .i64 (k : Int)) := ⟨c4, c9, c5, c6⟩
  have HS := Aside0.mk (fun (X : World) (hX : Below W.heap.size W X) => show X.cell? ⟨b4, 0, none⟩ = some (.pointer (some ⟨f, 0, none⟩)) ∧ X.cell? ⟨b9, 0, none⟩ = some (.string (S n)) ∧ X.cell? ⟨b5, 0, none⟩ = some (.string (S u)) ∧ X.cell? ⟨b6, 0, none⟩ = some (.int .i64 (k : Int)) from ⟨pw_cell_below hX c4, pw_cell_below hX c9, pw_cell_below hX c5, pw_cell_below hX c6⟩)
  have HS2 := Aside0.mk (fun (Y X : World) (T' : Nat → Prop) (hY : Below W.heap.size W Y) (hT : Turn T Y T' X) => show X.cell? ⟨b4, 0, none⟩ = some (.pointer (some ⟨f, 0, none⟩)) ∧ X.cell? ⟨b9, 0, none⟩ = some (.string (S n)) ∧ X.cell? ⟨b5, 0, none⟩ = some (.string (S u)) ∧ X.cell? ⟨b6, 0, none⟩ = some (.int .i64 (k : Int)) from ⟨turnCell hT (pw_cell_below hY c4) t4, turnCell hT (pw_cell_below hY c9) t9, turnCell hT (pw_cell_below hY c5) t5, turnCell hT (pw_cell_below hY c6) t6⟩)
  obtain ⟨F, hF⟩ : ∃ F, fileN u 43 k = F := ⟨_, rfl⟩
  rw [hF] at HXN HXR ⊢
  clear h hG hF c4 c9 c5 c6 t4 t9 t5 t6
  go_enter Tryz.func45, Tryz.ntmps45
  go_wp2
  go_region_held3 (fun X => X.cell? ⟨b4, 0, none⟩ = some (.pointer (some ⟨f, 0, none⟩)) ∧ X.cell? ⟨b9, 0, none⟩ = some (.string (S n)) ∧ X.cell? ⟨b5, 0, none⟩ = some (.string (S u)) ∧ X.cell? ⟨b6, 0, none⟩ = some (.int .i64 (k : Int)))
    (first | (with_reducible exact K0) | (exact HS2.out _ _ _ (by repeat (first | exact HB1.out | apply below_drew1)) HT.out) | (exact HS.out _ (by repeat (first | exact Below.refl _ _ | exact HB1.out | apply below_drew1))) | go_keep)
    (first
      | (go_at_call 21; with_reducible refine (HXN.out _ (by repeat (first | exact Below.refl _ _ | apply below_drew1))).mono ?_; rintro e W1 ⟨rfl, hb⟩; have HB1 := Aside0.mk (chain' (W := W) (by repeat (first | exact Below.refl _ _ | apply below_drew1)) hb); clear hb)
      | (go_at_call 46; with_reducible refine (HXR.out _ (by repeat (first | exact HB1.out | apply below_drew1))).mono ?_; rintro e W2 ⟨rfl, T', hF, hT⟩; have HF := Aside0.mk hF; have HT := Aside0.mk hT; clear hF hT))
  all_goals
    go_wp2
    go_ret
    exact ⟨rfl, Wrote.after (by repeat (first | exact HB1.out | apply below_drew1)) ⟨T', HF.out, HT.out⟩⟩
end Go.Proofs.YtilgfpljjjbgdaaGreatDoor.Fs
namespace Go.Proofs.YtilgfpljjjbgdaaGreatDoor.Fs
open Go.RowKit Go.Proofs.YtilgfpljjjbgdaaGreatDoor Go.Proofs.YtilgfpljjjbgdaaGreatDoor.Plain Go.Proofs.YtilgfpljjjbgdaaGreatDoorW.PrintWords Go.Maps
set_option linter.unusedVariables false
set_option linter.unusedSimpArgs false
theorem heapAt {W X : World} {o : Obj} {b : Nat} (hb : W.heap.size = b) (h : Below (W.alloc o).heap.size (W.alloc o) X) : X.heap[b]? = some o := by
  subst hb
  exact (h.block W.heap.size (by simp)).trans (heap_alloc_new W o)
theorem carry {W X : World} {k : Nat} {o : Obj} (hb : Below W.heap.size W X) (h : W.heap[k]? = some o) : X.heap[k]? = some o := (hb.block k (Array.getElem?_eq_some_iff.1 h).1).trans h
/-- the disk behind so many steps -/
def stage (d : Disk) (x : Nat) (tmp fin : Nm) (b : List UInt8) : Nat → Disk
  | 0 => d
  | 1 => (d.create x tmp).2
  | 2 => ((d.create x tmp).2.append tmp b).2
  | 3 => (((d.create x tmp).2.append tmp b).2.sync tmp).2
  | 4 => ((((d.create x tmp).2.append tmp b).2.sync tmp).2.rename tmp fin).2
  | _ => ((((d.create x tmp).2.append tmp b).2.sync tmp).2.rename tmp fin).2.dirSync.2
def nn (N b : Nat) : Nat → Nat
  | 0 => N + 1
  | 1 => N + 1 + 1
  | 2 => N + 1 + 1 + b + 1
  | 3 => N + 1 + 1 + b + 1 + 1
  | _ => N + 1 + 1 + b + 1 + 1 + 1
theorem nn_le (N b i : Nat) : nn N b i ≤ N + b + 6 := by
  unfold nn
  split <;> omega
structure LayOk (d : Disk) (tmp fin : Nm) (b : List UInt8) : Prop where
  none : d.unlink tmp = (4, d)
  e0 : ∀ x, ¬ d.has x → (d.create x tmp).1 = 0
  e1 : ∀ x, ¬ d.has x → ((stage d x tmp fin b 1).append tmp b).1 = 0
  e2 : ∀ x, ¬ d.has x → ((stage d x tmp fin b 2).sync tmp).1 = 0
  e3 : ∀ x, ¬ d.has x → ((stage d x tmp fin b 3).rename tmp fin).1 = 0
  e4 : ∀ x, ¬ d.has x → (stage d x tmp fin b 4).dirSync.1 = 0
/-- what lay holds beside the disk -/
structure LayMem (f b4 b5 b6 b7 b9 ba : Nat) (u : Nm) (k : Nat) (tmp : Nm) (b : List UInt8) (A : Option Addr) (m c : Nat) (o : Obj) (T : Nat → Prop) (X : World) : Prop where
  c4 : X.cell? ⟨b4, 0, none⟩ = some (.pointer (some ⟨f, 0, none⟩))
  c5 : X.cell? ⟨b5, 0, none⟩ = some (.string (S u))
  c6 : X.cell? ⟨b6, 0, none⟩ = some (.int .i64 (k : Int))
  c7 : X.cell? ⟨b7, 0, none⟩ = some (.slice A m c)
  c9 : X.cell? ⟨b9, 0, none⟩ = some (.string (S tmp))
  ca : X.heap[ba]? = some o
  r : ReadsInt X .u8 A (B b).length (B b)
  t4 : ¬ T b4
  t5 : ¬ T b5
  t6 : ¬ T b6
  t7 : ¬ T b7
  t9 : ¬ T b9
  ta : ¬ T ba
  tr : ∀ a, A = some a → ¬ T a.block ∨ (B b).length = 0
theorem notT {T T' : Nat → Prop} {W W' : World} {b : Nat} (hT : Turn T W T' W') (hb : b < W.heap.size) (hn : ¬ T b) : ¬ T' b := fun h => (hT.1 b h).elim hn (fun h2 => by omega)
theorem readsTurn {T T' : Nat → Prop} {W W' : World} {A : Option Addr} {b : List UInt8} (hT : Turn T W T' W') (h : ReadsInt W .u8 A (B b).length (B b)) (hn : ∀ a, A = some a → ¬ T a.block ∨ (B b).length = 0) : ReadsInt W' .u8 A (B b).length (B b) := by
  refine ⟨h.1, h.2.1, fun hp => ?_⟩
  obtain ⟨a, e, hc⟩ := h.2.2 hp
  refine ⟨a, e, fun j hj => ?_⟩
  have hj2 := hc j hj
  have ht := (hn a e).resolve_right (by omega)
  have hlt := World.block_lt_of_cell? _ _ hj2
  refine (World.cell?_of_block (hT.2.2.1 _ hlt ?_)).trans hj2
  have : (a.add j).block = a.block := by unfold Addr.add; split <;> rfl
  rw [this]
  exact ht
theorem LayMem.turn {f b4 b5 b6 b7 b9 ba : Nat} {u : Nm} {k : Nat} {tmp : Nm} {b : List UInt8} {A : Option Addr} {m c : Nat} {o : Obj} {T T' : Nat → Prop} {X X' : World} (h : LayMem f b4 b5 b6 b7 b9 ba u k tmp b A m c o T X) (hT : Turn T X T' X') : LayMem f b4 b5 b6 b7 b9 ba u k tmp b A m c o T' X' where
  c4 := turnCell hT h.c4 h.t4
  c5 := turnCell hT h.c5 h.t5
  c6 := turnCell hT h.c6 h.t6
  c7 := turnCell hT h.c7 h.t7
  c9 := turnCell hT h.c9 h.t9
  ca := (hT.2.2.1 ba (Array.getElem?_eq_some_iff.1 h.ca).1 h.ta).trans h.ca
  r := readsTurn hT h.r h.tr
  t4 := notT hT (World.block_lt_of_cell? _ _ h.c4) h.t4
  t5 := notT hT (World.block_lt_of_cell? _ _ h.c5) h.t5
  t6 := notT hT (World.block_lt_of_cell? _ _ h.c6) h.t6
  t7 := notT hT (World.block_lt_of_cell? _ _ h.c7) h.t7
  t9 := notT hT (World.block_lt_of_cell? _ _ h.c9) h.t9
  ta := notT hT (Array.getElem?_eq_some_iff.1 h.ca).1 h.ta
  tr := fun a e => by
    rcases Nat.eq_zero_or_pos (B b).length with h0 | h0
    · exact .inr h0
    · obtain ⟨a2, e2, hc⟩ := h.r.2.2 h0
      rw [e2] at e
      obtain rfl : a2 = a := Option.some.inj e
      have hlt := World.block_lt_of_cell? _ _ (hc 0 h0)
      have h3 : (a2.add 0).block = a2.block := by unfold Addr.add; split <;> rfl
      rw [h3] at hlt
      exact .inl (notT hT hlt ((h.tr a2 e2).resolve_right (by omega)))
theorem FsAt.mine {w0 W : World} {f : Nat} {d : Disk} {N : Nat} {T : Nat → Prop} (h : FsAt w0 f d N T W) : ∀ k, T k → k < W.heap.size := by
  obtain ⟨bn, bs, vl, fs, vb, c⟩ := h
  exact fun k hk => (c.mine k hk).2
set_option maxHeartbeats 2000000 in
set_option maxRecDepth 100000 in
theorem layIs {w0 W : World} {f : Nat} {d : Disk} {N : Nat} {T : Nat → Prop} (h : FsAt w0 f d N T W) (hG : GI w0) (u : Nm) (hu : u.length ≤ 500000) (k : Nat) (hk : k ≤ 999999999) (b : List UInt8) (hN : N + 2 * b.length + 10 ≤ 1000000) (A : Option Addr) (m c : Nat) (hm : m = b.length) (hr : ReadsInt W .u8 A (B b).length (B b)) (hA : ∀ a, A = some a → ¬ T a.block ∨ (B b).length = 0) (hok : LayOk d (fileN u 45 k) (fileN u 43 k) b) :
    Calls Tryz.prog 24 #[.pointer (some ⟨f, 0, none⟩), .string (S u), .int .i64 (k : Int), .slice A m c] W fun e W' => e = .returned (.int .i64 0) ∧ ∃ x, ¬ d.has x ∧ Wrote w0 f (stage d x (fileN u 45 k) (fileN u 43 k) b 5) (N + b.length + 6) T W W' := by
  have HF := Aside0.mk h
  have HG := Aside0.mk hG
  have HR := Aside0.mk hr
  have HA := Aside0.mk hA
  have HMM := Aside0.mk hm
  have HNN := Aside0.mk hN
  have HB0 := Aside0.mk (Below.refl W.heap.size W)
  have HXN := Aside0.mk (fun (X : World) (hX : Below W.heap.size W X) => show Calls Tryz.prog 21 #[.string (S u), .int .u8 45, .int .i64 (k : Int)] X (fun e w' => e = .returned (.string (S (fileN u 45 k))) ∧ Below X.heap.size X w') from boxNameIs u (by omega) 45 k hk X (hG.below (h.below'.trans (hX.mono h.below'.size))))
  have HTL := Aside0.mk (file_len u hu 45 k)
  have HXU := Aside0.mk (fun (X : World) (hX : Below W.heap.size W X) => unlink (h.step hX) (by omega) (fileN u 45 k) (file_len u hu 45 k))
  rw [hok.none] at HXU
  obtain ⟨tmp, htmp⟩ : ∃ tmp, fileN u 45 k = tmp := ⟨_, rfl⟩
  obtain ⟨fin, hfin⟩ : ∃ fin, fileN u 43 k = fin := ⟨_, rfl⟩
  have HX4 := Aside0.mk (fun (X : World) (T' : Nat → Prop) (D : Disk) (M : Nat) (hF : FsAt w0 f D M T' X) (hM : M ≤ 1000000) (b4 b9 b5 b6 : Nat) c4 c9 c5 c6 t4 t9 t5 t6 => lay4Is hF hM tmp (by rw [← htmp]; exact file_len u hu 45 k) u hu k hk (hG.below hF.below') b4 b9 b5 b6 c4 c9 c5 c6 t4 t9 t5 t6)
  rw [hfin] at HX4
  rw [htmp, hfin] at hok
  have HOK := Aside0.mk hok
  rw [htmp] at HXN HXU HTL ⊢
  rw [hfin]
  obtain ⟨z, hz⟩ : ∃ z, (((W.alloc (.cells #[.pointer (some ⟨f, 0, none⟩)] 25)).alloc (.cells #[.string (S u)] 9)).alloc (.cells #[.int .i64 (k : Int)] 3)).alloc (.cells #[.slice A m c] 27) = z := ⟨_, rfl⟩
  have HBZ := Aside0.mk (show Below W.heap.size W z by rw [← hz]; exact below_alloc (below_alloc (below_alloc (below_alloc HB0.out _) _) _) _)
  have HZ4 := Aside0.mk (show z.heap[W.heap.size]? = some (.cells #[.pointer (some ⟨f, 0, none⟩)] 25 (0, 0)) by rw [← hz]; exact heapAt rfl (below_alloc (below_alloc (below_alloc (Below.refl _ _) _) _) _))
  have HZ5 := Aside0.mk (show z.heap[W.heap.size + 1]? = some (.cells #[.string (S u)] 9 (0, 0)) by rw [← hz]; exact heapAt (by simp) (below_alloc (below_alloc (Below.refl _ _) _) _))
  have HZ6 := Aside0.mk (show z.heap[W.heap.size + 1 + 1]? = some (.cells #[.int .i64 (k : Int)] 3 (0, 0)) by rw [← hz]; exact heapAt (by simp) (below_alloc (Below.refl _ _) _))
  have HZ7 := Aside0.mk (show z.heap[W.heap.size + 1 + 1 + 1]? = some (.cells #[.slice A m c] 27 (0, 0)) by rw [← hz]; exact heapAt (by simp) (Below.refl _ _))
  have HTT := Aside0.mk (fun k hk => (h.mine k hk : k < W.heap.size))
  obtain ⟨z4, -⟩ := box_cell HZ4.out
  obtain ⟨z5, -⟩ := box_cell HZ5.out
  obtain ⟨z6, -⟩ := box_cell HZ6.out
  clear h hG hr hA hok hm hN htmp hfin
  go_enter Tryz.func24, Tryz.ntmps24
  go_wp2_with (first
    | (go_at_call 21; (try rw [hz]); refine (HXN.out _ HBZ.out).mono ?_; rintro e W1 ⟨rfl, hb⟩; obtain ⟨w2, hw2⟩ : ∃ w2, W1.alloc (.cells #[.string (S tmp)] 9) = w2 := ⟨_, rfl⟩; have hb2 : Below z.heap.size z w2 := (by rw [← hw2]; exact below_alloc hb _); have q9 : w2.heap[W1.heap.size]? = some (.cells #[.string (S tmp)] 9 (0, 0)) := (by rw [← hw2]; exact heapAt rfl (Below.refl _ _)); obtain ⟨k4, -⟩ := box_cell (carry hb2 HZ4.out); obtain ⟨k9, -⟩ := box_cell q9; have HQ9 := Aside0.mk q9; have HB2 := Aside0.mk hb2; have HBW := Aside0.mk (chain' HBZ.out hb2); have HS1 := Aside0.mk (show z.heap.size ≤ W1.heap.size from hb.size); clear hb hb2 q9 z4 z5 z6)
    | (go_at_call 38; (try rw [hw2]); refine (HXU.out _ HBW.out).mono ?_; rintro e W3 ⟨rfl, T1, hF, hT⟩; have HF3 := Aside0.mk hF; have HT3 := Aside0.mk hT; have k4' := turnCell hT k4 (fun hh => by have := HTT.out _ hh; omega); clear hF hT k4 k9))
  have HMEM := Aside0.mk (show LayMem f W.heap.size (W.heap.size + 1) (W.heap.size + 1 + 1) (W.heap.size + 1 + 1 + 1) W1.heap.size W3.heap.size u k tmp b A m c (.cells #[.func (.func 39) #[] #[.pointer (some ⟨W.heap.size, 0, none⟩), .pointer (some ⟨W1.heap.size, 0, none⟩)], .func (.func 41) #[] #[.pointer (some ⟨W.heap.size, 0, none⟩), .pointer (some ⟨W1.heap.size, 0, none⟩), .pointer (some ⟨W.heap.size + 1 + 1 + 1, 0, none⟩)], .func (.func 43) #[] #[.pointer (some ⟨W.heap.size, 0, none⟩), .pointer (some ⟨W1.heap.size, 0, none⟩)], .func (.func 45) #[] #[.pointer (some ⟨W.heap.size, 0, none⟩), .pointer (some ⟨W1.heap.size, 0, none⟩), .pointer (some ⟨W.heap.size + 1, 0, none⟩), .pointer (some ⟨W.heap.size + 1 + 1, 0, none⟩)], .func (.func 23) #[.pointer (some ⟨f, 0, none⟩)] #[]] 55 (0, 0)) T1 (W3.alloc (.cells #[.func (.func 39) #[] #[.pointer (some ⟨W.heap.size, 0, none⟩), .pointer (some ⟨W1.heap.size, 0, none⟩)], .func (.func 41) #[] #[.pointer (some ⟨W.heap.size, 0, none⟩), .pointer (some ⟨W1.heap.size, 0, none⟩), .pointer (some ⟨W.heap.size + 1 + 1 + 1, 0, none⟩)], .func (.func 43) #[] #[.pointer (some ⟨W.heap.size, 0, none⟩), .pointer (some ⟨W1.heap.size, 0, none⟩)], .func (.func 45) #[] #[.pointer (some ⟨W.heap.size, 0, none⟩), .pointer (some ⟨W1.heap.size, 0, none⟩), .pointer (some ⟨W.heap.size + 1, 0, none⟩), .pointer (some ⟨W.heap.size + 1 + 1, 0, none⟩)], .func (.func 23) #[.pointer (some ⟨f, 0, none⟩)] #[]] 55)) by
    have hT := HT3.out
    have hz : z.heap.size ≤ w2.heap.size := HB2.out.size
    have n0 : ∀ j, W.heap.size ≤ j → ¬ T j := fun j hj hh => by have := HTT.out j hh; omega
    have hs1 := HS1.out
    have hsz := HBZ.out.size
    have ba : Below W3.heap.size W3 (W3.alloc (.cells #[.func (.func 39) #[] #[.pointer (some ⟨W.heap.size, 0, none⟩), .pointer (some ⟨W1.heap.size, 0, none⟩)], .func (.func 41) #[] #[.pointer (some ⟨W.heap.size, 0, none⟩), .pointer (some ⟨W1.heap.size, 0, none⟩), .pointer (some ⟨W.heap.size + 1 + 1 + 1, 0, none⟩)], .func (.func 43) #[] #[.pointer (some ⟨W.heap.size, 0, none⟩), .pointer (some ⟨W1.heap.size, 0, none⟩)], .func (.func 45) #[] #[.pointer (some ⟨W.heap.size, 0, none⟩), .pointer (some ⟨W1.heap.size, 0, none⟩), .pointer (some ⟨W.heap.size + 1, 0, none⟩), .pointer (some ⟨W.heap.size + 1 + 1, 0, none⟩)], .func (.func 23) #[.pointer (some ⟨f, 0, none⟩)] #[]] 55)) := below_alloc (Below.refl _ _) _
    have lt : ∀ {j : Nat} {o : Obj}, w2.heap[j]? = some o → j < w2.heap.size := fun h => (Array.getElem?_eq_some_iff.1 h).1
    have p4 := carry HB2.out HZ4.out
    have p5 := carry HB2.out HZ5.out
    have p6 := carry HB2.out HZ6.out
    have p7 := carry HB2.out HZ7.out
    have p9 := HQ9.out
    have hr := readsTurn ((Turn.of_below HBW.out).trans hT) HR.out HA.out
    refine ⟨pw_cell_below ba (turnCell hT (box_cell p4).1 (n0 _ (by omega))), pw_cell_below ba (turnCell hT (box_cell p5).1 (n0 _ (by omega))), pw_cell_below ba (turnCell hT (box_cell p6).1 (n0 _ (by omega))), pw_cell_below ba (turnCell hT (box_cell p7).1 (n0 _ (by omega))), pw_cell_below ba (turnCell hT (box_cell p9).1 (n0 _ (by omega))), heapAt rfl (Below.refl _ _), hr.below ba, notT hT (lt p4) (n0 _ (by omega)), notT hT (lt p5) (n0 _ (by omega)), notT hT (lt p6) (n0 _ (by omega)), notT hT (lt p7) (n0 _ (by omega)), notT hT (lt p9) (n0 _ (by omega)), fun hh => by have := HF3.out.mine _ hh; omega, fun a e => ?_⟩
    rcases Nat.eq_zero_or_pos (B b).length with h0 | h0
    · exact .inr h0
    · obtain ⟨a2, e2, hc⟩ := HR.out.2.2 h0
      obtain rfl : a2 = a := Option.some.inj (e2.symm.trans e)
      have hlt := World.block_lt_of_cell? _ _ (hc 0 h0)
      have h3 : (a2.add 0).block = a2.block := by unfold Addr.add; split <;> rfl
      rw [h3] at hlt
      exact .inl (notT ((Turn.of_below HBW.out).trans hT) hlt ((HA.out a2 e2).resolve_right (by omega))))
  have HF4 := Aside0.mk (HF3.out.step (below_alloc (Below.refl _ _) (.cells #[.func (.func 39) #[] #[.pointer (some ⟨W.heap.size, 0, none⟩), .pointer (some ⟨W1.heap.size, 0, none⟩)], .func (.func 41) #[] #[.pointer (some ⟨W.heap.size, 0, none⟩), .pointer (some ⟨W1.heap.size, 0, none⟩), .pointer (some ⟨W.heap.size + 1 + 1 + 1, 0, none⟩)], .func (.func 43) #[] #[.pointer (some ⟨W.heap.size, 0, none⟩), .pointer (some ⟨W1.heap.size, 0, none⟩)], .func (.func 45) #[] #[.pointer (some ⟨W.heap.size, 0, none⟩), .pointer (some ⟨W1.heap.size, 0, none⟩), .pointer (some ⟨W.heap.size + 1, 0, none⟩), .pointer (some ⟨W.heap.size + 1 + 1, 0, none⟩)], .func (.func 23) #[.pointer (some ⟨f, 0, none⟩)] #[]] 55)))
  have HT4 := Aside0.mk (((Turn.of_below HBW.out).trans HT3.out).trans (Turn.of_below (below_alloc (Below.refl _ _) (.cells #[.func (.func 39) #[] #[.pointer (some ⟨W.heap.size, 0, none⟩), .pointer (some ⟨W1.heap.size, 0, none⟩)], .func (.func 41) #[] #[.pointer (some ⟨W.heap.size, 0, none⟩), .pointer (some ⟨W1.heap.size, 0, none⟩), .pointer (some ⟨W.heap.size + 1 + 1 + 1, 0, none⟩)], .func (.func 43) #[] #[.pointer (some ⟨W.heap.size, 0, none⟩), .pointer (some ⟨W1.heap.size, 0, none⟩)], .func (.func 45) #[] #[.pointer (some ⟨W.heap.size, 0, none⟩), .pointer (some ⟨W1.heap.size, 0, none⟩), .pointer (some ⟨W.heap.size + 1, 0, none⟩), .pointer (some ⟨W.heap.size + 1 + 1, 0, none⟩)], .func (.func 23) #[.pointer (some ⟨f, 0, none⟩)] #[]] 55))))
  obtain ⟨w4, hw4⟩ : ∃ w4, W3.alloc (.cells #[.func (.func 39) #[] #[.pointer (some ⟨W.heap.size, 0, none⟩), .pointer (some ⟨W1.heap.size, 0, none⟩)], .func (.func 41) #[] #[.pointer (some ⟨W.heap.size, 0, none⟩), .pointer (some ⟨W1.heap.size, 0, none⟩), .pointer (some ⟨W.heap.size + 1 + 1 + 1, 0, none⟩)], .func (.func 43) #[] #[.pointer (some ⟨W.heap.size, 0, none⟩), .pointer (some ⟨W1.heap.size, 0, none⟩)], .func (.func 45) #[] #[.pointer (some ⟨W.heap.size, 0, none⟩), .pointer (some ⟨W1.heap.size, 0, none⟩), .pointer (some ⟨W.heap.size + 1, 0, none⟩), .pointer (some ⟨W.heap.size + 1 + 1, 0, none⟩)], .func (.func 23) #[.pointer (some ⟨f, 0, none⟩)] #[]] 55) = w4 := ⟨_, rfl⟩
  rw [hw4] at HMEM HF4 HT4
  try rw [hw4]
  clear hw4 hw2 hz k4'
  go_loopw [10, 13, 31] (fun v10 v13 v31 wr => ∃ (i x : Nat), i ≤ 5 ∧ v31 = .int .i64 i ∧ v10 = .int .i64 0 ∧ Aside0 (1 ≤ i → ¬ d.has x) ∧ Aside0 (∃ T', FsAt w0 f (stage d x tmp fin b i) (nn N b.length i) T' wr ∧ Turn T W T' wr ∧ LayMem f W.heap.size (W.heap.size + 1) (W.heap.size + 1 + 1) (W.heap.size + 1 + 1 + 1) W1.heap.size W3.heap.size u k tmp b A m c (.cells #[.func (.func 39) #[] #[.pointer (some ⟨W.heap.size, 0, none⟩), .pointer (some ⟨W1.heap.size, 0, none⟩)], .func (.func 41) #[] #[.pointer (some ⟨W.heap.size, 0, none⟩), .pointer (some ⟨W1.heap.size, 0, none⟩), .pointer (some ⟨W.heap.size + 1 + 1 + 1, 0, none⟩)], .func (.func 43) #[] #[.pointer (some ⟨W.heap.size, 0, none⟩), .pointer (some ⟨W1.heap.size, 0, none⟩)], .func (.func 45) #[] #[.pointer (some ⟨W.heap.size, 0, none⟩), .pointer (some ⟨W1.heap.size, 0, none⟩), .pointer (some ⟨W.heap.size + 1, 0, none⟩), .pointer (some ⟨W.heap.size + 1 + 1, 0, none⟩)], .func (.func 23) #[.pointer (some ⟨f, 0, none⟩)] #[]] 55 (0, 0)) T' wr)) (fun _ _ v31 _ => 5 - (intOf v31).toNat)
  case atStart => exact ⟨0, 0, by omega, rfl, rfl, ⟨fun h => by omega⟩, ⟨T1, HF4.out, HT4.out, HMEM.out⟩⟩
  case round =>
    obtain ⟨i, x, hi, rfl, rfl, HX, HS⟩ := hrel
    have hcs : i = 0 ∨ i = 1 ∨ i = 2 ∨ i = 3 ∨ i = 4 ∨ i = 5 := by omega
    clear hi
    rcases hcs with rfl | rfl | rfl | rfl | rfl | rfl
    · obtain ⟨T', hF, hT, hM⟩ := HS.out
      have cf := cell_of_row wr W3.heap.size 0 _ 55 (0, 0) hM.ca
      have cf2 : wr.cell? ⟨W3.heap.size, 0, none⟩ = some (.func (.func 39) #[] #[.pointer (some ⟨W.heap.size, 0, none⟩), .pointer (some ⟨W1.heap.size, 0, none⟩)]) := cf
      obtain ⟨D, hD⟩ : ∃ D, stage d x tmp fin b 0 = D := ⟨_, rfl⟩
      rw [hD] at hF
      have X := lay1Is hF (show nn N b.length 0 ≤ 1000000 by have := nn_le N b.length 0; have := HNN.out; omega) tmp HTL.out W.heap.size W1.heap.size hM.c4 hM.c9
      have HST := Aside0.mk (show ∀ x', (D.create x' tmp).2 = stage d x' tmp fin b 1 from fun x' => by rw [← hD]; rfl)
      have HE0 := Aside0.mk (show ∀ x', ¬ D.has x' → (D.create x' tmp).1 = 0 from by rw [← hD]; exact HOK.out.e0)
      have HDD := Aside0.mk (show D = d from hD.symm)
      clear hD
      have HMT := Aside0.mk (fun T5 X5 (h5 : Turn T' wr T5 X5) => hM.turn h5)
      have HTT' := Aside0.mk hT
      clear hF hT hM cf HS
      go_wp2_with (go_at_call 39; refine X.mono ?_; rintro e W5 ⟨x', hx', he, T5, hF5, hT5⟩; rw [HE0.out x' hx'] at he; rw [HST.out] at hF5; rw [HDD.out] at hx'; subst he; have HX5 := Aside0.mk hx'; have HF5 := Aside0.mk hF5; have HT5 := Aside0.mk hT5; clear hx' hF5 hT5 X)
      go_roundw
      case rel => exact ⟨0 + 1, x', by omega, by go_num, rfl, ⟨fun _ => HX5.out⟩, ⟨T5, HF5.out, HTT'.out.trans HT5.out, HMT.out _ _ HT5.out⟩⟩
      case measure => simp [intOf] <;> omega
    · obtain ⟨T', hF, hT, hM⟩ := HS.out
      have cf := cell_of_row wr W3.heap.size 1 _ 55 (0, 0) hM.ca
      have cf2 : wr.cell? ⟨W3.heap.size, 1, none⟩ = some (.func (.func 41) #[] #[.pointer (some ⟨W.heap.size, 0, none⟩), .pointer (some ⟨W1.heap.size, 0, none⟩), .pointer (some ⟨W.heap.size + 1 + 1 + 1, 0, none⟩)]) := cf
      obtain ⟨D, hD⟩ : ∃ D, stage d x tmp fin b 1 = D := ⟨_, rfl⟩
      rw [hD] at hF
      have X := lay2Is hF tmp HTL.out b (show nn N b.length 1 + b.length ≤ 1000000 by show N + 1 + 1 + b.length ≤ 1000000; have := HNN.out; omega) A m c HMM.out hM.r W.heap.size W1.heap.size (W.heap.size + 1 + 1 + 1) hM.c4 hM.c9 hM.c7
      have he0 := HOK.out.e1 x (HX.out (by omega))
      rw [hD] at he0
      rw [he0] at X
      have hst : stage d x tmp fin b 2 = (D.append tmp b).2 := by rw [← hD]; rfl
      rw [← hst] at X
      have HX1 := Aside0.mk (HX.out (by omega))
      clear hD he0 hst HX
      have HMT := Aside0.mk (fun T5 X5 (h5 : Turn T' wr T5 X5) => hM.turn h5)
      have HTT' := Aside0.mk hT
      clear hF hT hM cf HS
      go_wp2_with (go_at_call 41; refine X.mono ?_; rintro e W5 ⟨rfl, T5, hF5, hT5⟩; have HF5 := Aside0.mk hF5; have HT5 := Aside0.mk hT5; clear hF5 hT5 X)
      go_roundw
      case rel => exact ⟨1 + 1, x, by omega, by go_num, rfl, ⟨fun _ => HX1.out⟩, ⟨T5, HF5.out, HTT'.out.trans HT5.out, HMT.out _ _ HT5.out⟩⟩
      case measure => simp [intOf] <;> omega
    · obtain ⟨T', hF, hT, hM⟩ := HS.out
      have cf := cell_of_row wr W3.heap.size 2 _ 55 (0, 0) hM.ca
      have cf2 : wr.cell? ⟨W3.heap.size, 2, none⟩ = some (.func (.func 43) #[] #[.pointer (some ⟨W.heap.size, 0, none⟩), .pointer (some ⟨W1.heap.size, 0, none⟩)]) := cf
      obtain ⟨D, hD⟩ : ∃ D, stage d x tmp fin b 2 = D := ⟨_, rfl⟩
      rw [hD] at hF
      have X := lay3Is hF (show nn N b.length 2 ≤ 1000000 by have := nn_le N b.length 2; have := HNN.out; omega) tmp HTL.out W.heap.size W1.heap.size hM.c4 hM.c9
      have he0 := HOK.out.e2 x (HX.out (by omega))
      rw [hD] at he0
      rw [he0] at X
      have hst : stage d x tmp fin b 3 = (D.sync tmp).2 := by rw [← hD]; rfl
      rw [← hst] at X
      have HX1 := Aside0.mk (HX.out (by omega))
      clear hD he0 hst HX
      have HMT := Aside0.mk (fun T5 X5 (h5 : Turn T' wr T5 X5) => hM.turn h5)
      have HTT' := Aside0.mk hT
      clear hF hT hM cf HS
      go_wp2_with (go_at_call 43; refine X.mono ?_; rintro e W5 ⟨rfl, T5, hF5, hT5⟩; have HF5 := Aside0.mk hF5; have HT5 := Aside0.mk hT5; clear hF5 hT5 X)
      go_roundw
      case rel => exact ⟨2 + 1, x, by omega, by go_num, rfl, ⟨fun _ => HX1.out⟩, ⟨T5, HF5.out, HTT'.out.trans HT5.out, HMT.out _ _ HT5.out⟩⟩
      case measure => simp [intOf] <;> omega
    · obtain ⟨T', hF, hT, hM⟩ := HS.out
      have cf := cell_of_row wr W3.heap.size 3 _ 55 (0, 0) hM.ca
      have cf2 : wr.cell? ⟨W3.heap.size, 3, none⟩ = some (.func (.func 45) #[] #[.pointer (some ⟨W.heap.size, 0, none⟩), .pointer (some ⟨W1.heap.size, 0, none⟩), .pointer (some ⟨W.heap.size + 1, 0, none⟩), .pointer (some ⟨W.heap.size + 1 + 1, 0, none⟩)]) := cf
      obtain ⟨D, hD⟩ : ∃ D, stage d x tmp fin b 3 = D := ⟨_, rfl⟩
      rw [hD] at hF
      have X := HX4.out wr T' D _ hF (show nn N b.length 3 ≤ 1000000 by have := nn_le N b.length 3; have := HNN.out; omega) W.heap.size W1.heap.size (W.heap.size + 1) (W.heap.size + 1 + 1) hM.c4 hM.c9 hM.c5 hM.c6 hM.t4 hM.t9 hM.t5 hM.t6
      have he0 := HOK.out.e3 x (HX.out (by omega))
      rw [hD] at he0
      rw [he0] at X
      have hst : stage d x tmp fin b 4 = (D.rename tmp fin).2 := by rw [← hD]; rfl
      rw [← hst] at X
      have HX1 := Aside0.mk (HX.out (by omega))
      clear hD he0 hst HX
      have HMT := Aside0.mk (fun T5 X5 (h5 : Turn T' wr T5 X5) => hM.turn h5)
      have HTT' := Aside0.mk hT
      clear hF hT hM cf HS
      go_wp2_with (go_at_call 45; refine X.mono ?_; rintro e W5 ⟨rfl, T5, hF5, hT5⟩; have HF5 := Aside0.mk hF5; have HT5 := Aside0.mk hT5; clear hF5 hT5 X)
      go_roundw
      case rel => exact ⟨3 + 1, x, by omega, by go_num, rfl, ⟨fun _ => HX1.out⟩, ⟨T5, HF5.out, HTT'.out.trans HT5.out, HMT.out _ _ HT5.out⟩⟩
      case measure => simp [intOf] <;> omega
    · obtain ⟨T', hF, hT, hM⟩ := HS.out
      have cf := cell_of_row wr W3.heap.size 4 _ 55 (0, 0) hM.ca
      have cf2 : wr.cell? ⟨W3.heap.size, 4, none⟩ = some (.func (.func 23) #[.pointer (some ⟨f, 0, none⟩)] #[]) := cf
      obtain ⟨D, hD⟩ : ∃ D, stage d x tmp fin b 4 = D := ⟨_, rfl⟩
      rw [hD] at hF
      have X := dirSync hF
      have he0 := HOK.out.e4 x (HX.out (by omega))
      rw [hD] at he0
      rw [he0] at X
      have hst : stage d x tmp fin b 5 = D.dirSync.2 := by rw [← hD]; rfl
      rw [← hst] at X
      have HX1 := Aside0.mk (HX.out (by omega))
      clear hD he0 hst HX
      have HMT := Aside0.mk (fun T5 X5 (h5 : Turn T' wr T5 X5) => hM.turn h5)
      have HTT' := Aside0.mk hT
      clear hF hT hM cf HS
      go_wp2_with (go_at_call 23; refine X.mono ?_; rintro e W5 ⟨rfl, T5, hF5, hT5⟩; have HF5 := Aside0.mk hF5; have HT5 := Aside0.mk hT5; clear hF5 hT5 X)
      go_roundw
      case rel => exact ⟨4 + 1, x, by omega, by go_num, rfl, ⟨fun _ => HX1.out⟩, ⟨T5, HF5.out, HTT'.out.trans HT5.out, HMT.out _ _ HT5.out⟩⟩
      case measure => simp [intOf] <;> omega
    · obtain ⟨T', hF, hT, hM⟩ := HS.out
      have HF6 := Aside0.mk (hF.le' (nn_le N b.length 5))
      have HT6 := Aside0.mk hT
      have HX1 := Aside0.mk (HX.out (by omega))
      clear hF hT hM HS HX
      go_wp2
      go_ret
      exact ⟨rfl, x, HX1.out, T', HF6.out, HT6.out⟩
end Go.Proofs.YtilgfpljjjbgdaaGreatDoor.Fs
