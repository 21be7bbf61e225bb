/- law13: IdsNone, IdsRow. -/
import Derived.Test.YtclhelpcjgmpmaaGreatDoorIdsB3
namespace Go.Proofs.YtclhelpcjgmpmaaGreatDoor.Fs
open Go.RowKit Go.Proofs.YtclhelpcjgmpmaaGreatDoor Go.Proofs.YtclhelpcjgmpmaaGreatDoor.Plain Go.Proofs.YtclhelpcjgmpmaaGreatDoorW.PrintWords Go.Maps
set_option linter.unusedVariables false
set_option linter.unusedSimpArgs false
theorem openNil (W : World) : Calls Tryz.prog 12 #[.pointer none] W fun e W' => e = .returned (.tuple #[.pointer none, .int .i64 1]) ∧ W' = W := by
  go_enter Tryz.func12, Tryz.ntmps12
  go_wp2
  go_ret2
  exact ⟨rfl, rfl⟩
theorem openDown {w0 W : World} {f : Nat} {d : Disk} {N : Nat} {T : Nat → Prop} (h : FsAt w0 f d N T W) (hd : d.down = true) : Calls Tryz.prog 12 #[.pointer (some ⟨f, 0, none⟩)] W fun e W' => e = .returned (.tuple #[.pointer none, .int .i64 2]) ∧ W' = W := by
  have XD := down h
  rw [hd] at XD
  clear h hd
  go_enter Tryz.func12, Tryz.ntmps12
  go_wp2_with (go_at_call 22; refine XD.mono ?_; rintro e W1 ⟨rfl, rfl⟩)
  go_ret2
  exact ⟨rfl, rfl⟩
theorem nextNil (W : World) : Calls Tryz.prog 13 #[.pointer none] W fun e W' => e = .returned (.tuple #[.int .i64 0, .int .i64 1]) ∧ W' = W := by
  go_enter Tryz.func13, Tryz.ntmps13
  go_wp2
  go_ret2
  exact ⟨rfl, rfl⟩
theorem lastNil (W : World) : Calls Tryz.prog 15 #[.pointer none] W fun e W' => e = .returned (.int .i64 0) ∧ W' = W := by
  go_enter Tryz.func15, Tryz.ntmps15
  go_wp2
  go_ret
  exact ⟨rfl, rfl⟩
theorem nextFuse (k : Int) (hk : k = 0 ∨ k = 1) (x : Nat) : (((Disk.fresh 100).setFuse k).next x ⟨0, 0, []⟩).1 = (0, 2) ∧ (((Disk.fresh 100).setFuse k).next x ⟨0, 0, []⟩).2.1.down = true := by
  rcases hk with rfl | rfl
  · exact ⟨rfl, rfl⟩
  · exact ⟨rfl, rfl⟩
set_option maxHeartbeats 1000000 in
set_option maxRecDepth 100000 in
theorem idsNone {w : World} (u : Int) (hu : (Lit.int .u8 u).wf = true) (hG : GI w) : Calls Tryz.prog 6 #[.int .u8 u] w fun e w' => e = .returned (.bool true) ∧ Below w.heap.size w w' := by
  have hr : 0 ≤ u ∧ u ≤ 255 := by
    have e1 : IntKind.u8.min = 0 := rfl
    have e2 : IntKind.u8.max = 255 := rfl
    simp only [Lit.wf, e1, e2, Bool.and_eq_true, decide_eq_true_eq] at hu
    omega
  have HWF := Aside0.mk (show (Lit.int .i64 (u % 2)).wf = true from wfSmall (by omega) (by omega))
  have HK := Aside0.mk (nextFuse (u % 2) (by omega))
  have ON := Aside0.mk openNil
  have NN := Aside0.mk nextNil
  have X0 := new (Below.refl w.heap.size w) 100
  have HG := Aside0.mk hG
  clear hG hu
  go_enter Tryz.func6, Tryz.ntmps6
  go_wp2_with (first
    | (go_at_call 12; refine (ON.out _).mono ?_; rintro e V1 ⟨rfl, rfl⟩; clear ON)
    | (go_at_call 13; refine (NN.out _).mono ?_; rintro e V2 ⟨rfl, rfl⟩; clear NN)
    | (go_at_call 11; refine X0.mono ?_; rintro e W1 ⟨f, T, rfl, h1, -, -⟩; clear X0; have H1 := Aside0.mk h1; clear h1)
    | (go_at_call 12; refine (openIs H1.out (by omega) HG.out rfl (by decide) (fun s hs => by rw [freshNames] at hs; cases hs)).mono ?_; rintro e W2 ⟨xb, rfl, hc, hx, hb⟩; rw [newW] at hc; have H2 := Aside0.mk (idsOpened H1.out hc hx hb); have HX := Aside0.mk (Nat.le_trans H1.out.below'.size hx); clear hc hx hb H1)
    | (go_at_call 17; obtain ⟨T2, h2, hc2, hx2⟩ := H2.out; refine (fuse h2 (u % 2) HWF.out).mono ?_; rintro e W3 ⟨rfl, h3, ht3⟩; have H3 := Aside0.mk (IdsW.of_turn hc2 hx2 ht3 h3); clear h2 hc2 hx2 h3 ht3 H2)
    | (go_at_call 13; refine (nextIs H3.out (by omega) HG.out HX.out (by decide) (by decide) (by decide)).mono ?_; rintro e W4 ⟨x, rfl, h4⟩; rw [(HK.out x).1]; have H4 := Aside0.mk h4; have HD4 := Aside0.mk (HK.out x).2; clear h4 H3)
    | (go_at_call 12; obtain ⟨T4, h4, -, -⟩ := H4.out; refine (openDown h4 HD4.out).mono ?_; rintro e V5 ⟨rfl, rfl⟩; have HB5 := Aside0.mk h4.below'; clear h4)
    | (go_at_call 8; refine (answers _ (HG.out.below HB5.out)).mono ?_; rintro e W6 ⟨rfl, hb⟩; have HB6 := Aside0.mk (chain' HB5.out hb); clear hb)
    | (go_at_call 15; refine (lastNil _).mono ?_; rintro e V7 ⟨rfl, rfl⟩))
  go_ret
  exact ⟨rfl, HB6.out⟩
/-- i numbers are given, without a crash -/
def RowInv (i : Nat) (d : Disk) (I : IdsD) : Prop := On d ∧ Alive 1 (16 * i) i d I ∧ I.last = i ∧ I.bound = (i + 15) / 16 * 16 ∧ (0 < i → I.file ≠ []) ∧ (i = 0 → d = Disk.fresh 1000 ∧ I = ⟨0, 0, []⟩)
theorem row_start : RowInv 0 (Disk.fresh 1000) ⟨0, 0, []⟩ := by
  have ha := calm_open (calm_fresh 1000) (by omega)
  rw [newW] at ha
  exact ⟨⟨rfl, rfl⟩, ha, rfl, rfl, (fun h => by omega), fun _ => ⟨rfl, rfl⟩⟩
theorem row_step {i : Nat} {d : Disk} {I : IdsD} (h : RowInv i d I) (hi : i ≤ 1000) (x : Nat) : ∃ d' I', d.next x I = ((i + 1, 0), d', I') ∧ RowInv (i + 1) d' I' ∧ names d'.now = [I'.file] ∧ d'.now.length = 1 := by
  obtain ⟨h1, h2, h3, h4, h5, h6⟩ := h
  rcases alive_next h2 (Nat.le_refl 1) (by omega) (by omega) x with ⟨_, hn, _⟩ | ⟨r1, r2, r3, r4, r5, r6⟩
  · exact absurd h1 hn
  · obtain ⟨r, hr⟩ : ∃ r, d.next x I = r := ⟨_, rfl⟩
    rw [hr] at r1 r2 r3 r4 r5 r6 ⊢
    obtain ⟨r0, d', I'⟩ := r
    rw [h3] at r1 r2 r3 r5
    have r1' : r0 = (i + 1, 0) := r1
    have r2' : I'.last = i + 1 := r2
    have r5' : I'.bound = if I.bound ≤ i then i + 16 else I.bound := r5
    have r3' : Alive 1 (16 * i + 16) (i + 1) d' I' := r3
    obtain ⟨o1, o2⟩ := oneName r3'.2.2.1 (alive_file r3' r6)
    refine ⟨d', I', by rw [r1'], ⟨r4 h1, (show Alive 1 (16 * (i + 1)) (i + 1) d' I' from r3'), r2', ?_, fun _ => r6, fun e => by omega⟩, o1, o2⟩
    rw [r5', h4]
    split <;> omega
theorem row_open {i : Nat} {d : Disk} {I : IdsD} (h : RowInv i d I) : d.opened = ⟨I.bound, I.bound, I.file⟩ := by
  obtain ⟨h1, h2, h3, h4, h5, h6⟩ := h
  rcases Nat.eq_zero_or_pos i with e | e
  · obtain ⟨rfl, rfl⟩ := h6 e
    exact newW _
  · have hf := h5 e
    obtain ⟨o1, _⟩ := oneName h2.2.2.1 (alive_file h2 hf)
    have hn : num I.file = some I.bound := by
      rcases h2.2.2.2.1.2.1 with ⟨e, _⟩ | ⟨_, _, e⟩
      · exact absurd e hf
      · exact e
    have e2 : bestFrom (0, []) [I.file] = (I.bound, I.file) := by simp [bestFrom, hn]
    unfold Disk.opened
    rw [o1, e2]
/-- j numbers more, opened anew -/
def RowInv2 (b j : Nat) (d : Disk) (I : IdsD) : Prop := On d ∧ Alive 1 (b + 16 * j + 4096) 0 d I ∧ I.last = b + j
theorem row2_start {i : Nat} {d : Disk} {I : IdsD} (h : RowInv i d I) (hi : i ≤ 255) : RowInv2 I.bound 0 d d.opened := by
  have ho := row_open h
  obtain ⟨h1, h2, h3, h4, h5, h6⟩ := h
  refine ⟨h1, ⟨h1.1, h2.2.1.mono (Nat.le_refl _) (by omega) (by rw [ho]; exact Nat.le_refl _), h2.2.2.1, opened_live d, Nat.zero_le _, by rw [ho]; show I.bound ≤ _; omega⟩, by rw [ho]; rfl⟩
theorem row2_step {b j : Nat} {d : Disk} {I : IdsD} (h : RowInv2 b j d I) (hb : b ≤ 1000) (hj : j ≤ 1000) (x : Nat) : ∃ d' I', d.next x I = ((b + (j + 1), 0), d', I') ∧ RowInv2 b (j + 1) d' I' ∧ names d'.now = [I'.file] ∧ d'.now.length = 1 := by
  obtain ⟨h1, h2, h3⟩ := h
  rcases alive_next h2 (Nat.le_refl 1) (by omega) (by omega) x with ⟨_, hn, _⟩ | ⟨r1, r2, r3, r4, r5, r6⟩
  · exact absurd h1 hn
  · obtain ⟨r, hr⟩ : ∃ r, d.next x I = r := ⟨_, rfl⟩
    rw [hr] at r1 r2 r3 r4 r5 r6 ⊢
    obtain ⟨r0, d', I'⟩ := r
    rw [h3] at r1 r2 r3
    have r1' : r0 = (b + j + 1, 0) := r1
    have r2' : I'.last = b + j + 1 := r2
    have r3' : Alive 1 (b + 16 * j + 4096 + 16) (b + j + 1) d' I' := r3
    obtain ⟨o1, o2⟩ := oneName r3'.2.2.1 (alive_file r3' r6)
    obtain ⟨a1, a2, a3, a4, a5, a6⟩ := r3'
    exact ⟨d', I', by rw [r1', Nat.add_assoc], ⟨r4 h1, ⟨a1, a2.mono (Nat.le_refl _) (by omega) (Nat.le_refl _), a3, a4, Nat.zero_le _, by omega⟩, by rw [r2']; omega⟩, o1, o2⟩
theorem alive_names {M R last : Nat} {d : Disk} {I : IdsD} (h : Alive M R last d I) : ∀ s ∈ names d.now, s.length ≤ 1000000 := fun s hs => by
  obtain ⟨x, hx⟩ := mem_names.1 hs
  obtain ⟨k, _, e⟩ := h.2.1.now.2.1 _ hx
  have e' : s = nameOf k := e
  rw [e', nameOf_length]
  omega
set_option maxHeartbeats 2000000 in
set_option maxRecDepth 100000 in
theorem rowIn {w : World} (n m : Nat) (hn : n ≤ 255) (hm : m ≤ 255) (hG : GI w) : Calls Tryz.prog 4 #[.int .u8 (n : Int), .int .u8 (m : Int)] w fun e w' => e = .returned (.bool true) ∧ Below w.heap.size w w' := by
  have X0 := new (Below.refl w.heap.size w) 1000
  have HG := Aside0.mk hG
  have hcn : IntKind.i64.wrap (n : Int) = (n : Int) := IntWalk.i64_in _ (by omega)
  have hcm : IntKind.i64.wrap (m : Int) = (m : Int) := IntWalk.i64_in _ (by omega)
  clear hG
  go_enter Tryz.func4, Tryz.ntmps4
  go_wp2_with (first
    | (go_at_call 11; refine X0.mono ?_; rintro e W1 ⟨f, T, rfl, h1, -, -⟩; clear X0; have H1 := Aside0.mk h1; clear h1)
    | (go_at_call 12; refine (openIs H1.out (by omega) HG.out rfl (by decide) (fun s hs => by rw [freshNames] at hs; cases hs)).mono ?_; rintro e W2 ⟨xb, rfl, hc, hx, hb⟩; rw [newW] at hc; have H2 := Aside0.mk (idsOpened H1.out hc hx hb); have HX := Aside0.mk (Nat.le_trans H1.out.below'.size hx); clear hc hx hb H1))
  go_loopw [8, 9, 10] (fun v8 v9 v10 wr => ∃ (i : Nat) (d : Disk) (I : IdsD), i ≤ n ∧ v8 = .int .i64 ((i : Int) + 1) ∧ Aside0 (RowInv i d I) ∧ Aside0 (IdsW w f d (2 * i) xb I wr)) (fun v8 _ _ _ => n + 1 - (intOf v8).toNat)
  case atStart => exact ⟨0, Disk.fresh 1000, ⟨0, 0, []⟩, by omega, rfl, ⟨row_start⟩, ⟨H2.out⟩⟩
  case round =>
    obtain ⟨i, d, I, hi, rfl, HI, HW⟩ := hrel
    clear H2
    by_cases hlt : i < n
    · have hle : (i : Int) + 1 ≤ (n : Int) := by omega
      have hal := alive_len HI.out.2.1
      have XN := nextIs HW.out (by omega) HG.out HX.out hal.1 hal.2.1 hal.2.2
      clear hal
      go_wp2_with (fail)
      refine XN.mono ?_
      rintro e W3 ⟨x, rfl, h3⟩
      obtain ⟨d3, I3, e3, hi3, hn3, hl3⟩ := row_step HI.out (by omega) x
      rw [e3] at h3 ⊢
      have H3 := Aside0.mk (show IdsW w f d3 _ xb I3 W3 from h3)
      have HI3 := Aside0.mk hi3
      have HL3 := Aside0.mk hl3
      have hcast : (((i + 1 : Nat), (0 : Int)).1 : Int) = (i : Int) + 1 := by simp
      clear h3 e3 hi3 hn3 hl3 XN HI HW
      go_wp2_with (first
        | (go_at_call 14; go_loud (refine (listW H3.out (by omega) HI3.out.1.1).mono ?_; rintro e W4 ⟨v4, rfl, hown, hb⟩; rw [HL3.out] at hown; obtain ⟨A4, c4, rfl⟩ := own_slice hown; have H4 := Aside0.mk (H3.out.below hb); clear hown hb H3)))
      go_roundw
      case rel => exact ⟨i + 1, d3, I3, by omega, by go_num, HI3, ⟨(show IdsW w f d3 (2 * (i + 1)) xb I3 W4 from H4.out)⟩⟩
      case measure => simp [intOf]; omega
    · obtain rfl : i = n := by omega
      have hle : ¬ (i : Int) + 1 ≤ (i : Int) := by omega
      have ho := row_open HI.out
      have hb := HI.out.2.2.2.1
      have XO := fun (T : Nat → Prop) (W : World) (hT : FsAt w f d (2 * i) T W) => openIs hT (by omega) HG.out HI.out.1.1 (by have := HI.out.2.1.2.2.1; omega) (alive_names HI.out.2.1)
      have H2 := Aside0.mk (row2_start HI.out hn)
      obtain ⟨J, hJ⟩ : ∃ J, d.opened = J := ⟨_, rfl⟩
      obtain ⟨b, hbb⟩ : ∃ b, I.bound = b := ⟨_, rfl⟩
      rw [hJ] at XO H2 ho
      rw [hbb] at hb H2 ho
      have hb4 : b ≤ 300 := by omega
      have hfrom : ((i : Int) + 15) / 16 * 16 = (b : Int) := by rw [hb]; omega
      have HXO := Aside0.mk XO
      have HJ := Aside0.mk (show J.last = b by rw [ho])
      clear XO hJ hbb hb ho HI
      go_wp2_with (go_at_call 12; obtain ⟨T3, h3, -, -⟩ := HW.out; refine (HXO.out T3 _ h3).mono ?_; rintro e W3 ⟨yb, rfl, hc, hx, hb⟩; have H3 := Aside0.mk (idsOpened h3 hc hx hb); have HY := Aside0.mk (Nat.le_trans h3.below'.size hx); clear hc hx hb h3 HW)
      go_loopw [14, 15, 16] (fun v14 v15 v16 wr => ∃ (j : Nat) (d2 : Disk) (I2 : IdsD), j ≤ m ∧ v14 = .int .i64 ((j : Int) + 1) ∧ Aside0 (RowInv2 b j d2 I2) ∧ Aside0 (IdsW w f d2 (2 * i + 2 * j) yb I2 wr)) (fun v14 _ _ _ => m + 1 - (intOf v14).toNat)
      case atStart => exact ⟨0, d, J, by omega, rfl, ⟨H2.out⟩, ⟨H3.out⟩⟩
      case round =>
        obtain ⟨j, d2, I2, hj, rfl, HI2, HW2⟩ := hrel
        clear H2 H3
        by_cases hlt2 : j < m
        · have hle2 : (j : Int) + 1 ≤ (m : Int) := by omega
          have hal := alive_len HI2.out.2.1
          have XN := nextIs HW2.out (by omega) HG.out HY.out hal.1 hal.2.1 hal.2.2
          clear hal
          go_wp2_with (fail)
          refine XN.mono ?_
          rintro e W4 ⟨x, rfl, h3⟩
          obtain ⟨d3, I3, e3, hi3, hn3, hl3⟩ := row2_step HI2.out (by omega) (by omega) x
          rw [e3] at h3 ⊢
          have H4 := Aside0.mk (show IdsW w f d3 _ yb I3 W4 from h3)
          have HI3 := Aside0.mk hi3
          have HL3 := Aside0.mk hl3
          have hcast : (((b + (j + 1) : Nat), (0 : Int)).1 : Int) = (b : Int) + ((j : Int) + 1) := by simp
          clear h3 e3 hi3 hn3 hl3 XN HI2 HW2
          go_wp2_with (first
            | (go_at_call 14; refine (listW H4.out (by omega) HI3.out.1.1).mono ?_; rintro e W5 ⟨v4, rfl, hown, hb⟩; rw [HL3.out] at hown; obtain ⟨A4, c4, rfl⟩ := own_slice hown; have H5 := Aside0.mk (H4.out.below hb); clear hown hb H4))
          go_roundw
          case rel => exact ⟨j + 1, d3, I3, by omega, by go_num, HI3, ⟨(show IdsW w f d3 (2 * i + 2 * (j + 1)) yb I3 W5 from H5.out)⟩⟩
          case measure => simp [intOf]; omega
        · obtain rfl : j = m := by omega
          have hle2 : ¬ (j : Int) + 1 ≤ (j : Int) := by omega
          have HLL := Aside0.mk HI2.out.2.2
          have HB9 := Aside0.mk HW2.out.below''
          have HC9 := Aside0.mk HW2.out.cells'
          clear HI2 HW2
          by_cases h0 : j = 0
          · subst h0
            go_wp2_with (first
              | (go_at_call 8; refine (answers _ (HG.out.below HB9.out)).mono ?_; rintro e W6 ⟨rfl, hb⟩; have HB6 := Aside0.mk (chain' HB9.out hb); have HC6 := Aside0.mk (HC9.out.below hb); clear hb)
              | (go_at_call 15; refine (lastIs HC6.out).mono ?_; rintro e V7 ⟨rfl, rfl⟩; rw [HLL.out, Nat.add_zero]))
            go_ret
            exact ⟨rfl, HB6.out⟩
          · have hpos : (j : Int) > 0 := by omega
            go_wp2_with (go_at_call 8; refine (answers _ (HG.out.below HB9.out)).mono ?_; rintro e W6 ⟨rfl, hb⟩; have HB6 := Aside0.mk (chain' HB9.out hb); clear hb)
            go_ret
            exact ⟨rfl, HB6.out⟩
theorem idsRow {w : World} (n : Int) (hn : (Lit.int .u8 n).wf = true) (m : Int) (hm : (Lit.int .u8 m).wf = true) (hG : GI w) : Calls Tryz.prog 4 #[.int .u8 n, .int .u8 m] w fun e w' => e = .returned (.bool true) ∧ Below w.heap.size w w' := by
  have hr : ∀ u : Int, (Lit.int .u8 u).wf = true → ∃ k : Nat, u = k ∧ k ≤ 255 := fun u hu => by
    have e1 : IntKind.u8.min = 0 := rfl
    have e2 : IntKind.u8.max = 255 := rfl
    simp only [Lit.wf, e1, e2, Bool.and_eq_true, decide_eq_true_eq] at hu
    exact ⟨u.toNat, by omega, by omega⟩
  obtain ⟨a, rfl, ha⟩ := hr n hn
  obtain ⟨b, rfl, hb⟩ := hr m hm
  exact rowIn a b ha hb hG
end Go.Proofs.YtclhelpcjgmpmaaGreatDoor.Fs
