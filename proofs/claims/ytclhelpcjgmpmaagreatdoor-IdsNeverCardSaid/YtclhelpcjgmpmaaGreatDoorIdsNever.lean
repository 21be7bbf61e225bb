/- law13: IdsNever. -/
import Derived.Test.YtclhelpcjgmpmaaGreatDoorIdsB3
namespace Go.Proofs.YtclhelpcjgmpmaaGreatDoor.Fs
open Go.RowKit Go.Proofs.YtclhelpcjgmpmaaGreatDoor Go.Proofs.YtclhelpcjgmpmaaGreatDoor.Plain Go.Proofs.YtclhelpcjgmpmaaGreatDoorW.PrintWords Go.Maps
set_option linter.unusedVariables false
set_option linter.unusedSimpArgs false
theorem calm_names {M R last : Nat} {d : Disk} (h : Calm M R last d) : ∀ s ∈ names d.now, s.length ≤ 1000000 := fun s hs => by
  obtain ⟨x, hx⟩ := mem_names.1 hs
  obtain ⟨k, _, e⟩ := h.2.2.now.2.1 _ hx
  have e' : s = nameOf k := e
  rw [e', nameOf_length]
  omega
/-- the disk is there, whatever else -/
theorem IdsW.any {w0 W : World} {f N xb : Nat} {d : Disk} {I : IdsD} (h : IdsW w0 f d N xb I W) : FsAny w0 f d N W := by
  obtain ⟨T, h1, _, _⟩ := h
  exact ⟨T, h1⟩
theorem calm_le {M R R' last : Nat} {d : Disk} (h : Calm M R last d) (hR : R ≤ R') : Calm M R' last d := ⟨h.1, h.2.1, h.2.2.mono (Nat.le_refl _) hR (Nat.le_refl _)⟩
set_option maxHeartbeats 4000000 in
set_option maxRecDepth 100000 in
theorem neverIn {w : World} (A : Option Addr) (c : Nat) (fs : List UInt8) (A' : Option Addr) (c' : Nat) (ct : List UInt8) (dirs : Int) (hl : fs.length ≤ 40) (hr : ReadsInt w .u8 A (B fs).length (B fs)) (hr' : ReadsInt w .u8 A' (B ct).length (B ct)) (hG : GI w) :
    Calls Tryz.prog 7 #[.slice A fs.length c, .slice A' ct.length c', .int .i64 dirs] w fun e w' => e = .returned (.bool true) ∧ Below w.heap.size w w' := by
  have HB := Aside0.mk (Below.refl w.heap.size w)
  have HR := Aside0.mk hr
  have HR' := Aside0.mk hr'
  have HG := Aside0.mk hG
  have hgt : ¬ (fs.length : Int) > 40 := by omega
  clear hr hr' hG
  go_enter Tryz.func7, Tryz.ntmps7
  go_wp2_with (go_at_call 11; refine (new HB.out 1000).mono ?_; rintro e W0 ⟨f, T0, rfl, h0, -, -⟩; have H0 := Aside0.mk (show FsAny w f _ _ _ from ⟨_, h0⟩); clear h0)
  go_loopw [8, 9, 10, 11, 12, 13, 14, 15] (fun v8 v9 v10 v11 v12 v13 v14 v15 wr => ∃ (i last : Nat) (d : Disk), i ≤ fs.length ∧ v9 = .int .i64 (i : Int) ∧ v8 = .int .i64 (last : Int) ∧ Aside0 (Calm (i + 1) (640 * i) last d) ∧ Aside0 (FsAny w f d (100 * i) wr)) (fun _ v9 _ _ _ _ _ _ _ => fs.length - (intOf v9).toNat)
  case atStart => exact ⟨0, 0, Disk.fresh 1000, by omega, rfl, rfl, ⟨calm_fresh 1000⟩, ⟨fsAny_le H0.out (by omega)⟩⟩
  case round =>
    obtain ⟨i, last, d, hi, rfl, rfl, HC, HF⟩ := hrel
    clear H0
    by_cases hlt : i < fs.length
    · obtain ⟨T, hf⟩ := HF.out
      obtain ⟨ad, hA, hcs⟩ := HR.out.2.2 (by rw [B_length]; omega)
      subst hA
      have HCS := Aside0.mk (fun X (hX : Below w.heap.size w X) => pw_cell_below hX (hcs i (by rw [B_length]; exact hlt)))
      have hby : 0 ≤ (B fs).getD i 0 ∧ (B fs).getD i 0 ≤ 255 := by
        simp only [B, List.getD_eq_getElem?_getD, List.getElem?_map, List.getElem?_eq_getElem hlt, Option.map_some, Option.getD_some]
        have := (fs[i]).toNat_lt
        omega
      obtain ⟨u, hu⟩ : ∃ u, (B fs).getD i 0 = u := ⟨_, rfl⟩
      rw [hu] at HCS hby
      have HF1 := Aside0.mk hf
      clear hf hcs hu HF
      have ha := calm_open HC.out (by omega)
      have hnm := calm_names HC.out
      have hln : d.now.length ≤ 1000000 := by have := HC.out.2.2.now.1; omega
      have hon := HC.out.1
      obtain ⟨I, hI⟩ : ∃ I, d.opened = I := ⟨_, rfl⟩
      have XO := openIs HF1.out (by omega) HG.out hon.1 hln hnm
      rw [hI] at ha XO
      have HA := Aside0.mk ha
      have HWF := Aside0.mk (show (Lit.int .i64 (u % 12)).wf = true from wfSmall (by omega) (by omega))
      clear ha hnm hln hon hI HC
      by_cases hct : i < ct.length
      · obtain ⟨ad', hA', hcs'⟩ := HR'.out.2.2 (by rw [B_length]; omega)
        subst hA'
        have HCT := Aside0.mk (fun X (hX : Below w.heap.size w X) => pw_cell_below hX (hcs' i (by rw [B_length]; exact hct)))
        have hby' : 0 ≤ (B ct).getD i 0 ∧ (B ct).getD i 0 ≤ 255 := by
          simp only [B, List.getD_eq_getElem?_getD, List.getElem?_map, List.getElem?_eq_getElem hct, Option.map_some, Option.getD_some]
          have := (ct[i]).toNat_lt
          omega
        obtain ⟨v, hv⟩ : ∃ v, (B ct).getD i 0 = v := ⟨_, rfl⟩
        rw [hv] at HCT hby'
        obtain ⟨nn, hnn⟩ : ∃ nn : Nat, v % 40 = (nn : Int) := ⟨(v % 40).toNat, by omega⟩
        have hn39 : nn ≤ 39 := by omega
        clear hcs' hv
        go_wp2_with (first
          | (go_at_call 12; refine XO.mono ?_; rintro e W2 ⟨xb, rfl, hc, hx, hb⟩; have H2 := Aside0.mk (idsOpened HF1.out hc hx hb); have HX := Aside0.mk (Nat.le_trans HF1.out.below'.size hx); have hcu := HCS.out _ H2.out.below''; clear hc hx hb HF1 XO)
          | (go_at_call 17; go_loud (obtain ⟨T2, h2, hc2, hx2⟩ := H2.out; refine (fuse h2 (u % 12) HWF.out).mono ?_; rintro e W3 ⟨rfl, h3, ht3⟩; have H3 := Aside0.mk (IdsW.of_turn hc2 hx2 ht3 h3); have HA3 := Aside0.mk (alive_fuse HA.out (u % 12)); have hcv := HCT.out _ H3.out.below''; clear h2 hc2 hx2 h3 ht3 H2 HA)))
        obtain ⟨d3, hd3⟩ : ∃ d3, d.setFuse (u % 12) = d3 := ⟨_, rfl⟩
        rw [hd3] at H3 HA3
        clear hd3
        clear hnn
        go_loopw [8, 13, 14, 15] (fun v8 v13 v14 v15 wr => ∃ (k last2 : Nat) (d2 : Disk) (I2 : IdsD), k ≤ nn ∧ v13 = .int .i64 (k : Int) ∧ v8 = .int .i64 (last2 : Int) ∧ Aside0 (Alive (i + 1) (640 * i + 16 * k) last2 d2 I2) ∧ Aside0 (IdsW w f d2 (100 * i + 2 * k) xb I2 wr)) (fun _ v13 _ _ _ => nn - (intOf v13).toNat)
        case atStart => exact ⟨0, last, d3, I, by omega, rfl, rfl, ⟨HA3.out⟩, ⟨H3.out⟩⟩
        case round =>
          obtain ⟨k, last2, d2, I2, hk, rfl, rfl, HA2, HI2⟩ := hrel
          clear HA3 H3
          by_cases hkn : k < nn
          · have hal := alive_len HA2.out
            have XN := nextIs HI2.out (by omega) HG.out HX.out hal.1 hal.2.1 hal.2.2
            clear hal
            go_wp2_with (fail)
            refine XN.mono ?_
            rintro e W5 ⟨x, rfl, h5⟩
            clear XN
            have hnx := alive_next HA2.out (by omega) (by omega) (by omega) x
            have hll : last2 ≤ I2.last := HA2.out.2.2.2.2.1
            obtain ⟨l2, hl2⟩ : ∃ l2, I2.last = l2 := ⟨_, rfl⟩
            obtain ⟨r, hrr⟩ : ∃ r, d2.next x I2 = r := ⟨_, rfl⟩
            rw [hrr] at h5 hnx
            rw [hrr]
            rw [hl2] at hnx hll
            obtain ⟨⟨m, g⟩, d5, I5⟩ := r
            have hl9 : l2 ≤ 999999999 := by rw [← hl2]; exact (alive_len HA2.out).1
            rcases hnx with ⟨e1, -, hdead⟩ | ⟨e1, hl5, ha5, -, -, -⟩
            · obtain ⟨rfl, rfl⟩ := Prod.mk.inj e1
              have HDD := Aside0.mk hdead
              have H5 := Aside0.mk (show FsAny w f d5 _ W5 from h5.any)
              clear e1 hdead h5 hrr hl2 hll hl9 HA2 HI2
              go_wp2_with (go_at_call 18; obtain ⟨T5, h5⟩ := H5.out; refine (crash h5 (by omega) dirs 0).mono ?_; rintro e W6 ⟨rfl, T6, h6, -⟩; have H6 := Aside0.mk (show FsAny w f _ _ _ from ⟨_, h6⟩); clear h5 h6)
              go_roundw
              case rel => exact ⟨i + 1, last2, _, by omega, by go_num, rfl, ⟨(show Calm (i + 1 + 1) (640 * (i + 1)) last2 (d5.crash dirs 0) from calm_le (dead_crash HDD.out dirs 0) (by omega))⟩, ⟨fsAny_le H6.out (by omega)⟩⟩
              case measure => simp [intOf]; omega
            · obtain ⟨rfl, rfl⟩ := Prod.mk.inj e1
              have HA5 := Aside0.mk (show Alive (i + 1) (640 * i + 16 * k + 16) (l2 + 1) d5 I5 from ha5)
              have H5 := Aside0.mk (show IdsW w f d5 _ xb I5 W5 from h5)
              have HL5 := Aside0.mk (show I5.last = l2 + 1 from hl5)
              have hw1 : ((l2 + 1 : Nat) : Int) = (l2 : Int) + 1 := by omega
              have hnz : ((l2 : Int) + 1 == 0) = false := by simp; omega
              have hnle : ¬ (l2 : Int) + 1 ≤ (last2 : Int) := by omega
              clear e1 ha5 h5 hl5 hrr hl2 hl9 HA2 HI2
              go_wp2_with (go_at_call 15; refine (lastIs H5.out.cells').mono ?_; rintro e W6 ⟨rfl, rfl⟩; rw [HL5.out])
              go_roundw
              case rel => exact ⟨k + 1, l2 + 1, d5, I5, by omega, by go_num, by go_num, ⟨(show Alive (i + 1) (640 * i + 16 * (k + 1)) (l2 + 1) d5 I5 from HA5.out)⟩, ⟨(show IdsW w f d5 (100 * i + 2 * (k + 1)) xb I5 W6 from H5.out)⟩⟩
              case measure => simp [intOf]; omega
          · have HCR := Aside0.mk (alive_crash HA2.out dirs 0)
            have H5 := Aside0.mk HI2.out.any
            clear HA2 HI2
            go_wp2_with (go_at_call 18; obtain ⟨T5, h5⟩ := H5.out; refine (crash h5 (by omega) dirs 0).mono ?_; rintro e W6 ⟨rfl, T6, h6, -⟩; have H6 := Aside0.mk (show FsAny w f _ _ _ from ⟨_, h6⟩); clear h5 h6)
            go_roundw
            case rel => exact ⟨i + 1, last2, _, by omega, by go_num, rfl, ⟨(show Calm (i + 1 + 1) (640 * (i + 1)) last2 (d2.crash dirs 0) from calm_le HCR.out (by omega))⟩, ⟨fsAny_le H6.out (by omega)⟩⟩
            case measure => simp [intOf]; omega
      · skip
        go_wp2_with (first
          | (go_at_call 12; refine XO.mono ?_; rintro e W2 ⟨xb, rfl, hc, hx, hb⟩; have H2 := Aside0.mk (idsOpened HF1.out hc hx hb); have HX := Aside0.mk (Nat.le_trans HF1.out.below'.size hx); have hcu := HCS.out _ H2.out.below''; clear hc hx hb HF1 XO)
          | (go_at_call 17; go_loud (obtain ⟨T2, h2, hc2, hx2⟩ := H2.out; refine (fuse h2 (u % 12) HWF.out).mono ?_; rintro e W3 ⟨rfl, h3, ht3⟩; have H3 := Aside0.mk (IdsW.of_turn hc2 hx2 ht3 h3); have HA3 := Aside0.mk (alive_fuse HA.out (u % 12)); clear h2 hc2 hx2 h3 ht3 H2 HA)))
        obtain ⟨d3, hd3⟩ : ∃ d3, d.setFuse (u % 12) = d3 := ⟨_, rfl⟩
        rw [hd3] at H3 HA3
        clear hd3
        go_loopw [8, 13, 14, 15] (fun v8 v13 v14 v15 wr => v13 = .int .i64 0 ∧ v8 = .int .i64 (last : Int) ∧ Aside0 (IdsW w f d3 (100 * i) xb I wr)) (fun _ _ _ _ _ => 0)
        case atStart => exact ⟨rfl, rfl, ⟨H3.out⟩⟩
        case round =>
          obtain ⟨rfl, rfl, HI2⟩ := hrel
          have HCR := Aside0.mk (alive_crash HA3.out dirs 0)
          have H5 := Aside0.mk HI2.out.any
          clear HA3 HI2 H3
          go_wp2_with (go_at_call 18; obtain ⟨T5, h5⟩ := H5.out; refine (crash h5 (by omega) dirs 0).mono ?_; rintro e W6 ⟨rfl, T6, h6, -⟩; have H6 := Aside0.mk (show FsAny w f _ _ _ from ⟨_, h6⟩); clear h5 h6)
          go_roundw
          case rel => exact ⟨i + 1, last, _, by omega, by go_num, rfl, ⟨(show Calm (i + 1 + 1) (640 * (i + 1)) last (d3.crash dirs 0) from calm_le HCR.out (by omega))⟩, ⟨fsAny_le H6.out (by omega)⟩⟩
          case measure => simp [intOf]; omega
    · go_wp2_with (go_at_call 8; obtain ⟨T9, h9⟩ := HF.out; refine (answers _ (HG.out.below h9.below')).mono ?_; rintro e X1 ⟨rfl, hb⟩; have HB9 := Aside0.mk (chain' h9.below' hb); clear hb h9)
      go_ret
      exact ⟨rfl, HB9.out⟩
theorem idsNever {w : World} (A : Option Addr) (n c : Nat) (fs : List UInt8) (hr : ReadsInt w .u8 A n (B fs)) (hc : n ≤ c) (hy : n ≤ 140737488351232) (A' : Option Addr) (n' c' : Nat) (ct : List UInt8) (hr' : ReadsInt w .u8 A' n' (B ct)) (hc' : n' ≤ c') (hy' : n' ≤ 140737488351232) (dirs : Int) (hd : (Lit.int .i64 dirs).wf = true) (hG : GI w) :
    Calls Tryz.prog 7 #[.slice A n c, .slice A' n' c', .int .i64 dirs] w fun e w' => e = .returned (.bool true) ∧ Below w.heap.size w w' := by
  have e1 : n = fs.length := by rw [← hr.1, B_length]
  have e2 : n' = ct.length := by rw [← hr'.1, B_length]
  subst e1 e2
  by_cases h : (fs.length : Int) > 40
  · have HA := Aside0.mk (answers w hG)
    clear hr hr' hG hd
    go_enter Tryz.func7, Tryz.ntmps7
    go_wp2_with (go_at_call 8; refine HA.out.mono ?_; rintro e X1 ⟨rfl, hb⟩; have HB9 := Aside0.mk hb; clear hb)
    go_ret
    exact ⟨rfl, HB9.out⟩
  · exact neverIn A c fs A' c' ct dirs (by omega) (by rw [B_length]; exact hr) (by rw [B_length]; exact hr') hG
end Go.Proofs.YtclhelpcjgmpmaaGreatDoor.Fs
