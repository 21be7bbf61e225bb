/- law04: FsFuse. -/
import Derived.Test.YtibmgcihpbofdaaFsAtomicLaw
import Derived.Test.YtibmgcihpbofdaaFsFusePure
namespace Go.Proofs.Ytibmgcihpbofdaa.Fs
open Go.RowKit Go.Proofs.Ytibmgcihpbofdaa Go.Proofs.Ytibmgcihpbofdaa.Plain Go.Proofs.YtibmgcihpbofdaaW.PrintWords Go.Maps
set_option linter.unusedVariables false
set_option linter.unusedSimpArgs false
set_option maxHeartbeats 1000000 in
set_option maxRecDepth 100000 in
theorem listDown {w0 W : World} {f : Nat} {d : Disk} {N : Nat} {T : Nat → Prop} (h : FsAt w0 f d N T W) (hd : d.down = true) :
    Calls Try.prog 24 #[.pointer (some ⟨f, 0, none⟩)] W fun e W' => e = .returned (.slice none 0 0) ∧ W' = W := by
  obtain ⟨bn, bs, vl, fs, vb, c0⟩ := h
  obtain ⟨_, _, _, _, _, hc⟩ := c0.cells
  rw [hd] at hc
  clear c0 hd
  go_enter Try.func24, Try.ntmps24
  go_wp2
  go_ret
  exact ⟨rfl, rfl⟩
theorem oneData (W : World) : ReadsInt (W.alloc (.cells #[.int .u8 1] 5)) .u8 (some ⟨W.heap.size, 0, none⟩) (B [1]).length (B [1]) := by
  refine ⟨rfl, by decide, fun _ => ⟨_, rfl, fun j hj => ?_⟩⟩
  have hj' : j < 1 := hj
  obtain rfl : j = 0 := by omega
  have h := heap_alloc_new W (.cells #[.int .u8 1] 5)
  show (World.cell? _ ⟨W.heap.size, 0, none⟩) = _
  unfold World.cell?
  rw [h]
  rfl
def FsAny (w0 : World) (f : Nat) (d : Disk) (N : Nat) (W : World) : Prop := ∃ T, FsAt w0 f d N T W
theorem fsAny_step {w0 W : World} {f i : Nat} {d : Disk} {T : Nat → Prop} (h : FsAt w0 f d (1 + 2 * i + [(1 : UInt8)].length + 1) T W) : FsAny w0 f d (1 + 2 * (i + 1)) W := by
  have e : 1 + 2 * (i + 1) = 1 + 2 * i + [(1 : UInt8)].length + 1 := by simp; omega
  rw [e]
  exact ⟨T, h⟩
set_option maxHeartbeats 1000000 in
set_option maxRecDepth 100000 in
theorem fuseIn {w : World} (u : List UInt8) (hz : u.length ≤ 140737488351232) (k : Nat) (hk : k ≤ 255) (hu : rightB u = true) :
    Calls Try.prog 6 #[.int .u8 (k : Int), .string (S u)] w fun e w' => e = .returned (.bool true) ∧ Below w.heap.size w w' := by
  have HB := Aside0.mk (Below.refl w.heap.size w)
  have RU := Aside0.mk (refName u hz)
  rw [hu] at RU
  have HU := Aside0.mk hu
  have HKW := Aside0.mk (show (Lit.int .i64 (k : Int)).wf = true from wfSmall (by omega) (by omega))
  clear hu
  go_enter Try.func6, Try.ntmps6
  go_wp2_with (first
    | (go_at_call 10; refine (RU.out _).mono ?_; rintro e X1 ⟨rfl, hb⟩; have HB := Aside0.mk (chain' HB.out hb.below); clear hb RU)
    | (go_at_call 12; refine (new HB.out 5000).mono ?_; rintro e W0 ⟨f, T0, rfl, h0, -, -⟩; have H0 := Aside0.mk h0; clear h0)
    | (go_at_call 13; refine (create H0.out (by omega) u hz).mono ?_; rintro e W1 ⟨x, -, rfl, T1, h1, -⟩; have H1 := Aside0.mk h1; clear h1 H0)
    | (go_at_call 21; refine (fuse H1.out (k : Int) HKW.out).mono ?_; rintro e W2 ⟨rfl, h2, -⟩; have H2 := Aside0.mk (show FsAny w f _ _ _ from ⟨_, h2⟩); clear h2 H1))
  have HS := Aside0.mk (fuse_start HU.out x k)
  obtain ⟨d0, e0⟩ : ∃ d0, (((Disk.fresh 5000).create x u).2.setFuse (k : Int)) = d0 := ⟨_, rfl⟩
  rw [e0] at HS H2
  clear e0
  go_loopw [6, 7] (fun v6 v7 wr => ∃ (i : Nat) (d : Disk), i ≤ 300 ∧ v7 = .int .i64 i ∧ v6 = .int .i64 (min i k : Nat) ∧ Aside0 (FuseAt u x k i d) ∧ Aside0 (FsAny w f d (1 + 2 * i) wr)) (fun _ v7 _ => 300 - (intOf v7).toNat)
  case atStart => exact ⟨0, d0, by omega, rfl, by simp, HS, H2⟩
  case round =>
    obtain ⟨i, d, hi, rfl, rfl, HA, HF⟩ := hrel
    clear HS H2
    by_cases hlt : i < 300
    · have hst := fuse_step HU.out hlt HA.out
      obtain ⟨p, hp⟩ : ∃ p, d.append u [1] = p := ⟨_, rfl⟩
      rw [hp] at hst
      obtain ⟨r, d'⟩ := p
      obtain ⟨hr, hst⟩ := hst
      have HST := Aside0.mk hst
      have HP := Aside0.mk hp
      obtain ⟨T, hf⟩ := HF.out
      have XA := Aside0.mk (fun X (hX : Below wr.heap.size wr X) A c hrd => append (hf.step hX) u hz [1] (by simp; omega) A 1 c rfl hrd)
      clear hst hp hf
      by_cases hik : i < k
      · obtain rfl : r = 0 := by rw [if_pos hik] at hr; exact hr
        have hmin : min (i : Int) (k : Int) = i := by omega
        have hmn : min i k = i := by omega
        rw [hmn]
        clear hr
        go_wp2_with (go_at_call 14; refine (XA.out _ (below_alloc (Below.refl _ _) _) _ _ (oneData wr)).mono ?_; rintro e W3 ⟨rfl, T3, h3, -⟩; rw [HP.out] at h3 ⊢; have H3 := Aside0.mk (show FsAny w f d' (1 + 2 * (i + 1)) W3 from fsAny_step h3); clear h3 XA)
        go_roundw
        case rel => exact ⟨i + 1, d', by omega, by go_num, by rw [show min (i + 1) k = i + 1 by omega]; go_num, HST, H3⟩
        case measure => simp [intOf]; omega
      · obtain rfl : r = 2 := by rw [if_neg hik] at hr; exact hr
        have hmn : min i k = k := by omega
        rw [hmn]
        clear hr
        go_wp2_with (go_at_call 14; refine (XA.out _ (below_alloc (Below.refl _ _) _) _ _ (oneData wr)).mono ?_; rintro e W3 ⟨rfl, T3, h3, -⟩; rw [HP.out] at h3 ⊢; have H3 := Aside0.mk (show FsAny w f d' (1 + 2 * (i + 1)) W3 from fsAny_step h3); clear h3 XA)
        go_roundw
        case rel => exact ⟨i + 1, d', by omega, by go_num, by rw [show min (i + 1) k = k by omega], HST, H3⟩
        case measure => simp [intOf]; omega
    · obtain rfl : i = 300 := by omega
      have hmn : min 300 k = k := by omega
      rw [hmn]
      obtain ⟨T, hf⟩ := HF.out
      have HD := Aside0.mk (fuse_down hk HA.out)
      have HEN := Aside0.mk (fuse_end HU.out hk HA.out)
      have H5 := Aside0.mk hf
      have HL9 := Aside0.mk (show (B (List.replicate k 1)).length = k by rw [B_length, List.length_replicate])
      have hself : ((k : Int) == (k : Int)) = true := by simp
      clear hf hlt hi HA HF hmn
      go_wp2_with (first
        | (go_at_call 16; refine (read H7.out (by omega) u hz).mono ?_; rintro e W9 ⟨v9, rfl, hown, hB⟩; rw [HEN.out.1] at hown ⊢; obtain ⟨A9, c9, rfl⟩ := own_slice hown; rw [HL9.out]; have H8 := Aside0.mk (H7.out.step hB); clear hown hB H7)
        | (go_at_call 16; refine (read H5.out (by omega) u hz).mono ?_; rintro e W4 ⟨v4, rfl, hown, hB⟩; rw [fuse_read HU.out HD.out]; have H6 := Aside0.mk (H5.out.step hB); clear hown hB H5)
        | (go_at_call 23; refine (down H9.out).mono ?_; rintro e W5 ⟨rfl, rfl⟩; rw [HEN.out.2])
        | (go_at_call 23; refine (down H6.out).mono ?_; rintro e W5 ⟨rfl, rfl⟩; rw [HD.out])
        | (go_at_call 24; refine (listDown H6.out HD.out).mono ?_; rintro e W5 ⟨rfl, rfl⟩)
        | (go_at_call 13; refine (show Calls _ _ #[_, .string ⟨#[122, 122]⟩] _ _ from create H6.out (by omega) [122, 122] (by simp)).mono ?_; rintro e W6 ⟨z, -, rfl, T6, h6, -⟩; rw [fuse_create HD.out] at h6 ⊢; have H6b := Aside0.mk h6; clear h6 H6)
        | (go_at_call 18; refine (dirSync H6b.out).mono ?_; rintro e W7 ⟨rfl, T7, h7, -⟩; rw [fuse_dirSync HD.out] at h7 ⊢; have H6c := Aside0.mk h7; clear h7 H6b)
        | (go_at_call 20; refine (crash H6c.out (by omega) 9 999).mono ?_; rintro e W8 ⟨rfl, T8, h8, -⟩; have H7 := Aside0.mk h8; clear h8 H6c)
        | (go_at_call 11; refine (answers _).mono ?_; rintro e X1 ⟨rfl, hb⟩; have H9 := Aside0.mk (H8.out.step hb); clear hb H8))
      go_ret
      exact ⟨rfl, H9.out.below'⟩
theorem fsFuse {w : World} (k : Int) (hk : (Lit.int .u8 k).wf = true) (u : List UInt8) (hz : u.length ≤ 140737488351232) (hG : Glob w) :
    Calls Try.prog 6 #[.int .u8 k, .string (S u)] w fun e w' => e = .returned (.bool true) ∧ Below w.heap.size w w' := by
  have hk' : 0 ≤ k ∧ k ≤ 255 := by
    have e1 : IntKind.u8.min = 0 := rfl
    have e2 : IntKind.u8.max = 255 := rfl
    simp only [Lit.wf, e1, e2, Bool.and_eq_true, decide_eq_true_eq] at hk
    omega
  cases hu : rightB u with
  | true =>
    obtain ⟨n, rfl⟩ : ∃ n : Nat, k = n := ⟨k.toNat, by omega⟩
    exact fuseIn u hz n (by omega) hu
  | false =>
    have HB := Aside0.mk (Below.refl w.heap.size w)
    have RU := Aside0.mk (refName u hz)
    rw [hu] at RU
    clear hu
    go_enter Try.func6, Try.ntmps6
    go_wp2_with (first
      | (go_at_call 10; refine (RU.out _).mono ?_; rintro e X1 ⟨rfl, hb⟩; have HB := Aside0.mk (chain' HB.out hb.below); clear hb RU)
      | (go_at_call 11; refine (answers _).mono ?_; rintro e X1 ⟨rfl, hb⟩; have HB := Aside0.mk (chain' HB.out hb); clear hb))
    go_ret
    exact ⟨rfl, HB.out⟩
end Go.Proofs.Ytibmgcihpbofdaa.Fs
