/- law04: FsSure. -/
import Derived.Test.YtibmgcihpbofdaaFsLive
import Derived.Test.YtibmgcihpbofdaaFsSureApp
namespace Go.Proofs.Ytibmgcihpbofdaa.Fs
open Go.RowKit Go.Proofs.Ytibmgcihpbofdaa Go.Proofs.Ytibmgcihpbofdaa.Plain Go.Proofs.YtibmgcihpbofdaaW.PrintWords Go.Maps
set_option linter.unusedVariables false
set_option linter.unusedSimpArgs false
section
variable {w : World} (u v : List UInt8) (hz : u.length ≤ 140737488351232) (hz' : v.length ≤ 140737488351232) (A : Option Addr) (c : Nat) (data : List UInt8) (A' : Option Addr) (c' : Nat) (more : List UInt8) (n m : Int)
include hz hz'
set_option maxHeartbeats 1000000 in
set_option maxRecDepth 100000 in
theorem sureOut (hy : data.length ≤ 140737488351232) (hy' : more.length ≤ 140737488351232) (hout : rightB u = false ∨ rightB v = false ∨ u = v ∨ 1000 < data.length + more.length) :
    Calls Try.prog 4 #[.string (S u), .string (S v), .slice A data.length c, .slice A' more.length c', .int .i64 n, .int .i64 m] w fun e w' => e = .returned (.bool true) ∧ Below w.heap.size w w' := by
  have hb0 := Below.refl w.heap.size w
  have HB := Aside0.mk hb0
  have RU := Aside0.mk (refName u hz)
  have RV := Aside0.mk (refName v hz')
  clear hb0
  have hsum : IntKind.i64.wrap ((data.length : Int) + (more.length : Int)) = (data.length : Int) + more.length := IntWalk.i64_in _ (by omega)
  cases hu : rightB u with
  | false =>
    rw [hu] at RU
    clear hout hu
    go_enter Try.func4, Try.ntmps4
    go_wp2_with (first
      | (go_at_call 10; refine (RU.out _).mono ?_; rintro e X1 ⟨rfl, hb⟩; have HB := Aside0.mk (chain' HB.out hb.below); clear hb)
      | (go_at_call 11; refine (answers _).mono ?_; rintro e X1 ⟨rfl, hb⟩; have HB := Aside0.mk (chain' HB.out hb); clear hb))
    go_ret
    exact ⟨rfl, HB.out⟩
  | true =>
    rw [hu] at RU
    cases hv : rightB v with
    | false =>
      rw [hv] at RV
      clear hout hu hv
      go_enter Try.func4, Try.ntmps4
      go_wp2_with (first
        | (go_at_call 10; refine (RU.out _).mono ?_; rintro e X1 ⟨rfl, hb⟩; have HB := Aside0.mk (chain' HB.out hb.below); clear hb RU)
        | (go_at_call 10; refine (RV.out _).mono ?_; rintro e X1 ⟨rfl, hb⟩; have HB := Aside0.mk (chain' HB.out hb.below); clear hb)
        | (go_at_call 11; refine (answers _).mono ?_; rintro e X1 ⟨rfl, hb⟩; have HB := Aside0.mk (chain' HB.out hb); clear hb))
      go_ret
      exact ⟨rfl, HB.out⟩
    | true =>
      rw [hv] at RV
      by_cases huv : u = v
      · subst huv
        have hself : (u == u) = true := by simp
        clear hout hu hv
        go_enter Try.func4, Try.ntmps4
        go_wp2_with (first
          | (go_at_call 10; refine (RU.out _).mono ?_; rintro e X1 ⟨rfl, hb⟩; have HB := Aside0.mk (chain' HB.out hb.below); clear hb)
          | (go_at_call 11; refine (answers _).mono ?_; rintro e X1 ⟨rfl, hb⟩; have HB := Aside0.mk (chain' HB.out hb); clear hb))
        go_ret
        exact ⟨rfl, HB.out⟩
      · have hne : (u == v) = false := by simpa using huv
        have hlen : 1000 < data.length + more.length := by
          rcases hout with h | h | h | h
          · rw [hu] at h; cases h
          · rw [hv] at h; cases h
          · exact absurd h huv
          · exact h
        have hgt : (data.length : Int) + more.length > 1000 := by omega
        clear hout hu hv huv hlen
        go_enter Try.func4, Try.ntmps4
        go_wp2_with (first
          | (go_at_call 10; refine (RU.out _).mono ?_; rintro e X1 ⟨rfl, hb⟩; have HB := Aside0.mk (chain' HB.out hb.below); clear hb RU)
          | (go_at_call 10; refine (RV.out _).mono ?_; rintro e X1 ⟨rfl, hb⟩; have HB := Aside0.mk (chain' HB.out hb.below); clear hb)
          | (go_at_call 11; refine (answers _).mono ?_; rintro e X1 ⟨rfl, hb⟩; have HB := Aside0.mk (chain' HB.out hb); clear hb))
        go_ret
        exact ⟨rfl, HB.out⟩
set_option maxHeartbeats 2000000 in
set_option maxRecDepth 100000 in
theorem sureIn (hu : rightB u = true) (hv : rightB v = true) (huv : u ≠ v) (hlen : data.length + more.length ≤ 1000) (hr : ReadsInt w .u8 A (B data).length (B data)) (hr' : ReadsInt w .u8 A' (B more).length (B more)) (hm : (Lit.int .i64 m).wf = true) :
    Calls Try.prog 4 #[.string (S u), .string (S v), .slice A data.length c, .slice A' more.length c', .int .i64 n, .int .i64 m] w fun e w' => e = .returned (.bool true) ∧ Below w.heap.size w w' := by
  have HB := Aside0.mk (Below.refl w.heap.size w)
  have RU := Aside0.mk (refName u hz)
  have RV := Aside0.mk (refName v hz')
  have hne : (u == v) = false := by simpa using huv
  rw [hu] at RU
  rw [hv] at RV
  have HU := Aside0.mk hu
  have HV := Aside0.mk hv
  have HUV := Aside0.mk huv
  have HR := Aside0.mk hr
  have HR' := Aside0.mk hr'
  have hsum : IntKind.i64.wrap ((data.length : Int) + (more.length : Int)) = (data.length : Int) + more.length := IntWalk.i64_in _ (by omega)
  have hgt : ¬ (data.length : Int) + more.length > 1000 := by omega
  clear hu hv huv hr hr'
  go_enter Try.func4, Try.ntmps4
  go_wp2_with (first
    | (go_at_call 10; refine (RU.out _).mono ?_; rintro e X1 ⟨rfl, hb⟩; have HB := Aside0.mk (chain' HB.out hb.below); clear hb RU)
    | (go_at_call 10; refine (RV.out _).mono ?_; rintro e X1 ⟨rfl, hb⟩; have HB := Aside0.mk (chain' HB.out hb.below); clear hb)
    | (go_at_call 12; refine (new HB.out 5000).mono ?_; rintro e W0 ⟨f, T0, rfl, h0, -, -⟩; have H0 := Aside0.mk h0; clear h0)
    | (go_at_call 13; refine (create H0.out (by omega) u hz).mono ?_; rintro e W1 ⟨x, -, rfl, T1, h1, -⟩; obtain ⟨d1, e1⟩ : ∃ d1, ((Disk.fresh 5000).create x u).2 = d1 := ⟨_, rfl⟩; rw [e1] at h1; have H1 := Aside0.mk h1; have E1 := Aside0.mk e1; clear h1 e1 H0)
    | (go_at_call 13; refine (create H1.out (by omega) v hz').mono ?_; rintro e W2 ⟨y, hy, rfl, T2, h2, -⟩; obtain ⟨d2, e2⟩ : ∃ d2, (d1.create y v).2 = d2 := ⟨_, rfl⟩; rw [e2] at h2; have H2 := Aside0.mk h2; have E2 := Aside0.mk e2; have HY := Aside0.mk hy; clear h2 e2 hy H1)
    | (go_at_call 14; refine (append H2.out u hz data (by omega) A data.length c rfl (HR.out.below H2.out.below')).mono ?_; rintro e W3 ⟨rfl, T3, h3, -⟩; obtain ⟨d3, e3⟩ : ∃ d3, (d2.append u data).2 = d3 := ⟨_, rfl⟩; rw [e3] at h3; have H3 := Aside0.mk h3; have E3 := Aside0.mk e3; clear h3 e3 H2)
    | (go_at_call 17; refine (sync H3.out (by omega) u hz).mono ?_; rintro e W4 ⟨rfl, T4, h4, -⟩; obtain ⟨d4, e4⟩ : ∃ d4, (d3.sync u).2 = d4 := ⟨_, rfl⟩; rw [e4] at h4; have H4 := Aside0.mk h4; have E4 := Aside0.mk e4; clear h4 e4 H3)
    | (go_at_call 18; refine (dirSync H4.out).mono ?_; rintro e W5 ⟨rfl, T5, h5, -⟩; obtain ⟨d5, e5⟩ : ∃ d5, d4.dirSync.2 = d5 := ⟨_, rfl⟩; rw [e5] at h5; have H5 := Aside0.mk h5; have E5 := Aside0.mk e5; clear h5 e5 H4)
    | (go_at_call 14; refine (append H5.out u hz more (by omega) A' more.length c' rfl (HR'.out.below H5.out.below')).mono ?_; rintro e W6 ⟨rfl, T6, h6, -⟩; obtain ⟨d6, e6⟩ : ∃ d6, (d5.append u more).2 = d6 := ⟨_, rfl⟩; rw [e6] at h6; have H6 := Aside0.mk h6; have E6 := Aside0.mk e6; clear h6 e6 H5)
    | (go_at_call 19; refine (unlink H6.out (by omega) v hz').mono ?_; rintro e W7 ⟨rfl, T7, h7, -⟩; obtain ⟨d7, e7⟩ : ∃ d7, (d6.unlink v).2 = d7 := ⟨_, rfl⟩; rw [e7] at h7; have H7 := Aside0.mk h7; have E7 := Aside0.mk e7; clear h7 e7 H6)
    | (go_at_call 18; refine (dirSync H7.out).mono ?_; rintro e W8 ⟨rfl, T8, h8, -⟩; obtain ⟨d8, e8⟩ : ∃ d8, d7.dirSync.2 = d8 := ⟨_, rfl⟩; rw [e8] at h8; have H8 := Aside0.mk h8; have E8 := Aside0.mk e8; clear h8 e8 H7)
    | (go_at_call 13; refine (create H8.out (by omega) v hz').mono ?_; rintro e W9 ⟨z, hzz, rfl, T9, h9, -⟩; obtain ⟨d9, e9⟩ : ∃ d9, (d8.create z v).2 = d9 := ⟨_, rfl⟩; rw [e9] at h9; have H9 := Aside0.mk h9; have E9 := Aside0.mk e9; have HZ := Aside0.mk hzz; clear h9 e9 hzz H8)
    | (go_at_call 20; refine (crash H9.out (by omega) n m).mono ?_; rintro e W10 ⟨rfl, T10, h10, -⟩; have H10 := Aside0.mk h10; clear h10 H9))
  have hend := sureEnd HU.out HV.out HUV.out hlen E1.out HY.out E2.out E3.out E4.out E5.out E6.out E7.out E8.out HZ.out E9.out n m
  have X := read H10.out (by omega) u hz
  have XV := fun X (hX : Below W10.heap.size W10 X) => read (H10.out.step hX) (by omega) v hz'
  rw [hend.1] at X
  rw [hend.2] at XV
  have HB10 := Aside0.mk H10.out.below'
  have HXV := Aside0.mk XV
  clear hend E1 E2 E3 E4 E5 E6 E7 E8 E9 HY HZ H10 XV
  obtain ⟨r, hr⟩ : ∃ r, (data ++ more).take (data.length + min (max m 0).toNat more.length) = r := ⟨_, rfl⟩
  obtain ⟨k, hk⟩ : ∃ k, data.length + min (max m 0).toNat more.length = k := ⟨_, rfl⟩
  rw [hr] at X
  have HRK := Aside0.mk (show (data ++ more).take k = r by rw [← hk]; exact hr)
  have HKL := Aside0.mk (show k ≤ data.length + more.length by omega)
  have HK := Aside0.mk hk
  have hsum2 : IntKind.i64.wrap ((data.length : Int) + min (max m 0) (more.length : Int)) = (k : Int) := by rw [IntWalk.i64_in _ (by omega)]; omega
  clear hr hk
  refine X.mono ?_
  rintro e W11 ⟨vv, rfl, hown, hB11⟩
  clear X
  have HRR := Aside0.mk hown
  have HB11 := Aside0.mk hB11
  clear hown hB11
  by_cases h0 : 0 < n
  · rw [if_pos h0] at HXV
    go_wp2_with (go_at_call 16; refine (HXV.out W11 HB11.out).mono ?_; rintro e W12 ⟨v12, rfl, -, hB12⟩; have HB12 := Aside0.mk (chain' HB11.out hB12); have HC12 := Aside0.mk hB12; clear hB12 HXV)
    have HCV := Aside0.mk (fun X (hX : Below W12.heap.size W12 X) => sureConv0 (HRR.out) (chain' HC12.out hX))
    have HRD := Aside0.mk (fun X (hX : Below W12.heap.size W12 X) => HR.out.below (chain' (chain' HB10.out HB12.out) hX))
    have HRM := Aside0.mk (fun X (hX : Below W12.heap.size W12 X) => HR'.out.below (chain' (chain' HB10.out HB12.out) hX))
    have HDR := Aside0.mk (below_drew1 (Below.refl W12.heap.size W12))
    -- REGION POS
    refine wp_region_any (by kernel_rfl) ?_
    try (change wpAny _ _ _ _ _ _ _ (World.drew _))
    refine wpAny_ready (rs := [0]) (by kernel_rfl) (by simp) ?_
    refine AllReady.cons rfl (fun K hK => ?_) (AllReady.nil)
    (go_simp; go_at_call 11; refine (answers _).mono ?_; rintro e X1 ⟨rfl, hb⟩; have HX1 := Aside0.mk (chain' HDR.out hb); clear hb; try go_simp)
    refine hK _ _ ?_
    clear hK K
    refine wpAny_take (i := 1) (v := ?_) rfl (by kernel_rfl) (by kernel_rfl) (by kernel_rfl) (fun _ _ _ h => h) (Or.inl ⟨by rfl, ?_⟩) ?_
    rotate_left
    · intro w; go_simp <;> with_reducible rfl
    go_simp
    refine wpAny_take (i := 2) (v := ?_) rfl (by kernel_rfl) (by kernel_rfl) (by kernel_rfl) (fun _ _ _ h => h) (Or.inl ⟨by rfl, ?_⟩) ?_
    rotate_left
    · intro w; go_simp <;> with_reducible rfl
    go_simp
    refine wpAny_take (i := 3) (v := ?_) rfl (by kernel_rfl) (by kernel_rfl) (by kernel_rfl) (fun _ _ _ h => h) (Or.inl ⟨by rfl, ?_⟩) ?_
    rotate_left
    · intro w; go_simp <;> with_reducible rfl
    go_simp
    refine wpAny_take (i := 4) (v := ?_) rfl (by kernel_rfl) (by kernel_rfl) (by kernel_rfl) (fun _ _ _ h => h) (Or.inl ⟨by rfl, ?_⟩) ?_
    rotate_left
    · intro w; go_simp <;> with_reducible rfl
    go_simp
    refine wpAny_take (i := 5) (v := ?_) rfl (by kernel_rfl) (by kernel_rfl) (by kernel_rfl) (fun _ _ _ h => h) (Or.inl ⟨by rfl, ?_⟩) ?_
    rotate_left
    · intro w; go_simp <;> with_reducible rfl
    go_simp
    refine wpAny_take (i := 6) (v := ?_) rfl (by kernel_rfl) (by kernel_rfl) (by kernel_rfl) (fun _ _ _ h => h) (Or.inl ⟨by rfl, ?_⟩) ?_
    rotate_left
    · intro w; go_simp <;> with_reducible rfl
    go_simp
    refine wpAny_take (i := 9) (v := ?_) rfl (by kernel_rfl) (by kernel_rfl) (by kernel_rfl) (fun _ _ _ h => h) (Or.inl ⟨by rfl, ?_⟩) ?_
    rotate_left
    · intro w; go_simp <;> with_reducible rfl
    go_simp
    refine wpAny_take (i := 11) (v := ?_) rfl (by kernel_rfl) (by kernel_rfl) (by kernel_rfl) (fun _ _ _ h => h) (Or.inl ⟨by rfl, ?_⟩) ?_
    rotate_left
    · intro w; go_simp <;> with_reducible rfl
    go_simp
    refine wpAny_take (i := 13) (v := ?_) rfl (by kernel_rfl) (by kernel_rfl) (by kernel_rfl) (fun _ _ _ h => h) (Or.inl ⟨by rfl, ?_⟩) ?_
    rotate_left
    · intro w; go_simp <;> with_reducible rfl
    go_simp
    refine wpAny_ready (rs := [7, 8]) (by kernel_rfl) (by simp) ?_
    refine AllReady.cons rfl (fun K hK => ?_) ?_
    · skip
      refine step_convert (by simp [Region.wanted, yielded]) 22 9 (.tmp 99) rfl vv (.string (S r)) (by simp [Act.eval, Act.put]) (HCV.out _ HX1.out) ?_
      try go_simp
      refine hK _ _ ?_
      clear hK K
      go_simp
      refine wpAny_ready (rs := [8]) (by kernel_rfl) (by simp) ?_
      refine AllReady.cons rfl (fun K hK => ?_) ?_
      · skip
        go_simp
        try go_simp
        refine hK _ _ ?_
        clear hK K
        go_simp
        refine wpAny_ready (rs := [10]) (by kernel_rfl) (by simp) ?_
        refine AllReady.cons rfl (fun K hK => ?_) ?_
        · skip
          refine step_append_bytes (by simp [Region.wanted, yielded]) (.tmp 101) (.tmp 102) rfl X1.heap.size (.slice (some ⟨X1.heap.size, 0, none⟩) 0 0) [] (by simp [Act.eval, Act.put]) (madeNone (Nat.le_refl _) _ rfl) (by simp) A c data (by simp [Act.eval, Act.put]) (HRD.out _ (below_alloc HX1.out _)) (by simp; omega) ?_
          intro v2 w2 hown hgrow
          have HX2 := Aside0.mk (sureGrown HX1.out hgrow).1
          have HS2 := Aside0.mk (sureGrown HX1.out hgrow).2
          have HO2 := Aside0.mk hown
          clear hown hgrow
          try go_simp
          refine hK _ _ ?_
          clear hK K
          go_simp
          refine wpAny_ready (rs := [12]) (by kernel_rfl) (by simp) ?_
          refine AllReady.cons rfl (fun K hK => ?_) ?_
          · skip
            refine step_append_bytes (by simp [Region.wanted, yielded]) (.tmp 103) (.tmp 104) rfl X1.heap.size v2 data (by simp [Act.eval, Act.put]) HO2.out HS2.out A' c' more (by simp [Act.eval, Act.put]) (HRM.out _ HX2.out) (by omega) ?_
            intro v3 w3 hown hgrow
            obtain ⟨A5, c5, rfl⟩ := own_slice hown
            have HX3 := Aside0.mk (sureGrown2 HX1.out HX2.out HO2.out hgrow)
            obtain ⟨hcvE, hk0, hkc⟩ := sureConv hown rfl (Nat.le_trans HKL.out (Nat.le_of_eq (List.length_append).symm)) HRK.out
            have HCE := Aside0.mk hcvE
            clear hown hgrow hcvE
            try go_simp
            refine hK _ _ ?_
            clear hK K
            go_simp
            refine wpAny_take (i := 14) (v := ?_) rfl (by kernel_rfl) (by kernel_rfl) (by kernel_rfl) (fun _ _ _ h => h) (Or.inl ⟨by rfl, ?_⟩) ?_
            rotate_left
            · intro w; go_simp <;> with_reducible rfl
            go_simp
            refine wpAny_ready (rs := [15]) (by kernel_rfl) (by simp) ?_
            refine AllReady.cons rfl (fun K hK => ?_) ?_
            · skip
              refine step_convert (by simp [Region.wanted, yielded]) 22 9 (.tmp 107) rfl (.slice A5 k c5) (.string (S r)) (by simp [Act.eval, Act.put]) HCE.out ?_
              try go_simp
              refine hK _ _ ?_
              clear hK K
              go_simp
              refine wpAny_take (i := 16) (v := ?_) rfl (by kernel_rfl) (by kernel_rfl) (by kernel_rfl) (fun _ _ _ h => h) (Or.inl ⟨by rfl, ?_⟩) ?_
              rotate_left
              · intro w; go_simp <;> with_reducible rfl
              go_simp
              refine wpAny_take (i := 17) (v := ?_) rfl (by kernel_rfl) (by kernel_rfl) (by kernel_rfl) (fun _ _ _ h => h) (Or.inl ⟨by rfl, ?_⟩) ?_
              rotate_left
              · intro w; go_simp <;> with_reducible rfl
              go_simp
              refine wpAny_take (i := 18) (v := ?_) rfl (by kernel_rfl) (by kernel_rfl) (by kernel_rfl) (fun _ _ _ h => h) (Or.inl ⟨by rfl, ?_⟩) ?_
              rotate_left
              · intro w; go_simp <;> with_reducible rfl
              go_simp
              refine wpAny_take (i := 19) (v := ?_) rfl (by kernel_rfl) (by kernel_rfl) (by kernel_rfl) (fun _ _ _ h => h) (Or.inl ⟨by rfl, ?_⟩) ?_
              rotate_left
              · intro w; go_simp <;> with_reducible rfl
              go_simp
              refine wpAny_take (i := 20) (v := ?_) rfl (by kernel_rfl) (by kernel_rfl) (by kernel_rfl) (fun _ _ _ h => h) (Or.inl ⟨by rfl, ?_⟩) ?_
              rotate_left
              · intro w; go_simp <;> with_reducible rfl
              go_simp
              refine wpAny_take (i := 21) (v := ?_) rfl (by kernel_rfl) (by kernel_rfl) (by kernel_rfl) (fun _ _ _ h => h) (Or.inl ⟨by rfl, ?_⟩) ?_
              rotate_left
              · intro w; go_simp <;> with_reducible rfl
              go_simp
              refine wpAny_take (i := 22) (v := ?_) rfl (by kernel_rfl) (by kernel_rfl) (by kernel_rfl) (fun _ _ _ h => h) (Or.inl ⟨by rfl, ?_⟩) ?_
              rotate_left
              · intro w; go_simp <;> with_reducible rfl
              go_simp
              refine wpAny_take (i := 23) (v := ?_) rfl (by kernel_rfl) (by kernel_rfl) (by kernel_rfl) (fun _ _ _ h => h) (Or.inl ⟨by rfl, ?_⟩) ?_
              rotate_left
              · intro w; go_simp <;> with_reducible rfl
              go_simp
              refine wpAny_take (i := 24) (v := ?_) rfl (by kernel_rfl) (by kernel_rfl) (by kernel_rfl) (fun _ _ _ h => h) (Or.inl ⟨by rfl, ?_⟩) ?_
              rotate_left
              · intro w; go_simp <;> with_reducible rfl
              go_simp
              refine wpAny_take (i := 25) (v := ?_) rfl (by kernel_rfl) (by kernel_rfl) (by kernel_rfl) (fun _ _ _ h => h) (Or.inl ⟨by rfl, ?_⟩) ?_
              rotate_left
              · intro w; go_simp <;> with_reducible rfl
              go_simp
              refine wpAny_take (i := 26) (v := ?_) rfl (by kernel_rfl) (by kernel_rfl) (by kernel_rfl) (fun _ _ _ h => h) (Or.inl ⟨by rfl, ?_⟩) ?_
              rotate_left
              · intro w; go_simp <;> with_reducible rfl
              go_simp
              refine wpAny_take (i := 27) (v := ?_) rfl (by kernel_rfl) (by kernel_rfl) (by kernel_rfl) (fun _ _ _ h => h) (Or.inl ⟨by rfl, ?_⟩) ?_
              rotate_left
              · intro w; go_simp <;> with_reducible rfl
              go_simp
              refine wpAny_take (i := 28) (v := ?_) rfl (by kernel_rfl) (by kernel_rfl) (by kernel_rfl) (fun _ _ _ h => h) (Or.inl ⟨by rfl, ?_⟩) ?_
              rotate_left
              · intro w; go_simp <;> with_reducible rfl
              go_simp
              refine wpAny_take (i := 29) (v := undef) rfl (by kernel_rfl) (by kernel_rfl) (by kernel_rfl) (fun _ _ _ h => h) (Or.inr ⟨by rfl, rfl⟩) ?_
              go_simp
              refine wpAny_take (i := 30) (v := undef) rfl (by kernel_rfl) (by kernel_rfl) (by kernel_rfl) (fun _ _ _ h => h) (Or.inr ⟨by rfl, rfl⟩) ?_
              go_simp
              refine wpAny_take (i := 31) (v := ?_) rfl (by kernel_rfl) (by kernel_rfl) (by kernel_rfl) (fun _ _ _ h => h) (Or.inl ⟨by rfl, ?_⟩) ?_
              rotate_left
              · intro w; go_simp <;> with_reducible rfl
              go_simp
              refine wpAny_take (i := 32) (v := ?_) rfl (by kernel_rfl) (by kernel_rfl) (by kernel_rfl) (fun _ _ _ h => h) (Or.inl ⟨by rfl, ?_⟩) ?_
              rotate_left
              · intro w; go_simp <;> with_reducible rfl
              go_simp
              refine wpAny_take (i := 33) (v := ?_) rfl (by kernel_rfl) (by kernel_rfl) (by kernel_rfl) (fun _ _ _ h => h) (Or.inl ⟨by rfl, ?_⟩) ?_
              rotate_left
              · intro w; go_simp <;> with_reducible rfl
              go_simp
              refine wpAny_done (by kernel_rfl) ?_ _
              go_wp2
              go_ret
              exact ⟨rfl, chain' (chain' HB10.out HB12.out) HX3.out⟩
            exact AllReady.nil
          exact AllReady.nil
        exact AllReady.nil
      exact AllReady.nil
    refine AllReady.cons rfl (fun K hK => ?_) ?_
    · skip
      go_simp
      try go_simp
      refine hK _ _ ?_
      clear hK K
      go_simp
      refine wpAny_ready (rs := [7, 10]) (by kernel_rfl) (by simp) ?_
      refine AllReady.cons rfl (fun K hK => ?_) ?_
      · skip
        refine step_convert (by simp [Region.wanted, yielded]) 22 9 (.tmp 99) rfl vv (.string (S r)) (by simp [Act.eval, Act.put]) (HCV.out _ (below_alloc HX1.out _)) ?_
        try go_simp
        refine hK _ _ ?_
        clear hK K
        go_simp
        refine wpAny_ready (rs := [10]) (by kernel_rfl) (by simp) ?_
        refine AllReady.cons rfl (fun K hK => ?_) ?_
        · skip
          refine step_append_bytes (by simp [Region.wanted, yielded]) (.tmp 101) (.tmp 102) rfl X1.heap.size (.slice (some ⟨X1.heap.size, 0, none⟩) 0 0) [] (by simp [Act.eval, Act.put]) (madeNone (Nat.le_refl _) _ rfl) (by simp) A c data (by simp [Act.eval, Act.put]) (HRD.out _ (below_alloc HX1.out _)) (by simp; omega) ?_
          intro v2 w2 hown hgrow
          have HX2 := Aside0.mk (sureGrown HX1.out hgrow).1
          have HS2 := Aside0.mk (sureGrown HX1.out hgrow).2
          have HO2 := Aside0.mk hown
          clear hown hgrow
          try go_simp
          refine hK _ _ ?_
          clear hK K
          go_simp
          refine wpAny_ready (rs := [12]) (by kernel_rfl) (by simp) ?_
          refine AllReady.cons rfl (fun K hK => ?_) ?_
          · skip
            refine step_append_bytes (by simp [Region.wanted, yielded]) (.tmp 103) (.tmp 104) rfl X1.heap.size v2 data (by simp [Act.eval, Act.put]) HO2.out HS2.out A' c' more (by simp [Act.eval, Act.put]) (HRM.out _ HX2.out) (by omega) ?_
            intro v3 w3 hown hgrow
            obtain ⟨A5, c5, rfl⟩ := own_slice hown
            have HX3 := Aside0.mk (sureGrown2 HX1.out HX2.out HO2.out hgrow)
            obtain ⟨hcvE, hk0, hkc⟩ := sureConv hown rfl (Nat.le_trans HKL.out (Nat.le_of_eq (List.length_append).symm)) HRK.out
            have HCE := Aside0.mk hcvE
            clear hown hgrow hcvE
            try go_simp
            refine hK _ _ ?_
            clear hK K
            go_simp
            refine wpAny_take (i := 14) (v := ?_) rfl (by kernel_rfl) (by kernel_rfl) (by kernel_rfl) (fun _ _ _ h => h) (Or.inl ⟨by rfl, ?_⟩) ?_
            rotate_left
            · intro w; go_simp <;> with_reducible rfl
            go_simp
            refine wpAny_ready (rs := [15]) (by kernel_rfl) (by simp) ?_
            refine AllReady.cons rfl (fun K hK => ?_) ?_
            · skip
              refine step_convert (by simp [Region.wanted, yielded]) 22 9 (.tmp 107) rfl (.slice A5 k c5) (.string (S r)) (by simp [Act.eval, Act.put]) HCE.out ?_
              try go_simp
              refine hK _ _ ?_
              clear hK K
              go_simp
              refine wpAny_take (i := 16) (v := ?_) rfl (by kernel_rfl) (by kernel_rfl) (by kernel_rfl) (fun _ _ _ h => h) (Or.inl ⟨by rfl, ?_⟩) ?_
              rotate_left
              · intro w; go_simp <;> with_reducible rfl
              go_simp
              refine wpAny_take (i := 17) (v := ?_) rfl (by kernel_rfl) (by kernel_rfl) (by kernel_rfl) (fun _ _ _ h => h) (Or.inl ⟨by rfl, ?_⟩) ?_
              rotate_left
              · intro w; go_simp <;> with_reducible rfl
              go_simp
              refine wpAny_take (i := 18) (v := ?_) rfl (by kernel_rfl) (by kernel_rfl) (by kernel_rfl) (fun _ _ _ h => h) (Or.inl ⟨by rfl, ?_⟩) ?_
              rotate_left
              · intro w; go_simp <;> with_reducible rfl
              go_simp
              refine wpAny_take (i := 19) (v := ?_) rfl (by kernel_rfl) (by kernel_rfl) (by kernel_rfl) (fun _ _ _ h => h) (Or.inl ⟨by rfl, ?_⟩) ?_
              rotate_left
              · intro w; go_simp <;> with_reducible rfl
              go_simp
              refine wpAny_take (i := 20) (v := ?_) rfl (by kernel_rfl) (by kernel_rfl) (by kernel_rfl) (fun _ _ _ h => h) (Or.inl ⟨by rfl, ?_⟩) ?_
              rotate_left
              · intro w; go_simp <;> with_reducible rfl
              go_simp
              refine wpAny_take (i := 21) (v := ?_) rfl (by kernel_rfl) (by kernel_rfl) (by kernel_rfl) (fun _ _ _ h => h) (Or.inl ⟨by rfl, ?_⟩) ?_
              rotate_left
              · intro w; go_simp <;> with_reducible rfl
              go_simp
              refine wpAny_take (i := 22) (v := ?_) rfl (by kernel_rfl) (by kernel_rfl) (by kernel_rfl) (fun _ _ _ h => h) (Or.inl ⟨by rfl, ?_⟩) ?_
              rotate_left
              · intro w; go_simp <;> with_reducible rfl
              go_simp
              refine wpAny_take (i := 23) (v := ?_) rfl (by kernel_rfl) (by kernel_rfl) (by kernel_rfl) (fun _ _ _ h => h) (Or.inl ⟨by rfl, ?_⟩) ?_
              rotate_left
              · intro w; go_simp <;> with_reducible rfl
              go_simp
              refine wpAny_take (i := 24) (v := ?_) rfl (by kernel_rfl) (by kernel_rfl) (by kernel_rfl) (fun _ _ _ h => h) (Or.inl ⟨by rfl, ?_⟩) ?_
              rotate_left
              · intro w; go_simp <;> with_reducible rfl
              go_simp
              refine wpAny_take (i := 25) (v := ?_) rfl (by kernel_rfl) (by kernel_rfl) (by kernel_rfl) (fun _ _ _ h => h) (Or.inl ⟨by rfl, ?_⟩) ?_
              rotate_left
              · intro w; go_simp <;> with_reducible rfl
              go_simp
              refine wpAny_take (i := 26) (v := ?_) rfl (by kernel_rfl) (by kernel_rfl) (by kernel_rfl) (fun _ _ _ h => h) (Or.inl ⟨by rfl, ?_⟩) ?_
              rotate_left
              · intro w; go_simp <;> with_reducible rfl
              go_simp
              refine wpAny_take (i := 27) (v := ?_) rfl (by kernel_rfl) (by kernel_rfl) (by kernel_rfl) (fun _ _ _ h => h) (Or.inl ⟨by rfl, ?_⟩) ?_
              rotate_left
              · intro w; go_simp <;> with_reducible rfl
              go_simp
              refine wpAny_take (i := 28) (v := ?_) rfl (by kernel_rfl) (by kernel_rfl) (by kernel_rfl) (fun _ _ _ h => h) (Or.inl ⟨by rfl, ?_⟩) ?_
              rotate_left
              · intro w; go_simp <;> with_reducible rfl
              go_simp
              refine wpAny_take (i := 29) (v := undef) rfl (by kernel_rfl) (by kernel_rfl) (by kernel_rfl) (fun _ _ _ h => h) (Or.inr ⟨by rfl, rfl⟩) ?_
              go_simp
              refine wpAny_take (i := 30) (v := undef) rfl (by kernel_rfl) (by kernel_rfl) (by kernel_rfl) (fun _ _ _ h => h) (Or.inr ⟨by rfl, rfl⟩) ?_
              go_simp
              refine wpAny_take (i := 31) (v := ?_) rfl (by kernel_rfl) (by kernel_rfl) (by kernel_rfl) (fun _ _ _ h => h) (Or.inl ⟨by rfl, ?_⟩) ?_
              rotate_left
              · intro w; go_simp <;> with_reducible rfl
              go_simp
              refine wpAny_take (i := 32) (v := ?_) rfl (by kernel_rfl) (by kernel_rfl) (by kernel_rfl) (fun _ _ _ h => h) (Or.inl ⟨by rfl, ?_⟩) ?_
              rotate_left
              · intro w; go_simp <;> with_reducible rfl
              go_simp
              refine wpAny_take (i := 33) (v := ?_) rfl (by kernel_rfl) (by kernel_rfl) (by kernel_rfl) (fun _ _ _ h => h) (Or.inl ⟨by rfl, ?_⟩) ?_
              rotate_left
              · intro w; go_simp <;> with_reducible rfl
              go_simp
              refine wpAny_done (by kernel_rfl) ?_ _
              go_wp2
              go_ret
              exact ⟨rfl, chain' (chain' HB10.out HB12.out) HX3.out⟩
            exact AllReady.nil
          exact AllReady.nil
        exact AllReady.nil
      refine AllReady.cons rfl (fun K hK => ?_) ?_
      · skip
        refine step_append_bytes (by simp [Region.wanted, yielded]) (.tmp 101) (.tmp 102) rfl X1.heap.size (.slice (some ⟨X1.heap.size, 0, none⟩) 0 0) [] (by simp [Act.eval, Act.put]) (madeNone (Nat.le_refl _) _ rfl) (by simp) A c data (by simp [Act.eval, Act.put]) (HRD.out _ (below_alloc HX1.out _)) (by simp; omega) ?_
        intro v2 w2 hown hgrow
        have HX2 := Aside0.mk (sureGrown HX1.out hgrow).1
        have HS2 := Aside0.mk (sureGrown HX1.out hgrow).2
        have HO2 := Aside0.mk hown
        clear hown hgrow
        try go_simp
        refine hK _ _ ?_
        clear hK K
        go_simp
        refine wpAny_ready (rs := [7, 12]) (by kernel_rfl) (by simp) ?_
        refine AllReady.cons rfl (fun K hK => ?_) ?_
        · skip
          refine step_convert (by simp [Region.wanted, yielded]) 22 9 (.tmp 99) rfl vv (.string (S r)) (by simp [Act.eval, Act.put]) (HCV.out _ HX2.out) ?_
          try go_simp
          refine hK _ _ ?_
          clear hK K
          go_simp
          refine wpAny_ready (rs := [12]) (by kernel_rfl) (by simp) ?_
          refine AllReady.cons rfl (fun K hK => ?_) ?_
          · skip
            refine step_append_bytes (by simp [Region.wanted, yielded]) (.tmp 103) (.tmp 104) rfl X1.heap.size v2 data (by simp [Act.eval, Act.put]) HO2.out HS2.out A' c' more (by simp [Act.eval, Act.put]) (HRM.out _ HX2.out) (by omega) ?_
            intro v3 w3 hown hgrow
            obtain ⟨A5, c5, rfl⟩ := own_slice hown
            have HX3 := Aside0.mk (sureGrown2 HX1.out HX2.out HO2.out hgrow)
            obtain ⟨hcvE, hk0, hkc⟩ := sureConv hown rfl (Nat.le_trans HKL.out (Nat.le_of_eq (List.length_append).symm)) HRK.out
            have HCE := Aside0.mk hcvE
            clear hown hgrow hcvE
            try go_simp
            refine hK _ _ ?_
            clear hK K
            go_simp
            refine wpAny_take (i := 14) (v := ?_) rfl (by kernel_rfl) (by kernel_rfl) (by kernel_rfl) (fun _ _ _ h => h) (Or.inl ⟨by rfl, ?_⟩) ?_
            rotate_left
            · intro w; go_simp <;> with_reducible rfl
            go_simp
            refine wpAny_ready (rs := [15]) (by kernel_rfl) (by simp) ?_
            refine AllReady.cons rfl (fun K hK => ?_) ?_
            · skip
              refine step_convert (by simp [Region.wanted, yielded]) 22 9 (.tmp 107) rfl (.slice A5 k c5) (.string (S r)) (by simp [Act.eval, Act.put]) HCE.out ?_
              try go_simp
              refine hK _ _ ?_
              clear hK K
              go_simp
              refine wpAny_take (i := 16) (v := ?_) rfl (by kernel_rfl) (by kernel_rfl) (by kernel_rfl) (fun _ _ _ h => h) (Or.inl ⟨by rfl, ?_⟩) ?_
              rotate_left
              · intro w; go_simp <;> with_reducible rfl
              go_simp
              refine wpAny_take (i := 17) (v := ?_) rfl (by kernel_rfl) (by kernel_rfl) (by kernel_rfl) (fun _ _ _ h => h) (Or.inl ⟨by rfl, ?_⟩) ?_
              rotate_left
              · intro w; go_simp <;> with_reducible rfl
              go_simp
              refine wpAny_take (i := 18) (v := ?_) rfl (by kernel_rfl) (by kernel_rfl) (by kernel_rfl) (fun _ _ _ h => h) (Or.inl ⟨by rfl, ?_⟩) ?_
              rotate_left
              · intro w; go_simp <;> with_reducible rfl
              go_simp
              refine wpAny_take (i := 19) (v := ?_) rfl (by kernel_rfl) (by kernel_rfl) (by kernel_rfl) (fun _ _ _ h => h) (Or.inl ⟨by rfl, ?_⟩) ?_
              rotate_left
              · intro w; go_simp <;> with_reducible rfl
              go_simp
              refine wpAny_take (i := 20) (v := ?_) rfl (by kernel_rfl) (by kernel_rfl) (by kernel_rfl) (fun _ _ _ h => h) (Or.inl ⟨by rfl, ?_⟩) ?_
              rotate_left
              · intro w; go_simp <;> with_reducible rfl
              go_simp
              refine wpAny_take (i := 21) (v := ?_) rfl (by kernel_rfl) (by kernel_rfl) (by kernel_rfl) (fun _ _ _ h => h) (Or.inl ⟨by rfl, ?_⟩) ?_
              rotate_left
              · intro w; go_simp <;> with_reducible rfl
              go_simp
              refine wpAny_take (i := 22) (v := ?_) rfl (by kernel_rfl) (by kernel_rfl) (by kernel_rfl) (fun _ _ _ h => h) (Or.inl ⟨by rfl, ?_⟩) ?_
              rotate_left
              · intro w; go_simp <;> with_reducible rfl
              go_simp
              refine wpAny_take (i := 23) (v := ?_) rfl (by kernel_rfl) (by kernel_rfl) (by kernel_rfl) (fun _ _ _ h => h) (Or.inl ⟨by rfl, ?_⟩) ?_
              rotate_left
              · intro w; go_simp <;> with_reducible rfl
              go_simp
              refine wpAny_take (i := 24) (v := ?_) rfl (by kernel_rfl) (by kernel_rfl) (by kernel_rfl) (fun _ _ _ h => h) (Or.inl ⟨by rfl, ?_⟩) ?_
              rotate_left
              · intro w; go_simp <;> with_reducible rfl
              go_simp
              refine wpAny_take (i := 25) (v := ?_) rfl (by kernel_rfl) (by kernel_rfl) (by kernel_rfl) (fun _ _ _ h => h) (Or.inl ⟨by rfl, ?_⟩) ?_
              rotate_left
              · intro w; go_simp <;> with_reducible rfl
              go_simp
              refine wpAny_take (i := 26) (v := ?_) rfl (by kernel_rfl) (by kernel_rfl) (by kernel_rfl) (fun _ _ _ h => h) (Or.inl ⟨by rfl, ?_⟩) ?_
              rotate_left
              · intro w; go_simp <;> with_reducible rfl
              go_simp
              refine wpAny_take (i := 27) (v := ?_) rfl (by kernel_rfl) (by kernel_rfl) (by kernel_rfl) (fun _ _ _ h => h) (Or.inl ⟨by rfl, ?_⟩) ?_
              rotate_left
              · intro w; go_simp <;> with_reducible rfl
              go_simp
              refine wpAny_take (i := 28) (v := ?_) rfl (by kernel_rfl) (by kernel_rfl) (by kernel_rfl) (fun _ _ _ h => h) (Or.inl ⟨by rfl, ?_⟩) ?_
              rotate_left
              · intro w; go_simp <;> with_reducible rfl
              go_simp
              refine wpAny_take (i := 29) (v := undef) rfl (by kernel_rfl) (by kernel_rfl) (by kernel_rfl) (fun _ _ _ h => h) (Or.inr ⟨by rfl, rfl⟩) ?_
              go_simp
              refine wpAny_take (i := 30) (v := undef) rfl (by kernel_rfl) (by kernel_rfl) (by kernel_rfl) (fun _ _ _ h => h) (Or.inr ⟨by rfl, rfl⟩) ?_
              go_simp
              refine wpAny_take (i := 31) (v := ?_) rfl (by kernel_rfl) (by kernel_rfl) (by kernel_rfl) (fun _ _ _ h => h) (Or.inl ⟨by rfl, ?_⟩) ?_
              rotate_left
              · intro w; go_simp <;> with_reducible rfl
              go_simp
              refine wpAny_take (i := 32) (v := ?_) rfl (by kernel_rfl) (by kernel_rfl) (by kernel_rfl) (fun _ _ _ h => h) (Or.inl ⟨by rfl, ?_⟩) ?_
              rotate_left
              · intro w; go_simp <;> with_reducible rfl
              go_simp
              refine wpAny_take (i := 33) (v := ?_) rfl (by kernel_rfl) (by kernel_rfl) (by kernel_rfl) (fun _ _ _ h => h) (Or.inl ⟨by rfl, ?_⟩) ?_
              rotate_left
              · intro w; go_simp <;> with_reducible rfl
              go_simp
              refine wpAny_done (by kernel_rfl) ?_ _
              go_wp2
              go_ret
              exact ⟨rfl, chain' (chain' HB10.out HB12.out) HX3.out⟩
            exact AllReady.nil
          exact AllReady.nil
        refine AllReady.cons rfl (fun K hK => ?_) ?_
        · skip
          refine step_append_bytes (by simp [Region.wanted, yielded]) (.tmp 103) (.tmp 104) rfl X1.heap.size v2 data (by simp [Act.eval, Act.put]) HO2.out HS2.out A' c' more (by simp [Act.eval, Act.put]) (HRM.out _ HX2.out) (by omega) ?_
          intro v3 w3 hown hgrow
          obtain ⟨A5, c5, rfl⟩ := own_slice hown
          have HX3 := Aside0.mk (sureGrown2 HX1.out HX2.out HO2.out hgrow)
          obtain ⟨hcvE, hk0, hkc⟩ := sureConv hown rfl (Nat.le_trans HKL.out (Nat.le_of_eq (List.length_append).symm)) HRK.out
          have HCE := Aside0.mk hcvE
          clear hown hgrow hcvE
          try go_simp
          refine hK _ _ ?_
          clear hK K
          go_simp
          refine wpAny_take (i := 14) (v := ?_) rfl (by kernel_rfl) (by kernel_rfl) (by kernel_rfl) (fun _ _ _ h => h) (Or.inl ⟨by rfl, ?_⟩) ?_
          rotate_left
          · intro w; go_simp <;> with_reducible rfl
          go_simp
          refine wpAny_ready (rs := [7, 15]) (by kernel_rfl) (by simp) ?_
          refine AllReady.cons rfl (fun K hK => ?_) ?_
          · skip
            refine step_convert (by simp [Region.wanted, yielded]) 22 9 (.tmp 99) rfl vv (.string (S r)) (by simp [Act.eval, Act.put]) (HCV.out _ HX3.out) ?_
            try go_simp
            refine hK _ _ ?_
            clear hK K
            go_simp
            refine wpAny_ready (rs := [15]) (by kernel_rfl) (by simp) ?_
            refine AllReady.cons rfl (fun K hK => ?_) ?_
            · skip
              refine step_convert (by simp [Region.wanted, yielded]) 22 9 (.tmp 107) rfl (.slice A5 k c5) (.string (S r)) (by simp [Act.eval, Act.put]) HCE.out ?_
              try go_simp
              refine hK _ _ ?_
              clear hK K
              go_simp
              refine wpAny_take (i := 16) (v := ?_) rfl (by kernel_rfl) (by kernel_rfl) (by kernel_rfl) (fun _ _ _ h => h) (Or.inl ⟨by rfl, ?_⟩) ?_
              rotate_left
              · intro w; go_simp <;> with_reducible rfl
              go_simp
              refine wpAny_take (i := 17) (v := ?_) rfl (by kernel_rfl) (by kernel_rfl) (by kernel_rfl) (fun _ _ _ h => h) (Or.inl ⟨by rfl, ?_⟩) ?_
              rotate_left
              · intro w; go_simp <;> with_reducible rfl
              go_simp
              refine wpAny_take (i := 18) (v := ?_) rfl (by kernel_rfl) (by kernel_rfl) (by kernel_rfl) (fun _ _ _ h => h) (Or.inl ⟨by rfl, ?_⟩) ?_
              rotate_left
              · intro w; go_simp <;> with_reducible rfl
              go_simp
              refine wpAny_take (i := 19) (v := ?_) rfl (by kernel_rfl) (by kernel_rfl) (by kernel_rfl) (fun _ _ _ h => h) (Or.inl ⟨by rfl, ?_⟩) ?_
              rotate_left
              · intro w; go_simp <;> with_reducible rfl
              go_simp
              refine wpAny_take (i := 20) (v := ?_) rfl (by kernel_rfl) (by kernel_rfl) (by kernel_rfl) (fun _ _ _ h => h) (Or.inl ⟨by rfl, ?_⟩) ?_
              rotate_left
              · intro w; go_simp <;> with_reducible rfl
              go_simp
              refine wpAny_take (i := 21) (v := ?_) rfl (by kernel_rfl) (by kernel_rfl) (by kernel_rfl) (fun _ _ _ h => h) (Or.inl ⟨by rfl, ?_⟩) ?_
              rotate_left
              · intro w; go_simp <;> with_reducible rfl
              go_simp
              refine wpAny_take (i := 22) (v := ?_) rfl (by kernel_rfl) (by kernel_rfl) (by kernel_rfl) (fun _ _ _ h => h) (Or.inl ⟨by rfl, ?_⟩) ?_
              rotate_left
              · intro w; go_simp <;> with_reducible rfl
              go_simp
              refine wpAny_take (i := 23) (v := ?_) rfl (by kernel_rfl) (by kernel_rfl) (by kernel_rfl) (fun _ _ _ h => h) (Or.inl ⟨by rfl, ?_⟩) ?_
              rotate_left
              · intro w; go_simp <;> with_reducible rfl
              go_simp
              refine wpAny_take (i := 24) (v := ?_) rfl (by kernel_rfl) (by kernel_rfl) (by kernel_rfl) (fun _ _ _ h => h) (Or.inl ⟨by rfl, ?_⟩) ?_
              rotate_left
              · intro w; go_simp <;> with_reducible rfl
              go_simp
              refine wpAny_take (i := 25) (v := ?_) rfl (by kernel_rfl) (by kernel_rfl) (by kernel_rfl) (fun _ _ _ h => h) (Or.inl ⟨by rfl, ?_⟩) ?_
              rotate_left
              · intro w; go_simp <;> with_reducible rfl
              go_simp
              refine wpAny_take (i := 26) (v := ?_) rfl (by kernel_rfl) (by kernel_rfl) (by kernel_rfl) (fun _ _ _ h => h) (Or.inl ⟨by rfl, ?_⟩) ?_
              rotate_left
              · intro w; go_simp <;> with_reducible rfl
              go_simp
              refine wpAny_take (i := 27) (v := ?_) rfl (by kernel_rfl) (by kernel_rfl) (by kernel_rfl) (fun _ _ _ h => h) (Or.inl ⟨by rfl, ?_⟩) ?_
              rotate_left
              · intro w; go_simp <;> with_reducible rfl
              go_simp
              refine wpAny_take (i := 28) (v := ?_) rfl (by kernel_rfl) (by kernel_rfl) (by kernel_rfl) (fun _ _ _ h => h) (Or.inl ⟨by rfl, ?_⟩) ?_
              rotate_left
              · intro w; go_simp <;> with_reducible rfl
              go_simp
              refine wpAny_take (i := 29) (v := undef) rfl (by kernel_rfl) (by kernel_rfl) (by kernel_rfl) (fun _ _ _ h => h) (Or.inr ⟨by rfl, rfl⟩) ?_
              go_simp
              refine wpAny_take (i := 30) (v := undef) rfl (by kernel_rfl) (by kernel_rfl) (by kernel_rfl) (fun _ _ _ h => h) (Or.inr ⟨by rfl, rfl⟩) ?_
              go_simp
              refine wpAny_take (i := 31) (v := ?_) rfl (by kernel_rfl) (by kernel_rfl) (by kernel_rfl) (fun _ _ _ h => h) (Or.inl ⟨by rfl, ?_⟩) ?_
              rotate_left
              · intro w; go_simp <;> with_reducible rfl
              go_simp
              refine wpAny_take (i := 32) (v := ?_) rfl (by kernel_rfl) (by kernel_rfl) (by kernel_rfl) (fun _ _ _ h => h) (Or.inl ⟨by rfl, ?_⟩) ?_
              rotate_left
              · intro w; go_simp <;> with_reducible rfl
              go_simp
              refine wpAny_take (i := 33) (v := ?_) rfl (by kernel_rfl) (by kernel_rfl) (by kernel_rfl) (fun _ _ _ h => h) (Or.inl ⟨by rfl, ?_⟩) ?_
              rotate_left
              · intro w; go_simp <;> with_reducible rfl
              go_simp
              refine wpAny_done (by kernel_rfl) ?_ _
              go_wp2
              go_ret
              exact ⟨rfl, chain' (chain' HB10.out HB12.out) HX3.out⟩
            exact AllReady.nil
          refine AllReady.cons rfl (fun K hK => ?_) ?_
          · skip
            refine step_convert (by simp [Region.wanted, yielded]) 22 9 (.tmp 107) rfl (.slice A5 k c5) (.string (S r)) (by simp [Act.eval, Act.put]) HCE.out ?_
            try go_simp
            refine hK _ _ ?_
            clear hK K
            go_simp
            refine wpAny_ready (rs := [7]) (by kernel_rfl) (by simp) ?_
            refine AllReady.cons rfl (fun K hK => ?_) ?_
            · skip
              refine step_convert (by simp [Region.wanted, yielded]) 22 9 (.tmp 99) rfl vv (.string (S r)) (by simp [Act.eval, Act.put]) (HCV.out _ HX3.out) ?_
              try go_simp
              refine hK _ _ ?_
              clear hK K
              go_simp
              refine wpAny_take (i := 16) (v := ?_) rfl (by kernel_rfl) (by kernel_rfl) (by kernel_rfl) (fun _ _ _ h => h) (Or.inl ⟨by rfl, ?_⟩) ?_
              rotate_left
              · intro w; go_simp <;> with_reducible rfl
              go_simp
              refine wpAny_take (i := 17) (v := ?_) rfl (by kernel_rfl) (by kernel_rfl) (by kernel_rfl) (fun _ _ _ h => h) (Or.inl ⟨by rfl, ?_⟩) ?_
              rotate_left
              · intro w; go_simp <;> with_reducible rfl
              go_simp
              refine wpAny_take (i := 18) (v := ?_) rfl (by kernel_rfl) (by kernel_rfl) (by kernel_rfl) (fun _ _ _ h => h) (Or.inl ⟨by rfl, ?_⟩) ?_
              rotate_left
              · intro w; go_simp <;> with_reducible rfl
              go_simp
              refine wpAny_take (i := 19) (v := ?_) rfl (by kernel_rfl) (by kernel_rfl) (by kernel_rfl) (fun _ _ _ h => h) (Or.inl ⟨by rfl, ?_⟩) ?_
              rotate_left
              · intro w; go_simp <;> with_reducible rfl
              go_simp
              refine wpAny_take (i := 20) (v := ?_) rfl (by kernel_rfl) (by kernel_rfl) (by kernel_rfl) (fun _ _ _ h => h) (Or.inl ⟨by rfl, ?_⟩) ?_
              rotate_left
              · intro w; go_simp <;> with_reducible rfl
              go_simp
              refine wpAny_take (i := 21) (v := ?_) rfl (by kernel_rfl) (by kernel_rfl) (by kernel_rfl) (fun _ _ _ h => h) (Or.inl ⟨by rfl, ?_⟩) ?_
              rotate_left
              · intro w; go_simp <;> with_reducible rfl
              go_simp
              refine wpAny_take (i := 22) (v := ?_) rfl (by kernel_rfl) (by kernel_rfl) (by kernel_rfl) (fun _ _ _ h => h) (Or.inl ⟨by rfl, ?_⟩) ?_
              rotate_left
              · intro w; go_simp <;> with_reducible rfl
              go_simp
              refine wpAny_take (i := 23) (v := ?_) rfl (by kernel_rfl) (by kernel_rfl) (by kernel_rfl) (fun _ _ _ h => h) (Or.inl ⟨by rfl, ?_⟩) ?_
              rotate_left
              · intro w; go_simp <;> with_reducible rfl
              go_simp
              refine wpAny_take (i := 24) (v := ?_) rfl (by kernel_rfl) (by kernel_rfl) (by kernel_rfl) (fun _ _ _ h => h) (Or.inl ⟨by rfl, ?_⟩) ?_
              rotate_left
              · intro w; go_simp <;> with_reducible rfl
              go_simp
              refine wpAny_take (i := 25) (v := ?_) rfl (by kernel_rfl) (by kernel_rfl) (by kernel_rfl) (fun _ _ _ h => h) (Or.inl ⟨by rfl, ?_⟩) ?_
              rotate_left
              · intro w; go_simp <;> with_reducible rfl
              go_simp
              refine wpAny_take (i := 26) (v := ?_) rfl (by kernel_rfl) (by kernel_rfl) (by kernel_rfl) (fun _ _ _ h => h) (Or.inl ⟨by rfl, ?_⟩) ?_
              rotate_left
              · intro w; go_simp <;> with_reducible rfl
              go_simp
              refine wpAny_take (i := 27) (v := ?_) rfl (by kernel_rfl) (by kernel_rfl) (by kernel_rfl) (fun _ _ _ h => h) (Or.inl ⟨by rfl, ?_⟩) ?_
              rotate_left
              · intro w; go_simp <;> with_reducible rfl
              go_simp
              refine wpAny_take (i := 28) (v := ?_) rfl (by kernel_rfl) (by kernel_rfl) (by kernel_rfl) (fun _ _ _ h => h) (Or.inl ⟨by rfl, ?_⟩) ?_
              rotate_left
              · intro w; go_simp <;> with_reducible rfl
              go_simp
              refine wpAny_take (i := 29) (v := undef) rfl (by kernel_rfl) (by kernel_rfl) (by kernel_rfl) (fun _ _ _ h => h) (Or.inr ⟨by rfl, rfl⟩) ?_
              go_simp
              refine wpAny_take (i := 30) (v := undef) rfl (by kernel_rfl) (by kernel_rfl) (by kernel_rfl) (fun _ _ _ h => h) (Or.inr ⟨by rfl, rfl⟩) ?_
              go_simp
              refine wpAny_take (i := 31) (v := ?_) rfl (by kernel_rfl) (by kernel_rfl) (by kernel_rfl) (fun _ _ _ h => h) (Or.inl ⟨by rfl, ?_⟩) ?_
              rotate_left
              · intro w; go_simp <;> with_reducible rfl
              go_simp
              refine wpAny_take (i := 32) (v := ?_) rfl (by kernel_rfl) (by kernel_rfl) (by kernel_rfl) (fun _ _ _ h => h) (Or.inl ⟨by rfl, ?_⟩) ?_
              rotate_left
              · intro w; go_simp <;> with_reducible rfl
              go_simp
              refine wpAny_take (i := 33) (v := ?_) rfl (by kernel_rfl) (by kernel_rfl) (by kernel_rfl) (fun _ _ _ h => h) (Or.inl ⟨by rfl, ?_⟩) ?_
              rotate_left
              · intro w; go_simp <;> with_reducible rfl
              go_simp
              refine wpAny_done (by kernel_rfl) ?_ _
              go_wp2
              go_ret
              exact ⟨rfl, chain' (chain' HB10.out HB12.out) HX3.out⟩
            exact AllReady.nil
          exact AllReady.nil
        exact AllReady.nil
      exact AllReady.nil
    exact AllReady.nil
    -- END
  · rw [if_neg h0] at HXV
    go_wp2_with (go_at_call 16; refine (HXV.out W11 HB11.out).mono ?_; rintro e W12 ⟨v12, rfl, -, hB12⟩; have HB12 := Aside0.mk (chain' HB11.out hB12); have HC12 := Aside0.mk hB12; clear hB12 HXV)
    have HCV := Aside0.mk (fun X (hX : Below W12.heap.size W12 X) => sureConv0 (HRR.out) (chain' HC12.out hX))
    have HRD := Aside0.mk (fun X (hX : Below W12.heap.size W12 X) => HR.out.below (chain' (chain' HB10.out HB12.out) hX))
    have HRM := Aside0.mk (fun X (hX : Below W12.heap.size W12 X) => HR'.out.below (chain' (chain' HB10.out HB12.out) hX))
    have HDR := Aside0.mk (below_drew1 (Below.refl W12.heap.size W12))
    have hng : decide (0 < n) = false := by simpa using h0
    -- REGION NEG
    refine wp_region_any (by kernel_rfl) ?_
    try (change wpAny _ _ _ _ _ _ _ (World.drew _))
    refine wpAny_ready (rs := [0]) (by kernel_rfl) (by simp) ?_
    refine AllReady.cons rfl (fun K hK => ?_) (AllReady.nil)
    (go_simp; go_at_call 11; refine (answers _).mono ?_; rintro e X1 ⟨rfl, hb⟩; have HX1 := Aside0.mk (chain' HDR.out hb); clear hb; try go_simp)
    refine hK _ _ ?_
    clear hK K
    refine wpAny_take (i := 1) (v := ?_) rfl (by kernel_rfl) (by kernel_rfl) (by kernel_rfl) (fun _ _ _ h => h) (Or.inl ⟨by rfl, ?_⟩) ?_
    rotate_left
    · intro w; go_simp <;> with_reducible rfl
    go_simp
    refine wpAny_take (i := 2) (v := ?_) rfl (by kernel_rfl) (by kernel_rfl) (by kernel_rfl) (fun _ _ _ h => h) (Or.inl ⟨by rfl, ?_⟩) ?_
    rotate_left
    · intro w; go_simp <;> with_reducible rfl
    go_simp
    refine wpAny_take (i := 3) (v := ?_) rfl (by kernel_rfl) (by kernel_rfl) (by kernel_rfl) (fun _ _ _ h => h) (Or.inl ⟨by rfl, ?_⟩) ?_
    rotate_left
    · intro w; go_simp <;> with_reducible rfl
    go_simp
    refine wpAny_take (i := 4) (v := ?_) rfl (by kernel_rfl) (by kernel_rfl) (by kernel_rfl) (fun _ _ _ h => h) (Or.inl ⟨by rfl, ?_⟩) ?_
    rotate_left
    · intro w; go_simp <;> with_reducible rfl
    go_simp
    refine wpAny_take (i := 5) (v := ?_) rfl (by kernel_rfl) (by kernel_rfl) (by kernel_rfl) (fun _ _ _ h => h) (Or.inl ⟨by rfl, ?_⟩) ?_
    rotate_left
    · intro w; go_simp <;> with_reducible rfl
    go_simp
    refine wpAny_take (i := 6) (v := ?_) rfl (by kernel_rfl) (by kernel_rfl) (by kernel_rfl) (fun _ _ _ h => h) (Or.inl ⟨by rfl, ?_⟩) ?_
    rotate_left
    · intro w; go_simp <;> with_reducible rfl
    go_simp
    refine wpAny_take (i := 9) (v := ?_) rfl (by kernel_rfl) (by kernel_rfl) (by kernel_rfl) (fun _ _ _ h => h) (Or.inl ⟨by rfl, ?_⟩) ?_
    rotate_left
    · intro w; go_simp <;> with_reducible rfl
    go_simp
    refine wpAny_take (i := 11) (v := ?_) rfl (by kernel_rfl) (by kernel_rfl) (by kernel_rfl) (fun _ _ _ h => h) (Or.inl ⟨by rfl, ?_⟩) ?_
    rotate_left
    · intro w; go_simp <;> with_reducible rfl
    go_simp
    refine wpAny_take (i := 13) (v := ?_) rfl (by kernel_rfl) (by kernel_rfl) (by kernel_rfl) (fun _ _ _ h => h) (Or.inl ⟨by rfl, ?_⟩) ?_
    rotate_left
    · intro w; go_simp <;> with_reducible rfl
    go_simp
    refine wpAny_ready (rs := [7, 8]) (by kernel_rfl) (by simp) ?_
    refine AllReady.cons rfl (fun K hK => ?_) ?_
    · skip
      refine step_convert (by simp [Region.wanted, yielded]) 22 9 (.tmp 99) rfl vv (.string (S r)) (by simp [Act.eval, Act.put]) (HCV.out _ HX1.out) ?_
      try go_simp
      refine hK _ _ ?_
      clear hK K
      go_simp
      refine wpAny_ready (rs := [8]) (by kernel_rfl) (by simp) ?_
      refine AllReady.cons rfl (fun K hK => ?_) ?_
      · skip
        go_simp
        try go_simp
        refine hK _ _ ?_
        clear hK K
        go_simp
        refine wpAny_ready (rs := [10]) (by kernel_rfl) (by simp) ?_
        refine AllReady.cons rfl (fun K hK => ?_) ?_
        · skip
          refine step_append_bytes (by simp [Region.wanted, yielded]) (.tmp 101) (.tmp 102) rfl X1.heap.size (.slice (some ⟨X1.heap.size, 0, none⟩) 0 0) [] (by simp [Act.eval, Act.put]) (madeNone (Nat.le_refl _) _ rfl) (by simp) A c data (by simp [Act.eval, Act.put]) (HRD.out _ (below_alloc HX1.out _)) (by simp; omega) ?_
          intro v2 w2 hown hgrow
          have HX2 := Aside0.mk (sureGrown HX1.out hgrow).1
          have HS2 := Aside0.mk (sureGrown HX1.out hgrow).2
          have HO2 := Aside0.mk hown
          clear hown hgrow
          try go_simp
          refine hK _ _ ?_
          clear hK K
          go_simp
          refine wpAny_ready (rs := [12]) (by kernel_rfl) (by simp) ?_
          refine AllReady.cons rfl (fun K hK => ?_) ?_
          · skip
            refine step_append_bytes (by simp [Region.wanted, yielded]) (.tmp 103) (.tmp 104) rfl X1.heap.size v2 data (by simp [Act.eval, Act.put]) HO2.out HS2.out A' c' more (by simp [Act.eval, Act.put]) (HRM.out _ HX2.out) (by omega) ?_
            intro v3 w3 hown hgrow
            obtain ⟨A5, c5, rfl⟩ := own_slice hown
            have HX3 := Aside0.mk (sureGrown2 HX1.out HX2.out HO2.out hgrow)
            obtain ⟨hcvE, hk0, hkc⟩ := sureConv hown rfl (Nat.le_trans HKL.out (Nat.le_of_eq (List.length_append).symm)) HRK.out
            have HCE := Aside0.mk hcvE
            clear hown hgrow hcvE
            try go_simp
            refine hK _ _ ?_
            clear hK K
            go_simp
            refine wpAny_take (i := 14) (v := ?_) rfl (by kernel_rfl) (by kernel_rfl) (by kernel_rfl) (fun _ _ _ h => h) (Or.inl ⟨by rfl, ?_⟩) ?_
            rotate_left
            · intro w; go_simp <;> with_reducible rfl
            go_simp
            refine wpAny_ready (rs := [15]) (by kernel_rfl) (by simp) ?_
            refine AllReady.cons rfl (fun K hK => ?_) ?_
            · skip
              refine step_convert (by simp [Region.wanted, yielded]) 22 9 (.tmp 107) rfl (.slice A5 k c5) (.string (S r)) (by simp [Act.eval, Act.put]) HCE.out ?_
              try go_simp
              refine hK _ _ ?_
              clear hK K
              go_simp
              refine wpAny_take (i := 16) (v := ?_) rfl (by kernel_rfl) (by kernel_rfl) (by kernel_rfl) (fun _ _ _ h => h) (Or.inl ⟨by rfl, ?_⟩) ?_
              rotate_left
              · intro w; go_simp <;> with_reducible rfl
              go_simp
              refine wpAny_take (i := 17) (v := ?_) rfl (by kernel_rfl) (by kernel_rfl) (by kernel_rfl) (fun _ _ _ h => h) (Or.inl ⟨by rfl, ?_⟩) ?_
              rotate_left
              · intro w; go_simp <;> with_reducible rfl
              go_simp
              refine wpAny_take (i := 18) (v := ?_) rfl (by kernel_rfl) (by kernel_rfl) (by kernel_rfl) (fun _ _ _ h => h) (Or.inl ⟨by rfl, ?_⟩) ?_
              rotate_left
              · intro w; go_simp <;> with_reducible rfl
              go_simp
              refine wpAny_take (i := 19) (v := ?_) rfl (by kernel_rfl) (by kernel_rfl) (by kernel_rfl) (fun _ _ _ h => h) (Or.inl ⟨by rfl, ?_⟩) ?_
              rotate_left
              · intro w; go_simp <;> with_reducible rfl
              go_simp
              refine wpAny_take (i := 20) (v := ?_) rfl (by kernel_rfl) (by kernel_rfl) (by kernel_rfl) (fun _ _ _ h => h) (Or.inl ⟨by rfl, ?_⟩) ?_
              rotate_left
              · intro w; go_simp <;> with_reducible rfl
              go_simp
              refine wpAny_take (i := 21) (v := ?_) rfl (by kernel_rfl) (by kernel_rfl) (by kernel_rfl) (fun _ _ _ h => h) (Or.inl ⟨by rfl, ?_⟩) ?_
              rotate_left
              · intro w; go_simp <;> with_reducible rfl
              go_simp
              refine wpAny_take (i := 22) (v := ?_) rfl (by kernel_rfl) (by kernel_rfl) (by kernel_rfl) (fun _ _ _ h => h) (Or.inl ⟨by rfl, ?_⟩) ?_
              rotate_left
              · intro w; go_simp <;> with_reducible rfl
              go_simp
              refine wpAny_take (i := 23) (v := ?_) rfl (by kernel_rfl) (by kernel_rfl) (by kernel_rfl) (fun _ _ _ h => h) (Or.inl ⟨by rfl, ?_⟩) ?_
              rotate_left
              · intro w; go_simp <;> with_reducible rfl
              go_simp
              refine wpAny_take (i := 24) (v := ?_) rfl (by kernel_rfl) (by kernel_rfl) (by kernel_rfl) (fun _ _ _ h => h) (Or.inl ⟨by rfl, ?_⟩) ?_
              rotate_left
              · intro w; go_simp <;> with_reducible rfl
              go_simp
              refine wpAny_take (i := 25) (v := ?_) rfl (by kernel_rfl) (by kernel_rfl) (by kernel_rfl) (fun _ _ _ h => h) (Or.inl ⟨by rfl, ?_⟩) ?_
              rotate_left
              · intro w; go_simp <;> with_reducible rfl
              go_simp
              refine wpAny_take (i := 26) (v := ?_) rfl (by kernel_rfl) (by kernel_rfl) (by kernel_rfl) (fun _ _ _ h => h) (Or.inl ⟨by rfl, ?_⟩) ?_
              rotate_left
              · intro w; go_simp <;> with_reducible rfl
              go_simp
              refine wpAny_take (i := 27) (v := ?_) rfl (by kernel_rfl) (by kernel_rfl) (by kernel_rfl) (fun _ _ _ h => h) (Or.inl ⟨by rfl, ?_⟩) ?_
              rotate_left
              · intro w; go_simp <;> with_reducible rfl
              go_simp
              refine wpAny_take (i := 28) (v := ?_) rfl (by kernel_rfl) (by kernel_rfl) (by kernel_rfl) (fun _ _ _ h => h) (Or.inl ⟨by rfl, ?_⟩) ?_
              rotate_left
              · intro w; go_simp <;> with_reducible rfl
              go_simp
              refine wpAny_take (i := 29) (v := ?_) rfl (by kernel_rfl) (by kernel_rfl) (by kernel_rfl) (fun _ _ _ h => h) (Or.inl ⟨by rfl, ?_⟩) ?_
              rotate_left
              · intro w; go_simp <;> with_reducible rfl
              go_simp
              refine wpAny_take (i := 30) (v := ?_) rfl (by kernel_rfl) (by kernel_rfl) (by kernel_rfl) (fun _ _ _ h => h) (Or.inl ⟨by rfl, ?_⟩) ?_
              rotate_left
              · intro w; go_simp <;> with_reducible rfl
              go_simp
              refine wpAny_take (i := 31) (v := ?_) rfl (by kernel_rfl) (by kernel_rfl) (by kernel_rfl) (fun _ _ _ h => h) (Or.inl ⟨by rfl, ?_⟩) ?_
              rotate_left
              · intro w; go_simp <;> with_reducible rfl
              go_simp
              refine wpAny_take (i := 32) (v := ?_) rfl (by kernel_rfl) (by kernel_rfl) (by kernel_rfl) (fun _ _ _ h => h) (Or.inl ⟨by rfl, ?_⟩) ?_
              rotate_left
              · intro w; go_simp <;> with_reducible rfl
              go_simp
              refine wpAny_take (i := 33) (v := ?_) rfl (by kernel_rfl) (by kernel_rfl) (by kernel_rfl) (fun _ _ _ h => h) (Or.inl ⟨by rfl, ?_⟩) ?_
              rotate_left
              · intro w; go_simp <;> with_reducible rfl
              go_simp
              refine wpAny_done (by kernel_rfl) ?_ _
              go_wp2
              go_ret
              exact ⟨rfl, chain' (chain' HB10.out HB12.out) HX3.out⟩
            exact AllReady.nil
          exact AllReady.nil
        exact AllReady.nil
      exact AllReady.nil
    refine AllReady.cons rfl (fun K hK => ?_) ?_
    · skip
      go_simp
      try go_simp
      refine hK _ _ ?_
      clear hK K
      go_simp
      refine wpAny_ready (rs := [7, 10]) (by kernel_rfl) (by simp) ?_
      refine AllReady.cons rfl (fun K hK => ?_) ?_
      · skip
        refine step_convert (by simp [Region.wanted, yielded]) 22 9 (.tmp 99) rfl vv (.string (S r)) (by simp [Act.eval, Act.put]) (HCV.out _ (below_alloc HX1.out _)) ?_
        try go_simp
        refine hK _ _ ?_
        clear hK K
        go_simp
        refine wpAny_ready (rs := [10]) (by kernel_rfl) (by simp) ?_
        refine AllReady.cons rfl (fun K hK => ?_) ?_
        · skip
          refine step_append_bytes (by simp [Region.wanted, yielded]) (.tmp 101) (.tmp 102) rfl X1.heap.size (.slice (some ⟨X1.heap.size, 0, none⟩) 0 0) [] (by simp [Act.eval, Act.put]) (madeNone (Nat.le_refl _) _ rfl) (by simp) A c data (by simp [Act.eval, Act.put]) (HRD.out _ (below_alloc HX1.out _)) (by simp; omega) ?_
          intro v2 w2 hown hgrow
          have HX2 := Aside0.mk (sureGrown HX1.out hgrow).1
          have HS2 := Aside0.mk (sureGrown HX1.out hgrow).2
          have HO2 := Aside0.mk hown
          clear hown hgrow
          try go_simp
          refine hK _ _ ?_
          clear hK K
          go_simp
          refine wpAny_ready (rs := [12]) (by kernel_rfl) (by simp) ?_
          refine AllReady.cons rfl (fun K hK => ?_) ?_
          · skip
            refine step_append_bytes (by simp [Region.wanted, yielded]) (.tmp 103) (.tmp 104) rfl X1.heap.size v2 data (by simp [Act.eval, Act.put]) HO2.out HS2.out A' c' more (by simp [Act.eval, Act.put]) (HRM.out _ HX2.out) (by omega) ?_
            intro v3 w3 hown hgrow
            obtain ⟨A5, c5, rfl⟩ := own_slice hown
            have HX3 := Aside0.mk (sureGrown2 HX1.out HX2.out HO2.out hgrow)
            obtain ⟨hcvE, hk0, hkc⟩ := sureConv hown rfl (Nat.le_trans HKL.out (Nat.le_of_eq (List.length_append).symm)) HRK.out
            have HCE := Aside0.mk hcvE
            clear hown hgrow hcvE
            try go_simp
            refine hK _ _ ?_
            clear hK K
            go_simp
            refine wpAny_take (i := 14) (v := ?_) rfl (by kernel_rfl) (by kernel_rfl) (by kernel_rfl) (fun _ _ _ h => h) (Or.inl ⟨by rfl, ?_⟩) ?_
            rotate_left
            · intro w; go_simp <;> with_reducible rfl
            go_simp
            refine wpAny_ready (rs := [15]) (by kernel_rfl) (by simp) ?_
            refine AllReady.cons rfl (fun K hK => ?_) ?_
            · skip
              refine step_convert (by simp [Region.wanted, yielded]) 22 9 (.tmp 107) rfl (.slice A5 k c5) (.string (S r)) (by simp [Act.eval, Act.put]) HCE.out ?_
              try go_simp
              refine hK _ _ ?_
              clear hK K
              go_simp
              refine wpAny_take (i := 16) (v := ?_) rfl (by kernel_rfl) (by kernel_rfl) (by kernel_rfl) (fun _ _ _ h => h) (Or.inl ⟨by rfl, ?_⟩) ?_
              rotate_left
              · intro w; go_simp <;> with_reducible rfl
              go_simp
              refine wpAny_take (i := 17) (v := ?_) rfl (by kernel_rfl) (by kernel_rfl) (by kernel_rfl) (fun _ _ _ h => h) (Or.inl ⟨by rfl, ?_⟩) ?_
              rotate_left
              · intro w; go_simp <;> with_reducible rfl
              go_simp
              refine wpAny_take (i := 18) (v := ?_) rfl (by kernel_rfl) (by kernel_rfl) (by kernel_rfl) (fun _ _ _ h => h) (Or.inl ⟨by rfl, ?_⟩) ?_
              rotate_left
              · intro w; go_simp <;> with_reducible rfl
              go_simp
              refine wpAny_take (i := 19) (v := ?_) rfl (by kernel_rfl) (by kernel_rfl) (by kernel_rfl) (fun _ _ _ h => h) (Or.inl ⟨by rfl, ?_⟩) ?_
              rotate_left
              · intro w; go_simp <;> with_reducible rfl
              go_simp
              refine wpAny_take (i := 20) (v := ?_) rfl (by kernel_rfl) (by kernel_rfl) (by kernel_rfl) (fun _ _ _ h => h) (Or.inl ⟨by rfl, ?_⟩) ?_
              rotate_left
              · intro w; go_simp <;> with_reducible rfl
              go_simp
              refine wpAny_take (i := 21) (v := ?_) rfl (by kernel_rfl) (by kernel_rfl) (by kernel_rfl) (fun _ _ _ h => h) (Or.inl ⟨by rfl, ?_⟩) ?_
              rotate_left
              · intro w; go_simp <;> with_reducible rfl
              go_simp
              refine wpAny_take (i := 22) (v := ?_) rfl (by kernel_rfl) (by kernel_rfl) (by kernel_rfl) (fun _ _ _ h => h) (Or.inl ⟨by rfl, ?_⟩) ?_
              rotate_left
              · intro w; go_simp <;> with_reducible rfl
              go_simp
              refine wpAny_take (i := 23) (v := ?_) rfl (by kernel_rfl) (by kernel_rfl) (by kernel_rfl) (fun _ _ _ h => h) (Or.inl ⟨by rfl, ?_⟩) ?_
              rotate_left
              · intro w; go_simp <;> with_reducible rfl
              go_simp
              refine wpAny_take (i := 24) (v := ?_) rfl (by kernel_rfl) (by kernel_rfl) (by kernel_rfl) (fun _ _ _ h => h) (Or.inl ⟨by rfl, ?_⟩) ?_
              rotate_left
              · intro w; go_simp <;> with_reducible rfl
              go_simp
              refine wpAny_take (i := 25) (v := ?_) rfl (by kernel_rfl) (by kernel_rfl) (by kernel_rfl) (fun _ _ _ h => h) (Or.inl ⟨by rfl, ?_⟩) ?_
              rotate_left
              · intro w; go_simp <;> with_reducible rfl
              go_simp
              refine wpAny_take (i := 26) (v := ?_) rfl (by kernel_rfl) (by kernel_rfl) (by kernel_rfl) (fun _ _ _ h => h) (Or.inl ⟨by rfl, ?_⟩) ?_
              rotate_left
              · intro w; go_simp <;> with_reducible rfl
              go_simp
              refine wpAny_take (i := 27) (v := ?_) rfl (by kernel_rfl) (by kernel_rfl) (by kernel_rfl) (fun _ _ _ h => h) (Or.inl ⟨by rfl, ?_⟩) ?_
              rotate_left
              · intro w; go_simp <;> with_reducible rfl
              go_simp
              refine wpAny_take (i := 28) (v := ?_) rfl (by kernel_rfl) (by kernel_rfl) (by kernel_rfl) (fun _ _ _ h => h) (Or.inl ⟨by rfl, ?_⟩) ?_
              rotate_left
              · intro w; go_simp <;> with_reducible rfl
              go_simp
              refine wpAny_take (i := 29) (v := ?_) rfl (by kernel_rfl) (by kernel_rfl) (by kernel_rfl) (fun _ _ _ h => h) (Or.inl ⟨by rfl, ?_⟩) ?_
              rotate_left
              · intro w; go_simp <;> with_reducible rfl
              go_simp
              refine wpAny_take (i := 30) (v := ?_) rfl (by kernel_rfl) (by kernel_rfl) (by kernel_rfl) (fun _ _ _ h => h) (Or.inl ⟨by rfl, ?_⟩) ?_
              rotate_left
              · intro w; go_simp <;> with_reducible rfl
              go_simp
              refine wpAny_take (i := 31) (v := ?_) rfl (by kernel_rfl) (by kernel_rfl) (by kernel_rfl) (fun _ _ _ h => h) (Or.inl ⟨by rfl, ?_⟩) ?_
              rotate_left
              · intro w; go_simp <;> with_reducible rfl
              go_simp
              refine wpAny_take (i := 32) (v := ?_) rfl (by kernel_rfl) (by kernel_rfl) (by kernel_rfl) (fun _ _ _ h => h) (Or.inl ⟨by rfl, ?_⟩) ?_
              rotate_left
              · intro w; go_simp <;> with_reducible rfl
              go_simp
              refine wpAny_take (i := 33) (v := ?_) rfl (by kernel_rfl) (by kernel_rfl) (by kernel_rfl) (fun _ _ _ h => h) (Or.inl ⟨by rfl, ?_⟩) ?_
              rotate_left
              · intro w; go_simp <;> with_reducible rfl
              go_simp
              refine wpAny_done (by kernel_rfl) ?_ _
              go_wp2
              go_ret
              exact ⟨rfl, chain' (chain' HB10.out HB12.out) HX3.out⟩
            exact AllReady.nil
          exact AllReady.nil
        exact AllReady.nil
      refine AllReady.cons rfl (fun K hK => ?_) ?_
      · skip
        refine step_append_bytes (by simp [Region.wanted, yielded]) (.tmp 101) (.tmp 102) rfl X1.heap.size (.slice (some ⟨X1.heap.size, 0, none⟩) 0 0) [] (by simp [Act.eval, Act.put]) (madeNone (Nat.le_refl _) _ rfl) (by simp) A c data (by simp [Act.eval, Act.put]) (HRD.out _ (below_alloc HX1.out _)) (by simp; omega) ?_
        intro v2 w2 hown hgrow
        have HX2 := Aside0.mk (sureGrown HX1.out hgrow).1
        have HS2 := Aside0.mk (sureGrown HX1.out hgrow).2
        have HO2 := Aside0.mk hown
        clear hown hgrow
        try go_simp
        refine hK _ _ ?_
        clear hK K
        go_simp
        refine wpAny_ready (rs := [7, 12]) (by kernel_rfl) (by simp) ?_
        refine AllReady.cons rfl (fun K hK => ?_) ?_
        · skip
          refine step_convert (by simp [Region.wanted, yielded]) 22 9 (.tmp 99) rfl vv (.string (S r)) (by simp [Act.eval, Act.put]) (HCV.out _ HX2.out) ?_
          try go_simp
          refine hK _ _ ?_
          clear hK K
          go_simp
          refine wpAny_ready (rs := [12]) (by kernel_rfl) (by simp) ?_
          refine AllReady.cons rfl (fun K hK => ?_) ?_
          · skip
            refine step_append_bytes (by simp [Region.wanted, yielded]) (.tmp 103) (.tmp 104) rfl X1.heap.size v2 data (by simp [Act.eval, Act.put]) HO2.out HS2.out A' c' more (by simp [Act.eval, Act.put]) (HRM.out _ HX2.out) (by omega) ?_
            intro v3 w3 hown hgrow
            obtain ⟨A5, c5, rfl⟩ := own_slice hown
            have HX3 := Aside0.mk (sureGrown2 HX1.out HX2.out HO2.out hgrow)
            obtain ⟨hcvE, hk0, hkc⟩ := sureConv hown rfl (Nat.le_trans HKL.out (Nat.le_of_eq (List.length_append).symm)) HRK.out
            have HCE := Aside0.mk hcvE
            clear hown hgrow hcvE
            try go_simp
            refine hK _ _ ?_
            clear hK K
            go_simp
            refine wpAny_take (i := 14) (v := ?_) rfl (by kernel_rfl) (by kernel_rfl) (by kernel_rfl) (fun _ _ _ h => h) (Or.inl ⟨by rfl, ?_⟩) ?_
            rotate_left
            · intro w; go_simp <;> with_reducible rfl
            go_simp
            refine wpAny_ready (rs := [15]) (by kernel_rfl) (by simp) ?_
            refine AllReady.cons rfl (fun K hK => ?_) ?_
            · skip
              refine step_convert (by simp [Region.wanted, yielded]) 22 9 (.tmp 107) rfl (.slice A5 k c5) (.string (S r)) (by simp [Act.eval, Act.put]) HCE.out ?_
              try go_simp
              refine hK _ _ ?_
              clear hK K
              go_simp
              refine wpAny_take (i := 16) (v := ?_) rfl (by kernel_rfl) (by kernel_rfl) (by kernel_rfl) (fun _ _ _ h => h) (Or.inl ⟨by rfl, ?_⟩) ?_
              rotate_left
              · intro w; go_simp <;> with_reducible rfl
              go_simp
              refine wpAny_take (i := 17) (v := ?_) rfl (by kernel_rfl) (by kernel_rfl) (by kernel_rfl) (fun _ _ _ h => h) (Or.inl ⟨by rfl, ?_⟩) ?_
              rotate_left
              · intro w; go_simp <;> with_reducible rfl
              go_simp
              refine wpAny_take (i := 18) (v := ?_) rfl (by kernel_rfl) (by kernel_rfl) (by kernel_rfl) (fun _ _ _ h => h) (Or.inl ⟨by rfl, ?_⟩) ?_
              rotate_left
              · intro w; go_simp <;> with_reducible rfl
              go_simp
              refine wpAny_take (i := 19) (v := ?_) rfl (by kernel_rfl) (by kernel_rfl) (by kernel_rfl) (fun _ _ _ h => h) (Or.inl ⟨by rfl, ?_⟩) ?_
              rotate_left
              · intro w; go_simp <;> with_reducible rfl
              go_simp
              refine wpAny_take (i := 20) (v := ?_) rfl (by kernel_rfl) (by kernel_rfl) (by kernel_rfl) (fun _ _ _ h => h) (Or.inl ⟨by rfl, ?_⟩) ?_
              rotate_left
              · intro w; go_simp <;> with_reducible rfl
              go_simp
              refine wpAny_take (i := 21) (v := ?_) rfl (by kernel_rfl) (by kernel_rfl) (by kernel_rfl) (fun _ _ _ h => h) (Or.inl ⟨by rfl, ?_⟩) ?_
              rotate_left
              · intro w; go_simp <;> with_reducible rfl
              go_simp
              refine wpAny_take (i := 22) (v := ?_) rfl (by kernel_rfl) (by kernel_rfl) (by kernel_rfl) (fun _ _ _ h => h) (Or.inl ⟨by rfl, ?_⟩) ?_
              rotate_left
              · intro w; go_simp <;> with_reducible rfl
              go_simp
              refine wpAny_take (i := 23) (v := ?_) rfl (by kernel_rfl) (by kernel_rfl) (by kernel_rfl) (fun _ _ _ h => h) (Or.inl ⟨by rfl, ?_⟩) ?_
              rotate_left
              · intro w; go_simp <;> with_reducible rfl
              go_simp
              refine wpAny_take (i := 24) (v := ?_) rfl (by kernel_rfl) (by kernel_rfl) (by kernel_rfl) (fun _ _ _ h => h) (Or.inl ⟨by rfl, ?_⟩) ?_
              rotate_left
              · intro w; go_simp <;> with_reducible rfl
              go_simp
              refine wpAny_take (i := 25) (v := ?_) rfl (by kernel_rfl) (by kernel_rfl) (by kernel_rfl) (fun _ _ _ h => h) (Or.inl ⟨by rfl, ?_⟩) ?_
              rotate_left
              · intro w; go_simp <;> with_reducible rfl
              go_simp
              refine wpAny_take (i := 26) (v := ?_) rfl (by kernel_rfl) (by kernel_rfl) (by kernel_rfl) (fun _ _ _ h => h) (Or.inl ⟨by rfl, ?_⟩) ?_
              rotate_left
              · intro w; go_simp <;> with_reducible rfl
              go_simp
              refine wpAny_take (i := 27) (v := ?_) rfl (by kernel_rfl) (by kernel_rfl) (by kernel_rfl) (fun _ _ _ h => h) (Or.inl ⟨by rfl, ?_⟩) ?_
              rotate_left
              · intro w; go_simp <;> with_reducible rfl
              go_simp
              refine wpAny_take (i := 28) (v := ?_) rfl (by kernel_rfl) (by kernel_rfl) (by kernel_rfl) (fun _ _ _ h => h) (Or.inl ⟨by rfl, ?_⟩) ?_
              rotate_left
              · intro w; go_simp <;> with_reducible rfl
              go_simp
              refine wpAny_take (i := 29) (v := ?_) rfl (by kernel_rfl) (by kernel_rfl) (by kernel_rfl) (fun _ _ _ h => h) (Or.inl ⟨by rfl, ?_⟩) ?_
              rotate_left
              · intro w; go_simp <;> with_reducible rfl
              go_simp
              refine wpAny_take (i := 30) (v := ?_) rfl (by kernel_rfl) (by kernel_rfl) (by kernel_rfl) (fun _ _ _ h => h) (Or.inl ⟨by rfl, ?_⟩) ?_
              rotate_left
              · intro w; go_simp <;> with_reducible rfl
              go_simp
              refine wpAny_take (i := 31) (v := ?_) rfl (by kernel_rfl) (by kernel_rfl) (by kernel_rfl) (fun _ _ _ h => h) (Or.inl ⟨by rfl, ?_⟩) ?_
              rotate_left
              · intro w; go_simp <;> with_reducible rfl
              go_simp
              refine wpAny_take (i := 32) (v := ?_) rfl (by kernel_rfl) (by kernel_rfl) (by kernel_rfl) (fun _ _ _ h => h) (Or.inl ⟨by rfl, ?_⟩) ?_
              rotate_left
              · intro w; go_simp <;> with_reducible rfl
              go_simp
              refine wpAny_take (i := 33) (v := ?_) rfl (by kernel_rfl) (by kernel_rfl) (by kernel_rfl) (fun _ _ _ h => h) (Or.inl ⟨by rfl, ?_⟩) ?_
              rotate_left
              · intro w; go_simp <;> with_reducible rfl
              go_simp
              refine wpAny_done (by kernel_rfl) ?_ _
              go_wp2
              go_ret
              exact ⟨rfl, chain' (chain' HB10.out HB12.out) HX3.out⟩
            exact AllReady.nil
          exact AllReady.nil
        refine AllReady.cons rfl (fun K hK => ?_) ?_
        · skip
          refine step_append_bytes (by simp [Region.wanted, yielded]) (.tmp 103) (.tmp 104) rfl X1.heap.size v2 data (by simp [Act.eval, Act.put]) HO2.out HS2.out A' c' more (by simp [Act.eval, Act.put]) (HRM.out _ HX2.out) (by omega) ?_
          intro v3 w3 hown hgrow
          obtain ⟨A5, c5, rfl⟩ := own_slice hown
          have HX3 := Aside0.mk (sureGrown2 HX1.out HX2.out HO2.out hgrow)
          obtain ⟨hcvE, hk0, hkc⟩ := sureConv hown rfl (Nat.le_trans HKL.out (Nat.le_of_eq (List.length_append).symm)) HRK.out
          have HCE := Aside0.mk hcvE
          clear hown hgrow hcvE
          try go_simp
          refine hK _ _ ?_
          clear hK K
          go_simp
          refine wpAny_take (i := 14) (v := ?_) rfl (by kernel_rfl) (by kernel_rfl) (by kernel_rfl) (fun _ _ _ h => h) (Or.inl ⟨by rfl, ?_⟩) ?_
          rotate_left
          · intro w; go_simp <;> with_reducible rfl
          go_simp
          refine wpAny_ready (rs := [7, 15]) (by kernel_rfl) (by simp) ?_
          refine AllReady.cons rfl (fun K hK => ?_) ?_
          · skip
            refine step_convert (by simp [Region.wanted, yielded]) 22 9 (.tmp 99) rfl vv (.string (S r)) (by simp [Act.eval, Act.put]) (HCV.out _ HX3.out) ?_
            try go_simp
            refine hK _ _ ?_
            clear hK K
            go_simp
            refine wpAny_ready (rs := [15]) (by kernel_rfl) (by simp) ?_
            refine AllReady.cons rfl (fun K hK => ?_) ?_
            · skip
              refine step_convert (by simp [Region.wanted, yielded]) 22 9 (.tmp 107) rfl (.slice A5 k c5) (.string (S r)) (by simp [Act.eval, Act.put]) HCE.out ?_
              try go_simp
              refine hK _ _ ?_
              clear hK K
              go_simp
              refine wpAny_take (i := 16) (v := ?_) rfl (by kernel_rfl) (by kernel_rfl) (by kernel_rfl) (fun _ _ _ h => h) (Or.inl ⟨by rfl, ?_⟩) ?_
              rotate_left
              · intro w; go_simp <;> with_reducible rfl
              go_simp
              refine wpAny_take (i := 17) (v := ?_) rfl (by kernel_rfl) (by kernel_rfl) (by kernel_rfl) (fun _ _ _ h => h) (Or.inl ⟨by rfl, ?_⟩) ?_
              rotate_left
              · intro w; go_simp <;> with_reducible rfl
              go_simp
              refine wpAny_take (i := 18) (v := ?_) rfl (by kernel_rfl) (by kernel_rfl) (by kernel_rfl) (fun _ _ _ h => h) (Or.inl ⟨by rfl, ?_⟩) ?_
              rotate_left
              · intro w; go_simp <;> with_reducible rfl
              go_simp
              refine wpAny_take (i := 19) (v := ?_) rfl (by kernel_rfl) (by kernel_rfl) (by kernel_rfl) (fun _ _ _ h => h) (Or.inl ⟨by rfl, ?_⟩) ?_
              rotate_left
              · intro w; go_simp <;> with_reducible rfl
              go_simp
              refine wpAny_take (i := 20) (v := ?_) rfl (by kernel_rfl) (by kernel_rfl) (by kernel_rfl) (fun _ _ _ h => h) (Or.inl ⟨by rfl, ?_⟩) ?_
              rotate_left
              · intro w; go_simp <;> with_reducible rfl
              go_simp
              refine wpAny_take (i := 21) (v := ?_) rfl (by kernel_rfl) (by kernel_rfl) (by kernel_rfl) (fun _ _ _ h => h) (Or.inl ⟨by rfl, ?_⟩) ?_
              rotate_left
              · intro w; go_simp <;> with_reducible rfl
              go_simp
              refine wpAny_take (i := 22) (v := ?_) rfl (by kernel_rfl) (by kernel_rfl) (by kernel_rfl) (fun _ _ _ h => h) (Or.inl ⟨by rfl, ?_⟩) ?_
              rotate_left
              · intro w; go_simp <;> with_reducible rfl
              go_simp
              refine wpAny_take (i := 23) (v := ?_) rfl (by kernel_rfl) (by kernel_rfl) (by kernel_rfl) (fun _ _ _ h => h) (Or.inl ⟨by rfl, ?_⟩) ?_
              rotate_left
              · intro w; go_simp <;> with_reducible rfl
              go_simp
              refine wpAny_take (i := 24) (v := ?_) rfl (by kernel_rfl) (by kernel_rfl) (by kernel_rfl) (fun _ _ _ h => h) (Or.inl ⟨by rfl, ?_⟩) ?_
              rotate_left
              · intro w; go_simp <;> with_reducible rfl
              go_simp
              refine wpAny_take (i := 25) (v := ?_) rfl (by kernel_rfl) (by kernel_rfl) (by kernel_rfl) (fun _ _ _ h => h) (Or.inl ⟨by rfl, ?_⟩) ?_
              rotate_left
              · intro w; go_simp <;> with_reducible rfl
              go_simp
              refine wpAny_take (i := 26) (v := ?_) rfl (by kernel_rfl) (by kernel_rfl) (by kernel_rfl) (fun _ _ _ h => h) (Or.inl ⟨by rfl, ?_⟩) ?_
              rotate_left
              · intro w; go_simp <;> with_reducible rfl
              go_simp
              refine wpAny_take (i := 27) (v := ?_) rfl (by kernel_rfl) (by kernel_rfl) (by kernel_rfl) (fun _ _ _ h => h) (Or.inl ⟨by rfl, ?_⟩) ?_
              rotate_left
              · intro w; go_simp <;> with_reducible rfl
              go_simp
              refine wpAny_take (i := 28) (v := ?_) rfl (by kernel_rfl) (by kernel_rfl) (by kernel_rfl) (fun _ _ _ h => h) (Or.inl ⟨by rfl, ?_⟩) ?_
              rotate_left
              · intro w; go_simp <;> with_reducible rfl
              go_simp
              refine wpAny_take (i := 29) (v := ?_) rfl (by kernel_rfl) (by kernel_rfl) (by kernel_rfl) (fun _ _ _ h => h) (Or.inl ⟨by rfl, ?_⟩) ?_
              rotate_left
              · intro w; go_simp <;> with_reducible rfl
              go_simp
              refine wpAny_take (i := 30) (v := ?_) rfl (by kernel_rfl) (by kernel_rfl) (by kernel_rfl) (fun _ _ _ h => h) (Or.inl ⟨by rfl, ?_⟩) ?_
              rotate_left
              · intro w; go_simp <;> with_reducible rfl
              go_simp
              refine wpAny_take (i := 31) (v := ?_) rfl (by kernel_rfl) (by kernel_rfl) (by kernel_rfl) (fun _ _ _ h => h) (Or.inl ⟨by rfl, ?_⟩) ?_
              rotate_left
              · intro w; go_simp <;> with_reducible rfl
              go_simp
              refine wpAny_take (i := 32) (v := ?_) rfl (by kernel_rfl) (by kernel_rfl) (by kernel_rfl) (fun _ _ _ h => h) (Or.inl ⟨by rfl, ?_⟩) ?_
              rotate_left
              · intro w; go_simp <;> with_reducible rfl
              go_simp
              refine wpAny_take (i := 33) (v := ?_) rfl (by kernel_rfl) (by kernel_rfl) (by kernel_rfl) (fun _ _ _ h => h) (Or.inl ⟨by rfl, ?_⟩) ?_
              rotate_left
              · intro w; go_simp <;> with_reducible rfl
              go_simp
              refine wpAny_done (by kernel_rfl) ?_ _
              go_wp2
              go_ret
              exact ⟨rfl, chain' (chain' HB10.out HB12.out) HX3.out⟩
            exact AllReady.nil
          refine AllReady.cons rfl (fun K hK => ?_) ?_
          · skip
            refine step_convert (by simp [Region.wanted, yielded]) 22 9 (.tmp 107) rfl (.slice A5 k c5) (.string (S r)) (by simp [Act.eval, Act.put]) HCE.out ?_
            try go_simp
            refine hK _ _ ?_
            clear hK K
            go_simp
            refine wpAny_ready (rs := [7]) (by kernel_rfl) (by simp) ?_
            refine AllReady.cons rfl (fun K hK => ?_) ?_
            · skip
              refine step_convert (by simp [Region.wanted, yielded]) 22 9 (.tmp 99) rfl vv (.string (S r)) (by simp [Act.eval, Act.put]) (HCV.out _ HX3.out) ?_
              try go_simp
              refine hK _ _ ?_
              clear hK K
              go_simp
              refine wpAny_take (i := 16) (v := ?_) rfl (by kernel_rfl) (by kernel_rfl) (by kernel_rfl) (fun _ _ _ h => h) (Or.inl ⟨by rfl, ?_⟩) ?_
              rotate_left
              · intro w; go_simp <;> with_reducible rfl
              go_simp
              refine wpAny_take (i := 17) (v := ?_) rfl (by kernel_rfl) (by kernel_rfl) (by kernel_rfl) (fun _ _ _ h => h) (Or.inl ⟨by rfl, ?_⟩) ?_
              rotate_left
              · intro w; go_simp <;> with_reducible rfl
              go_simp
              refine wpAny_take (i := 18) (v := ?_) rfl (by kernel_rfl) (by kernel_rfl) (by kernel_rfl) (fun _ _ _ h => h) (Or.inl ⟨by rfl, ?_⟩) ?_
              rotate_left
              · intro w; go_simp <;> with_reducible rfl
              go_simp
              refine wpAny_take (i := 19) (v := ?_) rfl (by kernel_rfl) (by kernel_rfl) (by kernel_rfl) (fun _ _ _ h => h) (Or.inl ⟨by rfl, ?_⟩) ?_
              rotate_left
              · intro w; go_simp <;> with_reducible rfl
              go_simp
              refine wpAny_take (i := 20) (v := ?_) rfl (by kernel_rfl) (by kernel_rfl) (by kernel_rfl) (fun _ _ _ h => h) (Or.inl ⟨by rfl, ?_⟩) ?_
              rotate_left
              · intro w; go_simp <;> with_reducible rfl
              go_simp
              refine wpAny_take (i := 21) (v := ?_) rfl (by kernel_rfl) (by kernel_rfl) (by kernel_rfl) (fun _ _ _ h => h) (Or.inl ⟨by rfl, ?_⟩) ?_
              rotate_left
              · intro w; go_simp <;> with_reducible rfl
              go_simp
              refine wpAny_take (i := 22) (v := ?_) rfl (by kernel_rfl) (by kernel_rfl) (by kernel_rfl) (fun _ _ _ h => h) (Or.inl ⟨by rfl, ?_⟩) ?_
              rotate_left
              · intro w; go_simp <;> with_reducible rfl
              go_simp
              refine wpAny_take (i := 23) (v := ?_) rfl (by kernel_rfl) (by kernel_rfl) (by kernel_rfl) (fun _ _ _ h => h) (Or.inl ⟨by rfl, ?_⟩) ?_
              rotate_left
              · intro w; go_simp <;> with_reducible rfl
              go_simp
              refine wpAny_take (i := 24) (v := ?_) rfl (by kernel_rfl) (by kernel_rfl) (by kernel_rfl) (fun _ _ _ h => h) (Or.inl ⟨by rfl, ?_⟩) ?_
              rotate_left
              · intro w; go_simp <;> with_reducible rfl
              go_simp
              refine wpAny_take (i := 25) (v := ?_) rfl (by kernel_rfl) (by kernel_rfl) (by kernel_rfl) (fun _ _ _ h => h) (Or.inl ⟨by rfl, ?_⟩) ?_
              rotate_left
              · intro w; go_simp <;> with_reducible rfl
              go_simp
              refine wpAny_take (i := 26) (v := ?_) rfl (by kernel_rfl) (by kernel_rfl) (by kernel_rfl) (fun _ _ _ h => h) (Or.inl ⟨by rfl, ?_⟩) ?_
              rotate_left
              · intro w; go_simp <;> with_reducible rfl
              go_simp
              refine wpAny_take (i := 27) (v := ?_) rfl (by kernel_rfl) (by kernel_rfl) (by kernel_rfl) (fun _ _ _ h => h) (Or.inl ⟨by rfl, ?_⟩) ?_
              rotate_left
              · intro w; go_simp <;> with_reducible rfl
              go_simp
              refine wpAny_take (i := 28) (v := ?_) rfl (by kernel_rfl) (by kernel_rfl) (by kernel_rfl) (fun _ _ _ h => h) (Or.inl ⟨by rfl, ?_⟩) ?_
              rotate_left
              · intro w; go_simp <;> with_reducible rfl
              go_simp
              refine wpAny_take (i := 29) (v := ?_) rfl (by kernel_rfl) (by kernel_rfl) (by kernel_rfl) (fun _ _ _ h => h) (Or.inl ⟨by rfl, ?_⟩) ?_
              rotate_left
              · intro w; go_simp <;> with_reducible rfl
              go_simp
              refine wpAny_take (i := 30) (v := ?_) rfl (by kernel_rfl) (by kernel_rfl) (by kernel_rfl) (fun _ _ _ h => h) (Or.inl ⟨by rfl, ?_⟩) ?_
              rotate_left
              · intro w; go_simp <;> with_reducible rfl
              go_simp
              refine wpAny_take (i := 31) (v := ?_) rfl (by kernel_rfl) (by kernel_rfl) (by kernel_rfl) (fun _ _ _ h => h) (Or.inl ⟨by rfl, ?_⟩) ?_
              rotate_left
              · intro w; go_simp <;> with_reducible rfl
              go_simp
              refine wpAny_take (i := 32) (v := ?_) rfl (by kernel_rfl) (by kernel_rfl) (by kernel_rfl) (fun _ _ _ h => h) (Or.inl ⟨by rfl, ?_⟩) ?_
              rotate_left
              · intro w; go_simp <;> with_reducible rfl
              go_simp
              refine wpAny_take (i := 33) (v := ?_) rfl (by kernel_rfl) (by kernel_rfl) (by kernel_rfl) (fun _ _ _ h => h) (Or.inl ⟨by rfl, ?_⟩) ?_
              rotate_left
              · intro w; go_simp <;> with_reducible rfl
              go_simp
              refine wpAny_done (by kernel_rfl) ?_ _
              go_wp2
              go_ret
              exact ⟨rfl, chain' (chain' HB10.out HB12.out) HX3.out⟩
            exact AllReady.nil
          exact AllReady.nil
        exact AllReady.nil
      exact AllReady.nil
    exact AllReady.nil
    -- END
end
theorem fsSure {w : World} (u : List UInt8) (hz : u.length ≤ 140737488351232) (v : List UInt8) (hz' : v.length ≤ 140737488351232) (A : Option Addr) (l c : Nat) (data : List UInt8) (hr : ReadsInt w .u8 A l (B data)) (hc : l ≤ c) (hy : l ≤ 140737488351232) (A' : Option Addr) (l' c' : Nat) (more : List UInt8) (hr' : ReadsInt w .u8 A' l' (B more)) (hc' : l' ≤ c') (hy' : l' ≤ 140737488351232) (n : Int) (hn : (Lit.int .i64 n).wf = true) (m : Int) (hm : (Lit.int .i64 m).wf = true) (hG : Glob w) :
    Calls Try.prog 4 #[.string (S u), .string (S v), .slice A l c, .slice A' l' c', .int .i64 n, .int .i64 m] w fun e w' => e = .returned (.bool true) ∧ Below w.heap.size w w' := by
  have e1 : l = data.length := by rw [← hr.1, B_length]
  have e2 : l' = more.length := by rw [← hr'.1, B_length]
  subst e1 e2
  by_cases h : rightB u = false ∨ rightB v = false ∨ u = v ∨ 1000 < data.length + more.length
  · exact sureOut u v hz hz' A c data A' c' more n m hy hy' h
  · simp only [not_or, Bool.not_eq_false] at h
    exact sureIn u v hz hz' A c data A' c' more n m h.1 h.2.1 h.2.2.1 (by omega) (by rw [B_length]; exact hr) (by rw [B_length]; exact hr') hm
end Go.Proofs.Ytibmgcihpbofdaa.Fs
