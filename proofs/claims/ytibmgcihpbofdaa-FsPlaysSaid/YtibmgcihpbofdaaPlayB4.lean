/- ref01: Crash, one way. Printed by genplaycrash.py. ref01: Crash, one way. Printed by genplaycrash.py. ref01: Crash, one way. Printed by genplaycrash.py. ref01: Crash, one way. Printed by genplaycrash.py. ref01: Crash, one way. Printed by genplaycrash.py. ref01: Crash, one way. Printed by genplaycrash.py. ref01: Crash, one way. Printed by genplaycrash.py. ref01: Crash, one way. Printed by genplaycrash.py. ref01: Crash. law04: room, other; both disks side by side. -/
import Derived.Test.YtibmgcihpbofdaaPlayB2
import Derived.Test.YtibmgcihpbofdaaPlayB1
namespace Go.Proofs.Ytibmgcihpbofdaa.Fs
open Go.RowKit Go.Proofs.Ytibmgcihpbofdaa Go.Proofs.Ytibmgcihpbofdaa.Plain Go.Proofs.YtibmgcihpbofdaaW.PrintWords Go.Maps
set_option linter.unusedVariables false
set_option linter.unusedSimpArgs false
set_option maxHeartbeats 4000000 in
set_option maxRecDepth 100000 in
theorem crashlo0 {w0 W : World} {r : Nat} {d : RDisk} {R : Nat → Prop} {N : Nat} (h : RAt w0 r d R W) (hok : ROk d N) (hN : N ≤ 900000) (nn : Int) (mm : Int) (hm : mm < 0) (hn : nn < 0) (hL : 0 < d.loose.length) :
    Calls Try.prog 44 #[.pointer (some ⟨r, 0, none⟩), .int .i64 nn, .int .i64 mm] W fun e W' => e = .returned (.tuple #[]) ∧ RTurn w0 r { mid d 0 (0 : Int) d.files.length with fuse := -1, off := false } R W W' := by
  obtain ⟨vs, vl, vf, fl, c0⟩ := h
  obtain ⟨⟨As, cs, rfl⟩, ⟨Al, cl, rfl⟩, ⟨Af, cf, rfl⟩⟩ := c0.slices
  have HOK := Aside0.mk hok
  have HN := Aside0.mk hN
  have HFL := Aside0.mk c0.len
  obtain ⟨Fn, hFn⟩ : ∃ Fn, fl.length = Fn := ⟨_, rfl⟩
  have HFN := Aside0.mk (show d.files.length = Fn by rw [← hFn]; exact c0.len)
  obtain ⟨p0, p1, p2, -, -, -⟩ := c0.cells
  have q1 := c0.frozen 1
  obtain ⟨ga, ca, ea, -⟩ := c0.chg 0 hL
  injection ea with ea _ e3
  subst ea
  subst e3
  have hcl := rowCap c0.loose
  have HEX := Aside0.mk (cutEnd c0 0 (by omega))
  obtain ⟨L, hL'⟩ : ∃ L, d.loose.length = L := ⟨_, rfl⟩
  have HLL := Aside0.mk hL'
  rw [hL'] at p1 hcl hL
  have hL2 : (0 : Int) < (L : Int) := by omega
  have hk1 : (0 : Int) ≤ (cl : Int) := by omega
  have hk2 : (0 : Int) ≤ (0 : Int) := by omega
  clear hL hL' hcl
  obtain ⟨R1, k1, k2⟩ := HEX.out
  have HC1 := Aside0.mk k1
  have HT1 := Aside0.mk k2
  clear k1 k2 HEX
  rw [hFn] at p2 HC1
  clear hFn
  have hfb : Fn ≤ 900000 := by rw [← HFN.out]; have := hok.many.2; omega
  clear c0 hok hN
  go_enter Try.func44, Try.ntmps44
  go_wp2_with (go_at_call 46; refine (dirIs ⟨_, _, _, _, HC1.out⟩ (HOK.out.cut _) (by have := HN.out; omega)).mono ?_; rintro e W8 ⟨v8, rfl, hD⟩; obtain ⟨R8, k1, k2⟩ := firmEnd HC1.out hD (p' := mid d (0) (0 : Int) 0) (mid_zero _ _ _); have HC8 := Aside0.mk k1; have HT8 := Aside0.mk (HT1.out.trans k2); have hc8 := HC1.out.step hD.below; obtain ⟨A8, n8, c8, rfl⟩ := own_three hD.row; clear p0 p1 p2 q1; obtain ⟨p0, p1, -, -, -, -⟩ := hc8.cells; have q0 := hc8.frozen 0; have q1 := hc8.frozen 1; clear hc8 hD k1 k2)
  obtain ⟨w8, hw8⟩ : ∃ w8, (W8.setCell ⟨r, 0, none⟩ (.slice A8 n8 c8)).setCell ⟨r, 1, none⟩ (.slice none 0 0) = w8 := ⟨_, rfl⟩
  rw [hw8] at HC8 HT8 ⊢
  clear hw8 p0 p1 q0 q1 HC1 HT1
  go_loopw [6, 7] (fun v6 v7 wr => ∃ (i : Nat) (R9 : Nat → Prop) (fl9 : List RFile), i ≤ Fn ∧ v6 = .int .i64 i ∧ Aside0 (fl9.length = Fn) ∧ Aside0 (RCore w0 wr r (mid d (0) (0 : Int) i) R9 (.slice A8 n8 c8) (.slice none 0 0) (.slice Af Fn cf) fl9) ∧ Aside0 (Turn R W R9 wr)) (fun v6 _ _ => Fn - (intOf v6).toNat)
  case atStart => exact ⟨0, R8, fl, by omega, rfl, ⟨HFL.out.symm.trans HFN.out⟩, HC8, HT8⟩
  case round =>
    obtain ⟨i, R9, fl9, hi, rfl, HF9, HC9, HT9⟩ := hrel
    obtain ⟨-, -, p2, -, -, -⟩ := HC9.out.cells
    by_cases hlt : i < Fn
    · have hif : i < fl9.length := by rw [HF9.out]; exact hlt
      obtain ⟨g, cf', efl, -, -, f0, f1, fr0, fr1⟩ := HC9.out.file i hif
      injection efl with efl e2 e3
      clear e2
      subst efl
      subst e3
      have hgr : g ≠ r := (HC9.out.ne.2.2.1 g rfl).1
      have HLT := Aside0.mk hlt
      have hid : i < d.files.length := by rw [HFN.out]; exact hlt
      have hqd : fl9[i].2 = d.files[i] := by
        have h1 := mid_at (d := d) (k := (0)) (M := (0 : Int)) hid
        rw [HC9.out.eq, List.getElem?_map, List.getElem?_eq_getElem hif] at h1
        exact Option.some.inj h1
      have hfm := HOK.out.firm _ (List.getElem_mem hid)
      have HEB := Aside0.mk (HC9.out.each _ (List.getElem_mem hif))
      have HCT := Aside0.mk (fun (X : World) (hX : Below wr.heap.size wr X) (v : Value) (b : List UInt8) (hv : BytesIs X wr.heap.size v b) (m : Nat) => fileCut (show RCore w0 wr r (mid d (0) (0 : Int) i) R9 (.slice A8 n8 c8) (.slice none 0 0) (.slice (some ⟨g, 0, none⟩) fl9.length cf) fl9 by rw [HF9.out]; exact HC9.out) i hif hX hv m)
      have HCELL := Aside0.mk (fun (X : World) (hX : Below wr.heap.size wr X) => fileCells (show RCore w0 wr r (mid d (0) (0 : Int) i) R9 (.slice A8 n8 c8) (.slice none 0 0) (.slice (some ⟨g, 0, none⟩) fl9.length cf) fl9 by rw [HF9.out]; exact HC9.out) hif hX)
      obtain ⟨q, hq⟩ : ∃ q, fl9[i] = q := ⟨_, rfl⟩
      rw [hq] at f0 f1 hqd HEB HCELL
      obtain ⟨bv, u, s⟩ := q
      have HQD := Aside0.mk (show d.files[i] = (u, s) from hqd.symm)
      have HST := Aside0.mk (fun (m : Nat) (hm : m = s + min (max (0 : Int) 0).toNat (u.length - s)) => mid_step (k := (0)) (M := (0 : Int)) hid hqd.symm hm)
      rw [← hqd] at hfm
      have hs1 : s ≤ u.length := hfm.1
      have hs2 : u.length ≤ N := hfm.2
      have hbb : ∃ A c, bv = .slice A (B u).length c := own_slice HEB.out
      obtain ⟨Ab, cb, rfl⟩ := hbb
      have hcap : (B u).length ≤ cb := rowCap HEB.out
      have HRE := Aside0.mk (fun X (hX : Below wr.heap.size wr X) => bytesReads (BytesIs.below HEB.out hX))
      obtain ⟨m0, hm0'⟩ : ∃ m0, (B u).length = m0 := ⟨_, rfl⟩
      have hmu : m0 = u.length := by rw [← hm0', B_length]
      simp only [hm0'] at f0 HCELL hcap
      have HMU := Aside0.mk hmu
      have hsl : s ≤ m0 := by omega
      have hml : m0 ≤ 900000 := by have := HN.out; omega
      have HSL := Aside0.mk hsl
      have hw1 : IntKind.i64.wrap ((m0 : Int) - (s : Int)) = (m0 : Int) - (s : Int) := IntWalk.i64_in _ (by omega)
      have HZ9 := Aside0.mk (Below.refl wr.heap.size wr)
      have hal2 : ∀ o : Obj, (wr.alloc o).cell? ⟨r, 2, none⟩ = some (.slice (some ⟨g, 0, none⟩) Fn cf) := fun o => (HC9.out.step (below_alloc (Below.refl _ _) o)).cells.2.2.1
      have hal3 : ∀ o : Obj, (wr.alloc o).cell? ⟨g, i * 2, none⟩ = some (.slice Ab m0 cb) := fun o => (HCELL.out _ (below_alloc (Below.refl _ _) o)).1
      clear hq hqd hfm hs1 hs2 hm0' hmu
      have hM : ¬ (0 : Int) > (m0 : Int) - (s : Int) := by omega
      have hadd : IntKind.i64.wrap (s : Int) = (s : Int) := IntWalk.i64_in _ (by omega)
      have hb1 : (s : Int) ≤ (cb : Int) := by omega
      have HKK := Aside0.mk (show s = s + min (max (0 : Int) 0).toNat (u.length - s) by simp)
      have HTL := Aside0.mk (show s = (u.take s).length ∧ (u.take s).length ≤ 2000000 by rw [List.length_take]; have := HMU.out; omega)
      go_wp2
      refine wp_region_noPanic ?_
      refine wp_region_held_drew (S := (fun X => X.cell? ⟨r, 2, none⟩ = some (.slice (some ⟨g, 0, none⟩) Fn cf))) (by kernel_rfl) ?_ (fun hHeld => ?_)
      · (try dsimp only); first | go_keep | assumption | exact hal2 _
      refine wpAnyH_take (i := 0) (v := ?_) rfl (by kernel_rfl) (by kernel_rfl) (by kernel_rfl) (fun _ _ _ h => h) (Or.inl ⟨by rfl, ?_⟩) (by assumption) ?_
      rotate_left
      · (intro w hSw; (try dsimp only at hSw); (go_simp <;> with_reducible rfl))
      try go_simp
      refine wpAnyH_take (i := 1) (v := ?_) rfl (by kernel_rfl) (by kernel_rfl) (by kernel_rfl) (fun _ _ _ h => h) (Or.inl ⟨by rfl, ?_⟩) (by assumption) ?_
      rotate_left
      · (intro w hSw; (try dsimp only at hSw); (go_simp <;> with_reducible rfl))
      try go_simp
      refine wpAnyH_take (i := 2) (v := ?_) rfl (by kernel_rfl) (by kernel_rfl) (by kernel_rfl) (fun _ _ _ h => h) (Or.inl ⟨by rfl, ?_⟩) (by assumption) ?_
      rotate_left
      · (intro w hSw; (try dsimp only at hSw); (go_simp <;> with_reducible rfl))
      try go_simp
      refine wpAnyH_take (i := 3) (v := ?_) rfl (by kernel_rfl) (by kernel_rfl) (by kernel_rfl) (fun _ _ _ h => h) (Or.inl ⟨by rfl, ?_⟩) (by assumption) ?_
      rotate_left
      · (intro w hSw; (try dsimp only at hSw); (go_simp <;> with_reducible rfl))
      try go_simp
      refine wpAnyH_take (i := 4) (v := ?_) rfl (by kernel_rfl) (by kernel_rfl) (by kernel_rfl) (fun _ _ _ h => h) (Or.inl ⟨by rfl, ?_⟩) (by assumption) ?_
      rotate_left
      · (intro w hSw; (try dsimp only at hSw); (go_simp <;> with_reducible rfl))
      try go_simp
      refine wpAnyH_take (i := 6) (v := ?_) rfl (by kernel_rfl) (by kernel_rfl) (by kernel_rfl) (fun _ _ _ h => h) (Or.inl ⟨by rfl, ?_⟩) (by assumption) ?_
      rotate_left
      · (intro w hSw; (try dsimp only at hSw); (go_simp <;> with_reducible rfl))
      try go_simp
      refine wpAnyH_take (i := 7) (v := ?_) rfl (by kernel_rfl) (by kernel_rfl) (by kernel_rfl) (fun _ _ _ h => h) (Or.inl ⟨by rfl, ?_⟩) (by assumption) ?_
      rotate_left
      · (intro w hSw; (try dsimp only at hSw); (go_simp <;> with_reducible rfl))
      try go_simp
      refine wpAnyH_take (i := 8) (v := ?_) rfl (by kernel_rfl) (by kernel_rfl) (by kernel_rfl) (fun _ _ _ h => h) (Or.inl ⟨by rfl, ?_⟩) (by assumption) ?_
      rotate_left
      · (intro w hSw; (try dsimp only at hSw); (go_simp <;> with_reducible rfl))
      try go_simp
      refine wpAnyH_take (i := 9) (v := ?_) rfl (by kernel_rfl) (by kernel_rfl) (by kernel_rfl) (fun _ _ _ h => h) (Or.inl ⟨by rfl, ?_⟩) (by assumption) ?_
      rotate_left
      · (intro w hSw; (try dsimp only at hSw); (go_simp <;> with_reducible rfl))
      try go_simp
      refine wpAnyH_take (i := 10) (v := ?_) rfl (by kernel_rfl) (by kernel_rfl) (by kernel_rfl) (fun _ _ _ h => h) (Or.inl ⟨by rfl, ?_⟩) (by assumption) ?_
      rotate_left
      · (intro w hSw; (try dsimp only at hSw); (go_simp <;> with_reducible rfl))
      try go_simp
      refine wpAnyH_take (i := 11) (v := ?_) rfl (by kernel_rfl) (by kernel_rfl) (by kernel_rfl) (fun _ _ _ h => h) (Or.inl ⟨by rfl, ?_⟩) (by assumption) ?_
      rotate_left
      · (intro w hSw; (try dsimp only at hSw); (go_simp <;> with_reducible rfl))
      try go_simp
      refine wpAnyH_take (i := 12) (v := ?_) rfl (by kernel_rfl) (by kernel_rfl) (by kernel_rfl) (fun _ _ _ h => h) (Or.inl ⟨by rfl, ?_⟩) (by assumption) ?_
      rotate_left
      · (intro w hSw; (try dsimp only at hSw); (go_simp <;> with_reducible rfl))
      try go_simp
      refine wpAnyH_take (i := 14) (v := ?_) rfl (by kernel_rfl) (by kernel_rfl) (by kernel_rfl) (fun _ _ _ h => h) (Or.inl ⟨by rfl, ?_⟩) (by assumption) ?_
      rotate_left
      · (intro w hSw; (try dsimp only at hSw); (go_simp <;> with_reducible rfl))
      try go_simp
      refine wpAnyH_take (i := 17) (v := ?_) rfl (by kernel_rfl) (by kernel_rfl) (by kernel_rfl) (fun _ _ _ h => h) (Or.inl ⟨by rfl, ?_⟩) (by assumption) ?_
      rotate_left
      · (intro w hSw; (try dsimp only at hSw); (go_simp <;> with_reducible rfl))
      try go_simp
      refine wpAnyH_ready (rs := [5, 13]) (by kernel_rfl) (by simp) ?_
      refine AllReadyH.cons rfl (fun K hK => ?_) ?_
      · skip
        go_simp
        refine hK.out _ _ ?_ (fun hHeld => ?_)
        · (try dsimp only); first | go_keep | assumption | exact hal2 _
        clear hK K
        try go_simp
        refine wpAnyH_ready (rs := [13]) (by kernel_rfl) (by simp) ?_
        refine AllReadyH.cons rfl (fun K hK => ?_) AllReadyH.nil
        go_simp
        refine hK.out _ _ ?_ (fun hHeld => ?_)
        · (try dsimp only); first | go_keep | assumption | exact hal2 _
        clear hK K
        try go_simp
        refine wpAnyH_take (i := 15) (v := ?_) rfl (by kernel_rfl) (by kernel_rfl) (by kernel_rfl) (fun _ _ _ h => h) (Or.inl ⟨by rfl, ?_⟩) (by assumption) ?_
        rotate_left
        · (intro w hSw; (try dsimp only at hSw); (go_simp <;> with_reducible rfl))
        try go_simp
        refine wpAnyH_ready (rs := [16]) (by kernel_rfl) (by simp) ?_
        refine AllReadyH.cons rfl (fun K hK => ?_) AllReadyH.nil
        refine stepW (Wb := wr) (s := []) (v := .slice (some ⟨_, 0, none⟩) 0 0) (by repeat (first | exact HZ9.out | apply below_drew1 | refine below_alloc ?_ _)) rfl (.tmp 83) (.tmp 93) rfl (by first | (simp [Act.eval, Act.put]; done) | (simp [Act.eval, Act.put]; rfl)) (bytesEmpty (by repeat (first | with_reducible exact at_new _ (by simp) | with_reducible apply at_drew | with_reducible refine at_old _ ?_)) (by simp)) (u.take s) (Nat.le_trans (Nat.le_of_eq (Nat.zero_add _)) HTL.out.2) Ab s cb (by first | (simp [Act.eval, Act.put]; done) | (simp [Act.eval, Act.put]; rfl)) HTL.out.1 (readsTake (HRE.out _ (by repeat (first | exact HZ9.out | apply below_drew1 | refine below_alloc ?_ _))) s) ?_
        intro v1 w1 h1 g1
        have HB9 := Aside0.mk g1
        obtain ⟨-, -, s1, -, -⟩ := (HC9.out.step HB9.out).after (Below.refl _ _) (World.grownBy.refl w1 none) (by simp)
        obtain ⟨e1, e2, e3, e4⟩ := HCELL.out _ HB9.out
        have HE := Aside0.mk (HCT.out _ HB9.out _ _ h1 s)
        obtain ⟨A1, n1, c1, rfl⟩ := own_three h1
        clear h1 g1
        refine hK.out _ _ ?_ (fun hHeld => ?_)
        · (try dsimp only); first | go_keep | assumption | exact hal2 _
        clear hK K
        try go_simp
        refine wpAnyH_take (i := 18) (v := ?_) rfl (by kernel_rfl) (by kernel_rfl) (by kernel_rfl) (fun _ _ _ h => h) (Or.inl ⟨by rfl, ?_⟩) (by assumption) ?_
        rotate_left
        · (intro w hSw; (try dsimp only at hSw); (go_simp <;> with_reducible rfl))
        try go_simp
        refine wpAnyH_take (i := 19) (v := ?_) rfl (by kernel_rfl) (by kernel_rfl) (by kernel_rfl) (fun _ _ _ h => h) (Or.inl ⟨by rfl, ?_⟩) (by assumption) ?_
        rotate_left
        · (intro w hSw; (try dsimp only at hSw); (go_simp <;> with_reducible rfl))
        try go_simp
        refine wpAnyH_ready (rs := [20]) (by kernel_rfl) (by simp) ?_
        refine AllReadyH.cons rfl (fun K hK => ?_) AllReadyH.nil
        go_simp
        refine hK.out _ _ ?_ (fun hHeld => ?_)
        · (try dsimp only); first | go_keep | assumption | exact hal2 _
        clear hK K
        try go_simp
        refine wpAnyH_done (by kernel_rfl) ?_ _
        refine NoPanic.normal ?_
        have HGO := Aside0.mk HE.out
        obtain ⟨R10, k1, k2⟩ := HGO.out
        rw [List.nil_append, HST.out s HKK.out, HF9.out] at k1
        have HC10 := Aside0.mk k1
        have HT10 := Aside0.mk (HT9.out.trans k2)
        clear k1 k2 HGO HE
        go_wp2
        go_roundw
        case rel => exact ⟨i + 1, R10, _, (by have := HLT.out; omega), by go_num, ⟨by rw [List.length_set]; exact HF9.out⟩, HC10, HT10⟩
        case measure => (have := HLT.out; simp [intOf]; omega)
      refine AllReadyH.cons rfl (fun K hK => ?_) ?_
      · skip
        go_simp
        refine hK.out _ _ ?_ (fun hHeld => ?_)
        · (try dsimp only); first | go_keep | assumption | exact hal2 _
        clear hK K
        try go_simp
        refine wpAnyH_take (i := 15) (v := ?_) rfl (by kernel_rfl) (by kernel_rfl) (by kernel_rfl) (fun _ _ _ h => h) (Or.inl ⟨by rfl, ?_⟩) (by assumption) ?_
        rotate_left
        · (intro w hSw; (try dsimp only at hSw); (go_simp <;> with_reducible rfl))
        try go_simp
        refine wpAnyH_ready (rs := [5]) (by kernel_rfl) (by simp) ?_
        refine AllReadyH.cons rfl (fun K hK => ?_) AllReadyH.nil
        go_simp
        refine hK.out _ _ ?_ (fun hHeld => ?_)
        · (try dsimp only); first | go_keep | assumption | exact hal2 _
        clear hK K
        try go_simp
        refine wpAnyH_ready (rs := [16]) (by kernel_rfl) (by simp) ?_
        refine AllReadyH.cons rfl (fun K hK => ?_) AllReadyH.nil
        refine stepW (Wb := wr) (s := []) (v := .slice (some ⟨_, 0, none⟩) 0 0) (by repeat (first | exact HZ9.out | apply below_drew1 | refine below_alloc ?_ _)) rfl (.tmp 83) (.tmp 93) rfl (by first | (simp [Act.eval, Act.put]; done) | (simp [Act.eval, Act.put]; rfl)) (bytesEmpty (by repeat (first | with_reducible exact at_new _ (by simp) | with_reducible apply at_drew | with_reducible refine at_old _ ?_)) (by simp)) (u.take s) (Nat.le_trans (Nat.le_of_eq (Nat.zero_add _)) HTL.out.2) Ab s cb (by first | (simp [Act.eval, Act.put]; done) | (simp [Act.eval, Act.put]; rfl)) HTL.out.1 (readsTake (HRE.out _ (by repeat (first | exact HZ9.out | apply below_drew1 | refine below_alloc ?_ _))) s) ?_
        intro v1 w1 h1 g1
        have HB9 := Aside0.mk g1
        obtain ⟨-, -, s1, -, -⟩ := (HC9.out.step HB9.out).after (Below.refl _ _) (World.grownBy.refl w1 none) (by simp)
        obtain ⟨e1, e2, e3, e4⟩ := HCELL.out _ HB9.out
        have HE := Aside0.mk (HCT.out _ HB9.out _ _ h1 s)
        obtain ⟨A1, n1, c1, rfl⟩ := own_three h1
        clear h1 g1
        refine hK.out _ _ ?_ (fun hHeld => ?_)
        · (try dsimp only); first | go_keep | assumption | exact hal2 _
        clear hK K
        try go_simp
        refine wpAnyH_take (i := 18) (v := ?_) rfl (by kernel_rfl) (by kernel_rfl) (by kernel_rfl) (fun _ _ _ h => h) (Or.inl ⟨by rfl, ?_⟩) (by assumption) ?_
        rotate_left
        · (intro w hSw; (try dsimp only at hSw); (go_simp <;> with_reducible rfl))
        try go_simp
        refine wpAnyH_take (i := 19) (v := ?_) rfl (by kernel_rfl) (by kernel_rfl) (by kernel_rfl) (fun _ _ _ h => h) (Or.inl ⟨by rfl, ?_⟩) (by assumption) ?_
        rotate_left
        · (intro w hSw; (try dsimp only at hSw); (go_simp <;> with_reducible rfl))
        try go_simp
        refine wpAnyH_ready (rs := [20]) (by kernel_rfl) (by simp) ?_
        refine AllReadyH.cons rfl (fun K hK => ?_) AllReadyH.nil
        go_simp
        refine hK.out _ _ ?_ (fun hHeld => ?_)
        · (try dsimp only); first | go_keep | assumption | exact hal2 _
        clear hK K
        try go_simp
        refine wpAnyH_done (by kernel_rfl) ?_ _
        refine NoPanic.normal ?_
        have HGO := Aside0.mk HE.out
        obtain ⟨R10, k1, k2⟩ := HGO.out
        rw [List.nil_append, HST.out s HKK.out, HF9.out] at k1
        have HC10 := Aside0.mk k1
        have HT10 := Aside0.mk (HT9.out.trans k2)
        clear k1 k2 HGO HE
        go_wp2
        go_roundw
        case rel => exact ⟨i + 1, R10, _, (by have := HLT.out; omega), by go_num, ⟨by rw [List.length_set]; exact HF9.out⟩, HC10, HT10⟩
        case measure => (have := HLT.out; simp [intOf]; omega)
      exact AllReadyH.nil
      -- END
    · obtain ⟨-, -, -, -, p4, p5⟩ := HC9.out.cells
      have q4 := HC9.out.frozen 4
      have q5 := HC9.out.frozen 5
      have HEND := Aside0.mk (crashEndR HC9.out)
      have HIE := Aside0.mk (show i = d.files.length by rw [HFN.out]; omega)
      go_wp2
      go_end0
      have h9 := RTurn.trans HT9.out HEND.out
      rw [HIE.out] at h9
      exact ⟨rfl, h9⟩
end Go.Proofs.Ytibmgcihpbofdaa.Fs
namespace Go.Proofs.Ytibmgcihpbofdaa.Fs
open Go.RowKit Go.Proofs.Ytibmgcihpbofdaa Go.Proofs.Ytibmgcihpbofdaa.Plain Go.Proofs.YtibmgcihpbofdaaW.PrintWords Go.Maps
set_option linter.unusedVariables false
set_option linter.unusedSimpArgs false
set_option maxHeartbeats 4000000 in
set_option maxRecDepth 100000 in
theorem crashlo1 {w0 W : World} {r : Nat} {d : RDisk} {R : Nat → Prop} {N : Nat} (h : RAt w0 r d R W) (hok : ROk d N) (hN : N ≤ 900000) (nn : Int) (mn : Nat) (hmn : mn ≤ 9223372036854775807) (hn : nn < 0) (hL : 0 < d.loose.length) :
    Calls Try.prog 44 #[.pointer (some ⟨r, 0, none⟩), .int .i64 nn, .int .i64 (mn : Int)] W fun e W' => e = .returned (.tuple #[]) ∧ RTurn w0 r { mid d 0 (mn : Int) d.files.length with fuse := -1, off := false } R W W' := by
  obtain ⟨vs, vl, vf, fl, c0⟩ := h
  obtain ⟨⟨As, cs, rfl⟩, ⟨Al, cl, rfl⟩, ⟨Af, cf, rfl⟩⟩ := c0.slices
  have HOK := Aside0.mk hok
  have HN := Aside0.mk hN
  have HFL := Aside0.mk c0.len
  obtain ⟨Fn, hFn⟩ : ∃ Fn, fl.length = Fn := ⟨_, rfl⟩
  have HFN := Aside0.mk (show d.files.length = Fn by rw [← hFn]; exact c0.len)
  obtain ⟨p0, p1, p2, -, -, -⟩ := c0.cells
  have q1 := c0.frozen 1
  obtain ⟨ga, ca, ea, -⟩ := c0.chg 0 hL
  injection ea with ea _ e3
  subst ea
  subst e3
  have hcl := rowCap c0.loose
  have HEX := Aside0.mk (cutEnd c0 0 (by omega))
  obtain ⟨L, hL'⟩ : ∃ L, d.loose.length = L := ⟨_, rfl⟩
  have HLL := Aside0.mk hL'
  rw [hL'] at p1 hcl hL
  have hL2 : (0 : Int) < (L : Int) := by omega
  have hk1 : (0 : Int) ≤ (cl : Int) := by omega
  have hk2 : (0 : Int) ≤ (0 : Int) := by omega
  clear hL hL' hcl
  obtain ⟨R1, k1, k2⟩ := HEX.out
  have HC1 := Aside0.mk k1
  have HT1 := Aside0.mk k2
  clear k1 k2 HEX
  rw [hFn] at p2 HC1
  clear hFn
  have hfb : Fn ≤ 900000 := by rw [← HFN.out]; have := hok.many.2; omega
  clear c0 hok hN
  have hm0 : ¬ (mn : Int) < 0 := by omega
  go_enter Try.func44, Try.ntmps44
  go_wp2_with (go_at_call 46; refine (dirIs ⟨_, _, _, _, HC1.out⟩ (HOK.out.cut _) (by have := HN.out; omega)).mono ?_; rintro e W8 ⟨v8, rfl, hD⟩; obtain ⟨R8, k1, k2⟩ := firmEnd HC1.out hD (p' := mid d (0) (mn : Int) 0) (mid_zero _ _ _); have HC8 := Aside0.mk k1; have HT8 := Aside0.mk (HT1.out.trans k2); have hc8 := HC1.out.step hD.below; obtain ⟨A8, n8, c8, rfl⟩ := own_three hD.row; clear p0 p1 p2 q1; obtain ⟨p0, p1, -, -, -, -⟩ := hc8.cells; have q0 := hc8.frozen 0; have q1 := hc8.frozen 1; clear hc8 hD k1 k2)
  obtain ⟨w8, hw8⟩ : ∃ w8, (W8.setCell ⟨r, 0, none⟩ (.slice A8 n8 c8)).setCell ⟨r, 1, none⟩ (.slice none 0 0) = w8 := ⟨_, rfl⟩
  rw [hw8] at HC8 HT8 ⊢
  clear hw8 p0 p1 q0 q1 HC1 HT1
  go_loopw [6, 7] (fun v6 v7 wr => ∃ (i : Nat) (R9 : Nat → Prop) (fl9 : List RFile), i ≤ Fn ∧ v6 = .int .i64 i ∧ Aside0 (fl9.length = Fn) ∧ Aside0 (RCore w0 wr r (mid d (0) (mn : Int) i) R9 (.slice A8 n8 c8) (.slice none 0 0) (.slice Af Fn cf) fl9) ∧ Aside0 (Turn R W R9 wr)) (fun v6 _ _ => Fn - (intOf v6).toNat)
  case atStart => exact ⟨0, R8, fl, by omega, rfl, ⟨HFL.out.symm.trans HFN.out⟩, HC8, HT8⟩
  case round =>
    obtain ⟨i, R9, fl9, hi, rfl, HF9, HC9, HT9⟩ := hrel
    obtain ⟨-, -, p2, -, -, -⟩ := HC9.out.cells
    by_cases hlt : i < Fn
    · have hif : i < fl9.length := by rw [HF9.out]; exact hlt
      obtain ⟨g, cf', efl, -, -, f0, f1, fr0, fr1⟩ := HC9.out.file i hif
      injection efl with efl e2 e3
      clear e2
      subst efl
      subst e3
      have hgr : g ≠ r := (HC9.out.ne.2.2.1 g rfl).1
      have HLT := Aside0.mk hlt
      have hid : i < d.files.length := by rw [HFN.out]; exact hlt
      have hqd : fl9[i].2 = d.files[i] := by
        have h1 := mid_at (d := d) (k := (0)) (M := (mn : Int)) hid
        rw [HC9.out.eq, List.getElem?_map, List.getElem?_eq_getElem hif] at h1
        exact Option.some.inj h1
      have hfm := HOK.out.firm _ (List.getElem_mem hid)
      have HEB := Aside0.mk (HC9.out.each _ (List.getElem_mem hif))
      have HCT := Aside0.mk (fun (X : World) (hX : Below wr.heap.size wr X) (v : Value) (b : List UInt8) (hv : BytesIs X wr.heap.size v b) (m : Nat) => fileCut (show RCore w0 wr r (mid d (0) (mn : Int) i) R9 (.slice A8 n8 c8) (.slice none 0 0) (.slice (some ⟨g, 0, none⟩) fl9.length cf) fl9 by rw [HF9.out]; exact HC9.out) i hif hX hv m)
      have HCELL := Aside0.mk (fun (X : World) (hX : Below wr.heap.size wr X) => fileCells (show RCore w0 wr r (mid d (0) (mn : Int) i) R9 (.slice A8 n8 c8) (.slice none 0 0) (.slice (some ⟨g, 0, none⟩) fl9.length cf) fl9 by rw [HF9.out]; exact HC9.out) hif hX)
      obtain ⟨q, hq⟩ : ∃ q, fl9[i] = q := ⟨_, rfl⟩
      rw [hq] at f0 f1 hqd HEB HCELL
      obtain ⟨bv, u, s⟩ := q
      have HQD := Aside0.mk (show d.files[i] = (u, s) from hqd.symm)
      have HST := Aside0.mk (fun (m : Nat) (hm : m = s + min (max (mn : Int) 0).toNat (u.length - s)) => mid_step (k := (0)) (M := (mn : Int)) hid hqd.symm hm)
      rw [← hqd] at hfm
      have hs1 : s ≤ u.length := hfm.1
      have hs2 : u.length ≤ N := hfm.2
      have hbb : ∃ A c, bv = .slice A (B u).length c := own_slice HEB.out
      obtain ⟨Ab, cb, rfl⟩ := hbb
      have hcap : (B u).length ≤ cb := rowCap HEB.out
      have HRE := Aside0.mk (fun X (hX : Below wr.heap.size wr X) => bytesReads (BytesIs.below HEB.out hX))
      obtain ⟨m0, hm0'⟩ : ∃ m0, (B u).length = m0 := ⟨_, rfl⟩
      have hmu : m0 = u.length := by rw [← hm0', B_length]
      simp only [hm0'] at f0 HCELL hcap
      have HMU := Aside0.mk hmu
      have hsl : s ≤ m0 := by omega
      have hml : m0 ≤ 900000 := by have := HN.out; omega
      have HSL := Aside0.mk hsl
      have hw1 : IntKind.i64.wrap ((m0 : Int) - (s : Int)) = (m0 : Int) - (s : Int) := IntWalk.i64_in _ (by omega)
      have HZ9 := Aside0.mk (Below.refl wr.heap.size wr)
      have hal2 : ∀ o : Obj, (wr.alloc o).cell? ⟨r, 2, none⟩ = some (.slice (some ⟨g, 0, none⟩) Fn cf) := fun o => (HC9.out.step (below_alloc (Below.refl _ _) o)).cells.2.2.1
      have hal3 : ∀ o : Obj, (wr.alloc o).cell? ⟨g, i * 2, none⟩ = some (.slice Ab m0 cb) := fun o => (HCELL.out _ (below_alloc (Below.refl _ _) o)).1
      clear hq hqd hfm hs1 hs2 hm0' hmu
      by_cases hM : (mn : Int) > (m0 : Int) - (s : Int)
      · have hb1 : (m0 : Int) ≤ (cb : Int) := by omega
        have HKK := Aside0.mk (show m0 = s + min (max (mn : Int) 0).toNat (u.length - s) by have := HMU.out; omega)
        have HTL := Aside0.mk (show m0 = (u.take m0).length ∧ (u.take m0).length ≤ 2000000 by rw [List.length_take]; have := HMU.out; omega)
        go_wp2
        refine wp_region_noPanic ?_
        refine wp_region_held_drew (S := (fun X => X.cell? ⟨r, 2, none⟩ = some (.slice (some ⟨g, 0, none⟩) Fn cf))) (by kernel_rfl) ?_ (fun hHeld => ?_)
        · (try dsimp only); first | go_keep | assumption | exact hal2 _
        refine wpAnyH_take (i := 0) (v := ?_) rfl (by kernel_rfl) (by kernel_rfl) (by kernel_rfl) (fun _ _ _ h => h) (Or.inl ⟨by rfl, ?_⟩) (by assumption) ?_
        rotate_left
        · (intro w hSw; (try dsimp only at hSw); (go_simp <;> with_reducible rfl))
        try go_simp
        refine wpAnyH_take (i := 1) (v := ?_) rfl (by kernel_rfl) (by kernel_rfl) (by kernel_rfl) (fun _ _ _ h => h) (Or.inl ⟨by rfl, ?_⟩) (by assumption) ?_
        rotate_left
        · (intro w hSw; (try dsimp only at hSw); (go_simp <;> with_reducible rfl))
        try go_simp
        refine wpAnyH_take (i := 2) (v := ?_) rfl (by kernel_rfl) (by kernel_rfl) (by kernel_rfl) (fun _ _ _ h => h) (Or.inl ⟨by rfl, ?_⟩) (by assumption) ?_
        rotate_left
        · (intro w hSw; (try dsimp only at hSw); (go_simp <;> with_reducible rfl))
        try go_simp
        refine wpAnyH_take (i := 3) (v := ?_) rfl (by kernel_rfl) (by kernel_rfl) (by kernel_rfl) (fun _ _ _ h => h) (Or.inl ⟨by rfl, ?_⟩) (by assumption) ?_
        rotate_left
        · (intro w hSw; (try dsimp only at hSw); (go_simp <;> with_reducible rfl))
        try go_simp
        refine wpAnyH_take (i := 4) (v := ?_) rfl (by kernel_rfl) (by kernel_rfl) (by kernel_rfl) (fun _ _ _ h => h) (Or.inl ⟨by rfl, ?_⟩) (by assumption) ?_
        rotate_left
        · (intro w hSw; (try dsimp only at hSw); (go_simp <;> with_reducible rfl))
        try go_simp
        refine wpAnyH_take (i := 6) (v := ?_) rfl (by kernel_rfl) (by kernel_rfl) (by kernel_rfl) (fun _ _ _ h => h) (Or.inl ⟨by rfl, ?_⟩) (by assumption) ?_
        rotate_left
        · (intro w hSw; (try dsimp only at hSw); (go_simp <;> with_reducible rfl))
        try go_simp
        refine wpAnyH_take (i := 7) (v := ?_) rfl (by kernel_rfl) (by kernel_rfl) (by kernel_rfl) (fun _ _ _ h => h) (Or.inl ⟨by rfl, ?_⟩) (by assumption) ?_
        rotate_left
        · (intro w hSw; (try dsimp only at hSw); (go_simp <;> with_reducible rfl))
        try go_simp
        refine wpAnyH_take (i := 8) (v := ?_) rfl (by kernel_rfl) (by kernel_rfl) (by kernel_rfl) (fun _ _ _ h => h) (Or.inl ⟨by rfl, ?_⟩) (by assumption) ?_
        rotate_left
        · (intro w hSw; (try dsimp only at hSw); (go_simp <;> with_reducible rfl))
        try go_simp
        refine wpAnyH_take (i := 9) (v := ?_) rfl (by kernel_rfl) (by kernel_rfl) (by kernel_rfl) (fun _ _ _ h => h) (Or.inl ⟨by rfl, ?_⟩) (by assumption) ?_
        rotate_left
        · (intro w hSw; (try dsimp only at hSw); (go_simp <;> with_reducible rfl))
        try go_simp
        refine wpAnyH_take (i := 10) (v := ?_) rfl (by kernel_rfl) (by kernel_rfl) (by kernel_rfl) (fun _ _ _ h => h) (Or.inl ⟨by rfl, ?_⟩) (by assumption) ?_
        rotate_left
        · (intro w hSw; (try dsimp only at hSw); (go_simp <;> with_reducible rfl))
        try go_simp
        refine wpAnyH_take (i := 11) (v := ?_) rfl (by kernel_rfl) (by kernel_rfl) (by kernel_rfl) (fun _ _ _ h => h) (Or.inl ⟨by rfl, ?_⟩) (by assumption) ?_
        rotate_left
        · (intro w hSw; (try dsimp only at hSw); (go_simp <;> with_reducible rfl))
        try go_simp
        refine wpAnyH_take (i := 12) (v := ?_) rfl (by kernel_rfl) (by kernel_rfl) (by kernel_rfl) (fun _ _ _ h => h) (Or.inl ⟨by rfl, ?_⟩) (by assumption) ?_
        rotate_left
        · (intro w hSw; (try dsimp only at hSw); (go_simp <;> with_reducible rfl))
        try go_simp
        refine wpAnyH_take (i := 14) (v := ?_) rfl (by kernel_rfl) (by kernel_rfl) (by kernel_rfl) (fun _ _ _ h => h) (Or.inl ⟨by rfl, ?_⟩) (by assumption) ?_
        rotate_left
        · (intro w hSw; (try dsimp only at hSw); (go_simp <;> with_reducible rfl))
        try go_simp
        refine wpAnyH_take (i := 17) (v := ?_) rfl (by kernel_rfl) (by kernel_rfl) (by kernel_rfl) (fun _ _ _ h => h) (Or.inl ⟨by rfl, ?_⟩) (by assumption) ?_
        rotate_left
        · (intro w hSw; (try dsimp only at hSw); (go_simp <;> with_reducible rfl))
        try go_simp
        refine wpAnyH_ready (rs := [5, 13]) (by kernel_rfl) (by simp) ?_
        refine AllReadyH.cons rfl (fun K hK => ?_) ?_
        · skip
          go_simp
          refine hK.out _ _ ?_ (fun hHeld => ?_)
          · (try dsimp only); first | go_keep | assumption | exact hal2 _
          clear hK K
          try go_simp
          refine wpAnyH_ready (rs := [13]) (by kernel_rfl) (by simp) ?_
          refine AllReadyH.cons rfl (fun K hK => ?_) AllReadyH.nil
          go_simp
          refine hK.out _ _ ?_ (fun hHeld => ?_)
          · (try dsimp only); first | go_keep | assumption | exact hal2 _
          clear hK K
          try go_simp
          refine wpAnyH_take (i := 15) (v := ?_) rfl (by kernel_rfl) (by kernel_rfl) (by kernel_rfl) (fun _ _ _ h => h) (Or.inl ⟨by rfl, ?_⟩) (by assumption) ?_
          rotate_left
          · (intro w hSw; (try dsimp only at hSw); (go_simp <;> with_reducible rfl))
          try go_simp
          refine wpAnyH_ready (rs := [16]) (by kernel_rfl) (by simp) ?_
          refine AllReadyH.cons rfl (fun K hK => ?_) AllReadyH.nil
          refine stepW (Wb := wr) (s := []) (v := .slice (some ⟨_, 0, none⟩) 0 0) (by repeat (first | exact HZ9.out | apply below_drew1 | refine below_alloc ?_ _)) rfl (.tmp 83) (.tmp 93) rfl (by first | (simp [Act.eval, Act.put]; done) | (simp [Act.eval, Act.put]; rfl)) (bytesEmpty (by repeat (first | with_reducible exact at_new _ (by simp) | with_reducible apply at_drew | with_reducible refine at_old _ ?_)) (by simp)) (u.take m0) (Nat.le_trans (Nat.le_of_eq (Nat.zero_add _)) HTL.out.2) Ab m0 cb (by first | (simp [Act.eval, Act.put]; done) | (simp [Act.eval, Act.put]; rfl)) HTL.out.1 (readsTake (HRE.out _ (by repeat (first | exact HZ9.out | apply below_drew1 | refine below_alloc ?_ _))) m0) ?_
          intro v1 w1 h1 g1
          have HB9 := Aside0.mk g1
          obtain ⟨-, -, s1, -, -⟩ := (HC9.out.step HB9.out).after (Below.refl _ _) (World.grownBy.refl w1 none) (by simp)
          obtain ⟨e1, e2, e3, e4⟩ := HCELL.out _ HB9.out
          have HE := Aside0.mk (HCT.out _ HB9.out _ _ h1 m0)
          obtain ⟨A1, n1, c1, rfl⟩ := own_three h1
          clear h1 g1
          refine hK.out _ _ ?_ (fun hHeld => ?_)
          · (try dsimp only); first | go_keep | assumption | exact hal2 _
          clear hK K
          try go_simp
          refine wpAnyH_take (i := 18) (v := ?_) rfl (by kernel_rfl) (by kernel_rfl) (by kernel_rfl) (fun _ _ _ h => h) (Or.inl ⟨by rfl, ?_⟩) (by assumption) ?_
          rotate_left
          · (intro w hSw; (try dsimp only at hSw); (go_simp <;> with_reducible rfl))
          try go_simp
          refine wpAnyH_take (i := 19) (v := ?_) rfl (by kernel_rfl) (by kernel_rfl) (by kernel_rfl) (fun _ _ _ h => h) (Or.inl ⟨by rfl, ?_⟩) (by assumption) ?_
          rotate_left
          · (intro w hSw; (try dsimp only at hSw); (go_simp <;> with_reducible rfl))
          try go_simp
          refine wpAnyH_ready (rs := [20]) (by kernel_rfl) (by simp) ?_
          refine AllReadyH.cons rfl (fun K hK => ?_) AllReadyH.nil
          go_simp
          refine hK.out _ _ ?_ (fun hHeld => ?_)
          · (try dsimp only); first | go_keep | assumption | exact hal2 _
          clear hK K
          try go_simp
          refine wpAnyH_done (by kernel_rfl) ?_ _
          refine NoPanic.normal ?_
          have HGO := Aside0.mk HE.out
          obtain ⟨R10, k1, k2⟩ := HGO.out
          rw [List.nil_append, HST.out m0 HKK.out, HF9.out] at k1
          have HC10 := Aside0.mk k1
          have HT10 := Aside0.mk (HT9.out.trans k2)
          clear k1 k2 HGO HE
          go_wp2
          go_roundw
          case rel => exact ⟨i + 1, R10, _, (by have := HLT.out; omega), by go_num, ⟨by rw [List.length_set]; exact HF9.out⟩, HC10, HT10⟩
          case measure => (have := HLT.out; simp [intOf]; omega)
        refine AllReadyH.cons rfl (fun K hK => ?_) ?_
        · skip
          go_simp
          refine hK.out _ _ ?_ (fun hHeld => ?_)
          · (try dsimp only); first | go_keep | assumption | exact hal2 _
          clear hK K
          try go_simp
          refine wpAnyH_take (i := 15) (v := ?_) rfl (by kernel_rfl) (by kernel_rfl) (by kernel_rfl) (fun _ _ _ h => h) (Or.inl ⟨by rfl, ?_⟩) (by assumption) ?_
          rotate_left
          · (intro w hSw; (try dsimp only at hSw); (go_simp <;> with_reducible rfl))
          try go_simp
          refine wpAnyH_ready (rs := [5]) (by kernel_rfl) (by simp) ?_
          refine AllReadyH.cons rfl (fun K hK => ?_) AllReadyH.nil
          go_simp
          refine hK.out _ _ ?_ (fun hHeld => ?_)
          · (try dsimp only); first | go_keep | assumption | exact hal2 _
          clear hK K
          try go_simp
          refine wpAnyH_ready (rs := [16]) (by kernel_rfl) (by simp) ?_
          refine AllReadyH.cons rfl (fun K hK => ?_) AllReadyH.nil
          refine stepW (Wb := wr) (s := []) (v := .slice (some ⟨_, 0, none⟩) 0 0) (by repeat (first | exact HZ9.out | apply below_drew1 | refine below_alloc ?_ _)) rfl (.tmp 83) (.tmp 93) rfl (by first | (simp [Act.eval, Act.put]; done) | (simp [Act.eval, Act.put]; rfl)) (bytesEmpty (by repeat (first | with_reducible exact at_new _ (by simp) | with_reducible apply at_drew | with_reducible refine at_old _ ?_)) (by simp)) (u.take m0) (Nat.le_trans (Nat.le_of_eq (Nat.zero_add _)) HTL.out.2) Ab m0 cb (by first | (simp [Act.eval, Act.put]; done) | (simp [Act.eval, Act.put]; rfl)) HTL.out.1 (readsTake (HRE.out _ (by repeat (first | exact HZ9.out | apply below_drew1 | refine below_alloc ?_ _))) m0) ?_
          intro v1 w1 h1 g1
          have HB9 := Aside0.mk g1
          obtain ⟨-, -, s1, -, -⟩ := (HC9.out.step HB9.out).after (Below.refl _ _) (World.grownBy.refl w1 none) (by simp)
          obtain ⟨e1, e2, e3, e4⟩ := HCELL.out _ HB9.out
          have HE := Aside0.mk (HCT.out _ HB9.out _ _ h1 m0)
          obtain ⟨A1, n1, c1, rfl⟩ := own_three h1
          clear h1 g1
          refine hK.out _ _ ?_ (fun hHeld => ?_)
          · (try dsimp only); first | go_keep | assumption | exact hal2 _
          clear hK K
          try go_simp
          refine wpAnyH_take (i := 18) (v := ?_) rfl (by kernel_rfl) (by kernel_rfl) (by kernel_rfl) (fun _ _ _ h => h) (Or.inl ⟨by rfl, ?_⟩) (by assumption) ?_
          rotate_left
          · (intro w hSw; (try dsimp only at hSw); (go_simp <;> with_reducible rfl))
          try go_simp
          refine wpAnyH_take (i := 19) (v := ?_) rfl (by kernel_rfl) (by kernel_rfl) (by kernel_rfl) (fun _ _ _ h => h) (Or.inl ⟨by rfl, ?_⟩) (by assumption) ?_
          rotate_left
          · (intro w hSw; (try dsimp only at hSw); (go_simp <;> with_reducible rfl))
          try go_simp
          refine wpAnyH_ready (rs := [20]) (by kernel_rfl) (by simp) ?_
          refine AllReadyH.cons rfl (fun K hK => ?_) AllReadyH.nil
          go_simp
          refine hK.out _ _ ?_ (fun hHeld => ?_)
          · (try dsimp only); first | go_keep | assumption | exact hal2 _
          clear hK K
          try go_simp
          refine wpAnyH_done (by kernel_rfl) ?_ _
          refine NoPanic.normal ?_
          have HGO := Aside0.mk HE.out
          obtain ⟨R10, k1, k2⟩ := HGO.out
          rw [List.nil_append, HST.out m0 HKK.out, HF9.out] at k1
          have HC10 := Aside0.mk k1
          have HT10 := Aside0.mk (HT9.out.trans k2)
          clear k1 k2 HGO HE
          go_wp2
          go_roundw
          case rel => exact ⟨i + 1, R10, _, (by have := HLT.out; omega), by go_num, ⟨by rw [List.length_set]; exact HF9.out⟩, HC10, HT10⟩
          case measure => (have := HLT.out; simp [intOf]; omega)
        exact AllReadyH.nil
        -- END
      · obtain ⟨kk, hkk⟩ : ∃ kk, s + mn = kk := ⟨_, rfl⟩
        have hadd : IntKind.i64.wrap ((s : Int) + (mn : Int)) = (kk : Int) := by rw [IntWalk.i64_in _ (by omega)]; omega
        have hb1 : (kk : Int) ≤ (cb : Int) := by omega
        have hb2 : (0 : Int) ≤ (kk : Int) := by omega
        have HKK := Aside0.mk (show kk = s + min (max (mn : Int) 0).toNat (u.length - s) by have := HMU.out; omega)
        have HTL := Aside0.mk (show kk = (u.take kk).length ∧ (u.take kk).length ≤ 2000000 by rw [List.length_take]; have := HMU.out; omega)
        clear hkk
        go_wp2
        refine wp_region_noPanic ?_
        refine wp_region_held_drew (S := (fun X => X.cell? ⟨r, 2, none⟩ = some (.slice (some ⟨g, 0, none⟩) Fn cf))) (by kernel_rfl) ?_ (fun hHeld => ?_)
        · (try dsimp only); first | go_keep | assumption | exact hal2 _
        refine wpAnyH_take (i := 0) (v := ?_) rfl (by kernel_rfl) (by kernel_rfl) (by kernel_rfl) (fun _ _ _ h => h) (Or.inl ⟨by rfl, ?_⟩) (by assumption) ?_
        rotate_left
        · (intro w hSw; (try dsimp only at hSw); (go_simp <;> with_reducible rfl))
        try go_simp
        refine wpAnyH_take (i := 1) (v := ?_) rfl (by kernel_rfl) (by kernel_rfl) (by kernel_rfl) (fun _ _ _ h => h) (Or.inl ⟨by rfl, ?_⟩) (by assumption) ?_
        rotate_left
        · (intro w hSw; (try dsimp only at hSw); (go_simp <;> with_reducible rfl))
        try go_simp
        refine wpAnyH_take (i := 2) (v := ?_) rfl (by kernel_rfl) (by kernel_rfl) (by kernel_rfl) (fun _ _ _ h => h) (Or.inl ⟨by rfl, ?_⟩) (by assumption) ?_
        rotate_left
        · (intro w hSw; (try dsimp only at hSw); (go_simp <;> with_reducible rfl))
        try go_simp
        refine wpAnyH_take (i := 3) (v := ?_) rfl (by kernel_rfl) (by kernel_rfl) (by kernel_rfl) (fun _ _ _ h => h) (Or.inl ⟨by rfl, ?_⟩) (by assumption) ?_
        rotate_left
        · (intro w hSw; (try dsimp only at hSw); (go_simp <;> with_reducible rfl))
        try go_simp
        refine wpAnyH_take (i := 4) (v := ?_) rfl (by kernel_rfl) (by kernel_rfl) (by kernel_rfl) (fun _ _ _ h => h) (Or.inl ⟨by rfl, ?_⟩) (by assumption) ?_
        rotate_left
        · (intro w hSw; (try dsimp only at hSw); (go_simp <;> with_reducible rfl))
        try go_simp
        refine wpAnyH_take (i := 6) (v := ?_) rfl (by kernel_rfl) (by kernel_rfl) (by kernel_rfl) (fun _ _ _ h => h) (Or.inl ⟨by rfl, ?_⟩) (by assumption) ?_
        rotate_left
        · (intro w hSw; (try dsimp only at hSw); (go_simp <;> with_reducible rfl))
        try go_simp
        refine wpAnyH_take (i := 7) (v := ?_) rfl (by kernel_rfl) (by kernel_rfl) (by kernel_rfl) (fun _ _ _ h => h) (Or.inl ⟨by rfl, ?_⟩) (by assumption) ?_
        rotate_left
        · (intro w hSw; (try dsimp only at hSw); (go_simp <;> with_reducible rfl))
        try go_simp
        refine wpAnyH_take (i := 8) (v := ?_) rfl (by kernel_rfl) (by kernel_rfl) (by kernel_rfl) (fun _ _ _ h => h) (Or.inl ⟨by rfl, ?_⟩) (by assumption) ?_
        rotate_left
        · (intro w hSw; (try dsimp only at hSw); (go_simp <;> with_reducible rfl))
        try go_simp
        refine wpAnyH_take (i := 9) (v := ?_) rfl (by kernel_rfl) (by kernel_rfl) (by kernel_rfl) (fun _ _ _ h => h) (Or.inl ⟨by rfl, ?_⟩) (by assumption) ?_
        rotate_left
        · (intro w hSw; (try dsimp only at hSw); (go_simp <;> with_reducible rfl))
        try go_simp
        refine wpAnyH_take (i := 10) (v := ?_) rfl (by kernel_rfl) (by kernel_rfl) (by kernel_rfl) (fun _ _ _ h => h) (Or.inl ⟨by rfl, ?_⟩) (by assumption) ?_
        rotate_left
        · (intro w hSw; (try dsimp only at hSw); (go_simp <;> with_reducible rfl))
        try go_simp
        refine wpAnyH_take (i := 11) (v := ?_) rfl (by kernel_rfl) (by kernel_rfl) (by kernel_rfl) (fun _ _ _ h => h) (Or.inl ⟨by rfl, ?_⟩) (by assumption) ?_
        rotate_left
        · (intro w hSw; (try dsimp only at hSw); (go_simp <;> with_reducible rfl))
        try go_simp
        refine wpAnyH_take (i := 12) (v := ?_) rfl (by kernel_rfl) (by kernel_rfl) (by kernel_rfl) (fun _ _ _ h => h) (Or.inl ⟨by rfl, ?_⟩) (by assumption) ?_
        rotate_left
        · (intro w hSw; (try dsimp only at hSw); (go_simp <;> with_reducible rfl))
        try go_simp
        refine wpAnyH_take (i := 14) (v := ?_) rfl (by kernel_rfl) (by kernel_rfl) (by kernel_rfl) (fun _ _ _ h => h) (Or.inl ⟨by rfl, ?_⟩) (by assumption) ?_
        rotate_left
        · (intro w hSw; (try dsimp only at hSw); (go_simp <;> with_reducible rfl))
        try go_simp
        refine wpAnyH_take (i := 17) (v := ?_) rfl (by kernel_rfl) (by kernel_rfl) (by kernel_rfl) (fun _ _ _ h => h) (Or.inl ⟨by rfl, ?_⟩) (by assumption) ?_
        rotate_left
        · (intro w hSw; (try dsimp only at hSw); (go_simp <;> with_reducible rfl))
        try go_simp
        refine wpAnyH_ready (rs := [5, 13]) (by kernel_rfl) (by simp) ?_
        refine AllReadyH.cons rfl (fun K hK => ?_) ?_
        · skip
          go_simp
          refine hK.out _ _ ?_ (fun hHeld => ?_)
          · (try dsimp only); first | go_keep | assumption | exact hal2 _
          clear hK K
          try go_simp
          refine wpAnyH_ready (rs := [13]) (by kernel_rfl) (by simp) ?_
          refine AllReadyH.cons rfl (fun K hK => ?_) AllReadyH.nil
          go_simp
          refine hK.out _ _ ?_ (fun hHeld => ?_)
          · (try dsimp only); first | go_keep | assumption | exact hal2 _
          clear hK K
          try go_simp
          refine wpAnyH_take (i := 15) (v := ?_) rfl (by kernel_rfl) (by kernel_rfl) (by kernel_rfl) (fun _ _ _ h => h) (Or.inl ⟨by rfl, ?_⟩) (by assumption) ?_
          rotate_left
          · (intro w hSw; (try dsimp only at hSw); (go_simp <;> with_reducible rfl))
          try go_simp
          refine wpAnyH_ready (rs := [16]) (by kernel_rfl) (by simp) ?_
          refine AllReadyH.cons rfl (fun K hK => ?_) AllReadyH.nil
          refine stepW (Wb := wr) (s := []) (v := .slice (some ⟨_, 0, none⟩) 0 0) (by repeat (first | exact HZ9.out | apply below_drew1 | refine below_alloc ?_ _)) rfl (.tmp 83) (.tmp 93) rfl (by first | (simp [Act.eval, Act.put]; done) | (simp [Act.eval, Act.put]; rfl)) (bytesEmpty (by repeat (first | with_reducible exact at_new _ (by simp) | with_reducible apply at_drew | with_reducible refine at_old _ ?_)) (by simp)) (u.take kk) (Nat.le_trans (Nat.le_of_eq (Nat.zero_add _)) HTL.out.2) Ab kk cb (by first | (simp [Act.eval, Act.put]; done) | (simp [Act.eval, Act.put]; rfl)) HTL.out.1 (readsTake (HRE.out _ (by repeat (first | exact HZ9.out | apply below_drew1 | refine below_alloc ?_ _))) kk) ?_
          intro v1 w1 h1 g1
          have HB9 := Aside0.mk g1
          obtain ⟨-, -, s1, -, -⟩ := (HC9.out.step HB9.out).after (Below.refl _ _) (World.grownBy.refl w1 none) (by simp)
          obtain ⟨e1, e2, e3, e4⟩ := HCELL.out _ HB9.out
          have HE := Aside0.mk (HCT.out _ HB9.out _ _ h1 kk)
          obtain ⟨A1, n1, c1, rfl⟩ := own_three h1
          clear h1 g1
          refine hK.out _ _ ?_ (fun hHeld => ?_)
          · (try dsimp only); first | go_keep | assumption | exact hal2 _
          clear hK K
          try go_simp
          refine wpAnyH_take (i := 18) (v := ?_) rfl (by kernel_rfl) (by kernel_rfl) (by kernel_rfl) (fun _ _ _ h => h) (Or.inl ⟨by rfl, ?_⟩) (by assumption) ?_
          rotate_left
          · (intro w hSw; (try dsimp only at hSw); (go_simp <;> with_reducible rfl))
          try go_simp
          refine wpAnyH_take (i := 19) (v := ?_) rfl (by kernel_rfl) (by kernel_rfl) (by kernel_rfl) (fun _ _ _ h => h) (Or.inl ⟨by rfl, ?_⟩) (by assumption) ?_
          rotate_left
          · (intro w hSw; (try dsimp only at hSw); (go_simp <;> with_reducible rfl))
          try go_simp
          refine wpAnyH_ready (rs := [20]) (by kernel_rfl) (by simp) ?_
          refine AllReadyH.cons rfl (fun K hK => ?_) AllReadyH.nil
          go_simp
          refine hK.out _ _ ?_ (fun hHeld => ?_)
          · (try dsimp only); first | go_keep | assumption | exact hal2 _
          clear hK K
          try go_simp
          refine wpAnyH_done (by kernel_rfl) ?_ _
          refine NoPanic.normal ?_
          have HGO := Aside0.mk HE.out
          obtain ⟨R10, k1, k2⟩ := HGO.out
          rw [List.nil_append, HST.out kk HKK.out, HF9.out] at k1
          have HC10 := Aside0.mk k1
          have HT10 := Aside0.mk (HT9.out.trans k2)
          clear k1 k2 HGO HE
          go_wp2
          go_roundw
          case rel => exact ⟨i + 1, R10, _, (by have := HLT.out; omega), by go_num, ⟨by rw [List.length_set]; exact HF9.out⟩, HC10, HT10⟩
          case measure => (have := HLT.out; simp [intOf]; omega)
        refine AllReadyH.cons rfl (fun K hK => ?_) ?_
        · skip
          go_simp
          refine hK.out _ _ ?_ (fun hHeld => ?_)
          · (try dsimp only); first | go_keep | assumption | exact hal2 _
          clear hK K
          try go_simp
          refine wpAnyH_take (i := 15) (v := ?_) rfl (by kernel_rfl) (by kernel_rfl) (by kernel_rfl) (fun _ _ _ h => h) (Or.inl ⟨by rfl, ?_⟩) (by assumption) ?_
          rotate_left
          · (intro w hSw; (try dsimp only at hSw); (go_simp <;> with_reducible rfl))
          try go_simp
          refine wpAnyH_ready (rs := [5]) (by kernel_rfl) (by simp) ?_
          refine AllReadyH.cons rfl (fun K hK => ?_) AllReadyH.nil
          go_simp
          refine hK.out _ _ ?_ (fun hHeld => ?_)
          · (try dsimp only); first | go_keep | assumption | exact hal2 _
          clear hK K
          try go_simp
          refine wpAnyH_ready (rs := [16]) (by kernel_rfl) (by simp) ?_
          refine AllReadyH.cons rfl (fun K hK => ?_) AllReadyH.nil
          refine stepW (Wb := wr) (s := []) (v := .slice (some ⟨_, 0, none⟩) 0 0) (by repeat (first | exact HZ9.out | apply below_drew1 | refine below_alloc ?_ _)) rfl (.tmp 83) (.tmp 93) rfl (by first | (simp [Act.eval, Act.put]; done) | (simp [Act.eval, Act.put]; rfl)) (bytesEmpty (by repeat (first | with_reducible exact at_new _ (by simp) | with_reducible apply at_drew | with_reducible refine at_old _ ?_)) (by simp)) (u.take kk) (Nat.le_trans (Nat.le_of_eq (Nat.zero_add _)) HTL.out.2) Ab kk cb (by first | (simp [Act.eval, Act.put]; done) | (simp [Act.eval, Act.put]; rfl)) HTL.out.1 (readsTake (HRE.out _ (by repeat (first | exact HZ9.out | apply below_drew1 | refine below_alloc ?_ _))) kk) ?_
          intro v1 w1 h1 g1
          have HB9 := Aside0.mk g1
          obtain ⟨-, -, s1, -, -⟩ := (HC9.out.step HB9.out).after (Below.refl _ _) (World.grownBy.refl w1 none) (by simp)
          obtain ⟨e1, e2, e3, e4⟩ := HCELL.out _ HB9.out
          have HE := Aside0.mk (HCT.out _ HB9.out _ _ h1 kk)
          obtain ⟨A1, n1, c1, rfl⟩ := own_three h1
          clear h1 g1
          refine hK.out _ _ ?_ (fun hHeld => ?_)
          · (try dsimp only); first | go_keep | assumption | exact hal2 _
          clear hK K
          try go_simp
          refine wpAnyH_take (i := 18) (v := ?_) rfl (by kernel_rfl) (by kernel_rfl) (by kernel_rfl) (fun _ _ _ h => h) (Or.inl ⟨by rfl, ?_⟩) (by assumption) ?_
          rotate_left
          · (intro w hSw; (try dsimp only at hSw); (go_simp <;> with_reducible rfl))
          try go_simp
          refine wpAnyH_take (i := 19) (v := ?_) rfl (by kernel_rfl) (by kernel_rfl) (by kernel_rfl) (fun _ _ _ h => h) (Or.inl ⟨by rfl, ?_⟩) (by assumption) ?_
          rotate_left
          · (intro w hSw; (try dsimp only at hSw); (go_simp <;> with_reducible rfl))
          try go_simp
          refine wpAnyH_ready (rs := [20]) (by kernel_rfl) (by simp) ?_
          refine AllReadyH.cons rfl (fun K hK => ?_) AllReadyH.nil
          go_simp
          refine hK.out _ _ ?_ (fun hHeld => ?_)
          · (try dsimp only); first | go_keep | assumption | exact hal2 _
          clear hK K
          try go_simp
          refine wpAnyH_done (by kernel_rfl) ?_ _
          refine NoPanic.normal ?_
          have HGO := Aside0.mk HE.out
          obtain ⟨R10, k1, k2⟩ := HGO.out
          rw [List.nil_append, HST.out kk HKK.out, HF9.out] at k1
          have HC10 := Aside0.mk k1
          have HT10 := Aside0.mk (HT9.out.trans k2)
          clear k1 k2 HGO HE
          go_wp2
          go_roundw
          case rel => exact ⟨i + 1, R10, _, (by have := HLT.out; omega), by go_num, ⟨by rw [List.length_set]; exact HF9.out⟩, HC10, HT10⟩
          case measure => (have := HLT.out; simp [intOf]; omega)
        exact AllReadyH.nil
        -- END
    · obtain ⟨-, -, -, -, p4, p5⟩ := HC9.out.cells
      have q4 := HC9.out.frozen 4
      have q5 := HC9.out.frozen 5
      have HEND := Aside0.mk (crashEndR HC9.out)
      have HIE := Aside0.mk (show i = d.files.length by rw [HFN.out]; omega)
      go_wp2
      go_end0
      have h9 := RTurn.trans HT9.out HEND.out
      rw [HIE.out] at h9
      exact ⟨rfl, h9⟩
end Go.Proofs.Ytibmgcihpbofdaa.Fs
namespace Go.Proofs.Ytibmgcihpbofdaa.Fs
open Go.RowKit Go.Proofs.Ytibmgcihpbofdaa Go.Proofs.Ytibmgcihpbofdaa.Plain Go.Proofs.YtibmgcihpbofdaaW.PrintWords Go.Maps
set_option linter.unusedVariables false
set_option linter.unusedSimpArgs false
set_option maxHeartbeats 4000000 in
set_option maxRecDepth 100000 in
theorem crashin0 {w0 W : World} {r : Nat} {d : RDisk} {R : Nat → Prop} {N : Nat} (h : RAt w0 r d R W) (hok : ROk d N) (hN : N ≤ 900000) (k : Nat) (mm : Int) (hm : mm < 0) (hL : k < d.loose.length) :
    Calls Try.prog 44 #[.pointer (some ⟨r, 0, none⟩), .int .i64 (k : Int), .int .i64 mm] W fun e W' => e = .returned (.tuple #[]) ∧ RTurn w0 r { mid d k (0 : Int) d.files.length with fuse := -1, off := false } R W W' := by
  obtain ⟨vs, vl, vf, fl, c0⟩ := h
  obtain ⟨⟨As, cs, rfl⟩, ⟨Al, cl, rfl⟩, ⟨Af, cf, rfl⟩⟩ := c0.slices
  have HOK := Aside0.mk hok
  have HN := Aside0.mk hN
  have HFL := Aside0.mk c0.len
  obtain ⟨Fn, hFn⟩ : ∃ Fn, fl.length = Fn := ⟨_, rfl⟩
  have HFN := Aside0.mk (show d.files.length = Fn by rw [← hFn]; exact c0.len)
  obtain ⟨p0, p1, p2, -, -, -⟩ := c0.cells
  have q1 := c0.frozen 1
  obtain ⟨ga, ca, ea, -⟩ := c0.chg 0 (by omega)
  injection ea with ea _ e3
  subst ea
  subst e3
  have hcl := rowCap c0.loose
  have HEX := Aside0.mk (cutEnd c0 k (by omega))
  obtain ⟨L, hL'⟩ : ∃ L, d.loose.length = L := ⟨_, rfl⟩
  have HLL := Aside0.mk hL'
  rw [hL'] at p1 hcl hL
  have hL2 : (k : Int) < (L : Int) := by omega
  have hk1 : (k : Int) ≤ (cl : Int) := by omega
  have hk2 : (0 : Int) ≤ (k : Int) := by omega
  have hk3 : ¬ (k : Int) < 0 := by omega
  clear hL hL' hcl
  obtain ⟨R1, k1, k2⟩ := HEX.out
  have HC1 := Aside0.mk k1
  have HT1 := Aside0.mk k2
  clear k1 k2 HEX
  rw [hFn] at p2 HC1
  clear hFn
  have hfb : Fn ≤ 900000 := by rw [← HFN.out]; have := hok.many.2; omega
  clear c0 hok hN
  go_enter Try.func44, Try.ntmps44
  go_wp2_with (go_at_call 46; refine (dirIs ⟨_, _, _, _, HC1.out⟩ (HOK.out.cut _) (by have := HN.out; omega)).mono ?_; rintro e W8 ⟨v8, rfl, hD⟩; obtain ⟨R8, k1, k2⟩ := firmEnd HC1.out hD (p' := mid d (k) (0 : Int) 0) (mid_zero _ _ _); have HC8 := Aside0.mk k1; have HT8 := Aside0.mk (HT1.out.trans k2); have hc8 := HC1.out.step hD.below; obtain ⟨A8, n8, c8, rfl⟩ := own_three hD.row; clear p0 p1 p2 q1; obtain ⟨p0, p1, -, -, -, -⟩ := hc8.cells; have q0 := hc8.frozen 0; have q1 := hc8.frozen 1; clear hc8 hD k1 k2)
  obtain ⟨w8, hw8⟩ : ∃ w8, (W8.setCell ⟨r, 0, none⟩ (.slice A8 n8 c8)).setCell ⟨r, 1, none⟩ (.slice none 0 0) = w8 := ⟨_, rfl⟩
  rw [hw8] at HC8 HT8 ⊢
  clear hw8 p0 p1 q0 q1 HC1 HT1
  go_loopw [6, 7] (fun v6 v7 wr => ∃ (i : Nat) (R9 : Nat → Prop) (fl9 : List RFile), i ≤ Fn ∧ v6 = .int .i64 i ∧ Aside0 (fl9.length = Fn) ∧ Aside0 (RCore w0 wr r (mid d (k) (0 : Int) i) R9 (.slice A8 n8 c8) (.slice none 0 0) (.slice Af Fn cf) fl9) ∧ Aside0 (Turn R W R9 wr)) (fun v6 _ _ => Fn - (intOf v6).toNat)
  case atStart => exact ⟨0, R8, fl, by omega, rfl, ⟨HFL.out.symm.trans HFN.out⟩, HC8, HT8⟩
  case round =>
    obtain ⟨i, R9, fl9, hi, rfl, HF9, HC9, HT9⟩ := hrel
    obtain ⟨-, -, p2, -, -, -⟩ := HC9.out.cells
    by_cases hlt : i < Fn
    · have hif : i < fl9.length := by rw [HF9.out]; exact hlt
      obtain ⟨g, cf', efl, -, -, f0, f1, fr0, fr1⟩ := HC9.out.file i hif
      injection efl with efl e2 e3
      clear e2
      subst efl
      subst e3
      have hgr : g ≠ r := (HC9.out.ne.2.2.1 g rfl).1
      have HLT := Aside0.mk hlt
      have hid : i < d.files.length := by rw [HFN.out]; exact hlt
      have hqd : fl9[i].2 = d.files[i] := by
        have h1 := mid_at (d := d) (k := (k)) (M := (0 : Int)) hid
        rw [HC9.out.eq, List.getElem?_map, List.getElem?_eq_getElem hif] at h1
        exact Option.some.inj h1
      have hfm := HOK.out.firm _ (List.getElem_mem hid)
      have HEB := Aside0.mk (HC9.out.each _ (List.getElem_mem hif))
      have HCT := Aside0.mk (fun (X : World) (hX : Below wr.heap.size wr X) (v : Value) (b : List UInt8) (hv : BytesIs X wr.heap.size v b) (m : Nat) => fileCut (show RCore w0 wr r (mid d (k) (0 : Int) i) R9 (.slice A8 n8 c8) (.slice none 0 0) (.slice (some ⟨g, 0, none⟩) fl9.length cf) fl9 by rw [HF9.out]; exact HC9.out) i hif hX hv m)
      have HCELL := Aside0.mk (fun (X : World) (hX : Below wr.heap.size wr X) => fileCells (show RCore w0 wr r (mid d (k) (0 : Int) i) R9 (.slice A8 n8 c8) (.slice none 0 0) (.slice (some ⟨g, 0, none⟩) fl9.length cf) fl9 by rw [HF9.out]; exact HC9.out) hif hX)
      obtain ⟨q, hq⟩ : ∃ q, fl9[i] = q := ⟨_, rfl⟩
      rw [hq] at f0 f1 hqd HEB HCELL
      obtain ⟨bv, u, s⟩ := q
      have HQD := Aside0.mk (show d.files[i] = (u, s) from hqd.symm)
      have HST := Aside0.mk (fun (m : Nat) (hm : m = s + min (max (0 : Int) 0).toNat (u.length - s)) => mid_step (k := (k)) (M := (0 : Int)) hid hqd.symm hm)
      rw [← hqd] at hfm
      have hs1 : s ≤ u.length := hfm.1
      have hs2 : u.length ≤ N := hfm.2
      have hbb : ∃ A c, bv = .slice A (B u).length c := own_slice HEB.out
      obtain ⟨Ab, cb, rfl⟩ := hbb
      have hcap : (B u).length ≤ cb := rowCap HEB.out
      have HRE := Aside0.mk (fun X (hX : Below wr.heap.size wr X) => bytesReads (BytesIs.below HEB.out hX))
      obtain ⟨m0, hm0'⟩ : ∃ m0, (B u).length = m0 := ⟨_, rfl⟩
      have hmu : m0 = u.length := by rw [← hm0', B_length]
      simp only [hm0'] at f0 HCELL hcap
      have HMU := Aside0.mk hmu
      have hsl : s ≤ m0 := by omega
      have hml : m0 ≤ 900000 := by have := HN.out; omega
      have HSL := Aside0.mk hsl
      have hw1 : IntKind.i64.wrap ((m0 : Int) - (s : Int)) = (m0 : Int) - (s : Int) := IntWalk.i64_in _ (by omega)
      have HZ9 := Aside0.mk (Below.refl wr.heap.size wr)
      have hal2 : ∀ o : Obj, (wr.alloc o).cell? ⟨r, 2, none⟩ = some (.slice (some ⟨g, 0, none⟩) Fn cf) := fun o => (HC9.out.step (below_alloc (Below.refl _ _) o)).cells.2.2.1
      have hal3 : ∀ o : Obj, (wr.alloc o).cell? ⟨g, i * 2, none⟩ = some (.slice Ab m0 cb) := fun o => (HCELL.out _ (below_alloc (Below.refl _ _) o)).1
      clear hq hqd hfm hs1 hs2 hm0' hmu
      have hM : ¬ (0 : Int) > (m0 : Int) - (s : Int) := by omega
      have hadd : IntKind.i64.wrap (s : Int) = (s : Int) := IntWalk.i64_in _ (by omega)
      have hb1 : (s : Int) ≤ (cb : Int) := by omega
      have HKK := Aside0.mk (show s = s + min (max (0 : Int) 0).toNat (u.length - s) by simp)
      have HTL := Aside0.mk (show s = (u.take s).length ∧ (u.take s).length ≤ 2000000 by rw [List.length_take]; have := HMU.out; omega)
      go_wp2
      refine wp_region_noPanic ?_
      refine wp_region_held_drew (S := (fun X => X.cell? ⟨r, 2, none⟩ = some (.slice (some ⟨g, 0, none⟩) Fn cf))) (by kernel_rfl) ?_ (fun hHeld => ?_)
      · (try dsimp only); first | go_keep | assumption | exact hal2 _
      refine wpAnyH_take (i := 0) (v := ?_) rfl (by kernel_rfl) (by kernel_rfl) (by kernel_rfl) (fun _ _ _ h => h) (Or.inl ⟨by rfl, ?_⟩) (by assumption) ?_
      rotate_left
      · (intro w hSw; (try dsimp only at hSw); (go_simp <;> with_reducible rfl))
      try go_simp
      refine wpAnyH_take (i := 1) (v := ?_) rfl (by kernel_rfl) (by kernel_rfl) (by kernel_rfl) (fun _ _ _ h => h) (Or.inl ⟨by rfl, ?_⟩) (by assumption) ?_
      rotate_left
      · (intro w hSw; (try dsimp only at hSw); (go_simp <;> with_reducible rfl))
      try go_simp
      refine wpAnyH_take (i := 2) (v := ?_) rfl (by kernel_rfl) (by kernel_rfl) (by kernel_rfl) (fun _ _ _ h => h) (Or.inl ⟨by rfl, ?_⟩) (by assumption) ?_
      rotate_left
      · (intro w hSw; (try dsimp only at hSw); (go_simp <;> with_reducible rfl))
      try go_simp
      refine wpAnyH_take (i := 3) (v := ?_) rfl (by kernel_rfl) (by kernel_rfl) (by kernel_rfl) (fun _ _ _ h => h) (Or.inl ⟨by rfl, ?_⟩) (by assumption) ?_
      rotate_left
      · (intro w hSw; (try dsimp only at hSw); (go_simp <;> with_reducible rfl))
      try go_simp
      refine wpAnyH_take (i := 4) (v := ?_) rfl (by kernel_rfl) (by kernel_rfl) (by kernel_rfl) (fun _ _ _ h => h) (Or.inl ⟨by rfl, ?_⟩) (by assumption) ?_
      rotate_left
      · (intro w hSw; (try dsimp only at hSw); (go_simp <;> with_reducible rfl))
      try go_simp
      refine wpAnyH_take (i := 6) (v := ?_) rfl (by kernel_rfl) (by kernel_rfl) (by kernel_rfl) (fun _ _ _ h => h) (Or.inl ⟨by rfl, ?_⟩) (by assumption) ?_
      rotate_left
      · (intro w hSw; (try dsimp only at hSw); (go_simp <;> with_reducible rfl))
      try go_simp
      refine wpAnyH_take (i := 7) (v := ?_) rfl (by kernel_rfl) (by kernel_rfl) (by kernel_rfl) (fun _ _ _ h => h) (Or.inl ⟨by rfl, ?_⟩) (by assumption) ?_
      rotate_left
      · (intro w hSw; (try dsimp only at hSw); (go_simp <;> with_reducible rfl))
      try go_simp
      refine wpAnyH_take (i := 8) (v := ?_) rfl (by kernel_rfl) (by kernel_rfl) (by kernel_rfl) (fun _ _ _ h => h) (Or.inl ⟨by rfl, ?_⟩) (by assumption) ?_
      rotate_left
      · (intro w hSw; (try dsimp only at hSw); (go_simp <;> with_reducible rfl))
      try go_simp
      refine wpAnyH_take (i := 9) (v := ?_) rfl (by kernel_rfl) (by kernel_rfl) (by kernel_rfl) (fun _ _ _ h => h) (Or.inl ⟨by rfl, ?_⟩) (by assumption) ?_
      rotate_left
      · (intro w hSw; (try dsimp only at hSw); (go_simp <;> with_reducible rfl))
      try go_simp
      refine wpAnyH_take (i := 10) (v := ?_) rfl (by kernel_rfl) (by kernel_rfl) (by kernel_rfl) (fun _ _ _ h => h) (Or.inl ⟨by rfl, ?_⟩) (by assumption) ?_
      rotate_left
      · (intro w hSw; (try dsimp only at hSw); (go_simp <;> with_reducible rfl))
      try go_simp
      refine wpAnyH_take (i := 11) (v := ?_) rfl (by kernel_rfl) (by kernel_rfl) (by kernel_rfl) (fun _ _ _ h => h) (Or.inl ⟨by rfl, ?_⟩) (by assumption) ?_
      rotate_left
      · (intro w hSw; (try dsimp only at hSw); (go_simp <;> with_reducible rfl))
      try go_simp
      refine wpAnyH_take (i := 12) (v := ?_) rfl (by kernel_rfl) (by kernel_rfl) (by kernel_rfl) (fun _ _ _ h => h) (Or.inl ⟨by rfl, ?_⟩) (by assumption) ?_
      rotate_left
      · (intro w hSw; (try dsimp only at hSw); (go_simp <;> with_reducible rfl))
      try go_simp
      refine wpAnyH_take (i := 14) (v := ?_) rfl (by kernel_rfl) (by kernel_rfl) (by kernel_rfl) (fun _ _ _ h => h) (Or.inl ⟨by rfl, ?_⟩) (by assumption) ?_
      rotate_left
      · (intro w hSw; (try dsimp only at hSw); (go_simp <;> with_reducible rfl))
      try go_simp
      refine wpAnyH_take (i := 17) (v := ?_) rfl (by kernel_rfl) (by kernel_rfl) (by kernel_rfl) (fun _ _ _ h => h) (Or.inl ⟨by rfl, ?_⟩) (by assumption) ?_
      rotate_left
      · (intro w hSw; (try dsimp only at hSw); (go_simp <;> with_reducible rfl))
      try go_simp
      refine wpAnyH_ready (rs := [5, 13]) (by kernel_rfl) (by simp) ?_
      refine AllReadyH.cons rfl (fun K hK => ?_) ?_
      · skip
        go_simp
        refine hK.out _ _ ?_ (fun hHeld => ?_)
        · (try dsimp only); first | go_keep | assumption | exact hal2 _
        clear hK K
        try go_simp
        refine wpAnyH_ready (rs := [13]) (by kernel_rfl) (by simp) ?_
        refine AllReadyH.cons rfl (fun K hK => ?_) AllReadyH.nil
        go_simp
        refine hK.out _ _ ?_ (fun hHeld => ?_)
        · (try dsimp only); first | go_keep | assumption | exact hal2 _
        clear hK K
        try go_simp
        refine wpAnyH_take (i := 15) (v := ?_) rfl (by kernel_rfl) (by kernel_rfl) (by kernel_rfl) (fun _ _ _ h => h) (Or.inl ⟨by rfl, ?_⟩) (by assumption) ?_
        rotate_left
        · (intro w hSw; (try dsimp only at hSw); (go_simp <;> with_reducible rfl))
        try go_simp
        refine wpAnyH_ready (rs := [16]) (by kernel_rfl) (by simp) ?_
        refine AllReadyH.cons rfl (fun K hK => ?_) AllReadyH.nil
        refine stepW (Wb := wr) (s := []) (v := .slice (some ⟨_, 0, none⟩) 0 0) (by repeat (first | exact HZ9.out | apply below_drew1 | refine below_alloc ?_ _)) rfl (.tmp 83) (.tmp 93) rfl (by first | (simp [Act.eval, Act.put]; done) | (simp [Act.eval, Act.put]; rfl)) (bytesEmpty (by repeat (first | with_reducible exact at_new _ (by simp) | with_reducible apply at_drew | with_reducible refine at_old _ ?_)) (by simp)) (u.take s) (Nat.le_trans (Nat.le_of_eq (Nat.zero_add _)) HTL.out.2) Ab s cb (by first | (simp [Act.eval, Act.put]; done) | (simp [Act.eval, Act.put]; rfl)) HTL.out.1 (readsTake (HRE.out _ (by repeat (first | exact HZ9.out | apply below_drew1 | refine below_alloc ?_ _))) s) ?_
        intro v1 w1 h1 g1
        have HB9 := Aside0.mk g1
        obtain ⟨-, -, s1, -, -⟩ := (HC9.out.step HB9.out).after (Below.refl _ _) (World.grownBy.refl w1 none) (by simp)
        obtain ⟨e1, e2, e3, e4⟩ := HCELL.out _ HB9.out
        have HE := Aside0.mk (HCT.out _ HB9.out _ _ h1 s)
        obtain ⟨A1, n1, c1, rfl⟩ := own_three h1
        clear h1 g1
        refine hK.out _ _ ?_ (fun hHeld => ?_)
        · (try dsimp only); first | go_keep | assumption | exact hal2 _
        clear hK K
        try go_simp
        refine wpAnyH_take (i := 18) (v := ?_) rfl (by kernel_rfl) (by kernel_rfl) (by kernel_rfl) (fun _ _ _ h => h) (Or.inl ⟨by rfl, ?_⟩) (by assumption) ?_
        rotate_left
        · (intro w hSw; (try dsimp only at hSw); (go_simp <;> with_reducible rfl))
        try go_simp
        refine wpAnyH_take (i := 19) (v := ?_) rfl (by kernel_rfl) (by kernel_rfl) (by kernel_rfl) (fun _ _ _ h => h) (Or.inl ⟨by rfl, ?_⟩) (by assumption) ?_
        rotate_left
        · (intro w hSw; (try dsimp only at hSw); (go_simp <;> with_reducible rfl))
        try go_simp
        refine wpAnyH_ready (rs := [20]) (by kernel_rfl) (by simp) ?_
        refine AllReadyH.cons rfl (fun K hK => ?_) AllReadyH.nil
        go_simp
        refine hK.out _ _ ?_ (fun hHeld => ?_)
        · (try dsimp only); first | go_keep | assumption | exact hal2 _
        clear hK K
        try go_simp
        refine wpAnyH_done (by kernel_rfl) ?_ _
        refine NoPanic.normal ?_
        have HGO := Aside0.mk HE.out
        obtain ⟨R10, k1, k2⟩ := HGO.out
        rw [List.nil_append, HST.out s HKK.out, HF9.out] at k1
        have HC10 := Aside0.mk k1
        have HT10 := Aside0.mk (HT9.out.trans k2)
        clear k1 k2 HGO HE
        go_wp2
        go_roundw
        case rel => exact ⟨i + 1, R10, _, (by have := HLT.out; omega), by go_num, ⟨by rw [List.length_set]; exact HF9.out⟩, HC10, HT10⟩
        case measure => (have := HLT.out; simp [intOf]; omega)
      refine AllReadyH.cons rfl (fun K hK => ?_) ?_
      · skip
        go_simp
        refine hK.out _ _ ?_ (fun hHeld => ?_)
        · (try dsimp only); first | go_keep | assumption | exact hal2 _
        clear hK K
        try go_simp
        refine wpAnyH_take (i := 15) (v := ?_) rfl (by kernel_rfl) (by kernel_rfl) (by kernel_rfl) (fun _ _ _ h => h) (Or.inl ⟨by rfl, ?_⟩) (by assumption) ?_
        rotate_left
        · (intro w hSw; (try dsimp only at hSw); (go_simp <;> with_reducible rfl))
        try go_simp
        refine wpAnyH_ready (rs := [5]) (by kernel_rfl) (by simp) ?_
        refine AllReadyH.cons rfl (fun K hK => ?_) AllReadyH.nil
        go_simp
        refine hK.out _ _ ?_ (fun hHeld => ?_)
        · (try dsimp only); first | go_keep | assumption | exact hal2 _
        clear hK K
        try go_simp
        refine wpAnyH_ready (rs := [16]) (by kernel_rfl) (by simp) ?_
        refine AllReadyH.cons rfl (fun K hK => ?_) AllReadyH.nil
        refine stepW (Wb := wr) (s := []) (v := .slice (some ⟨_, 0, none⟩) 0 0) (by repeat (first | exact HZ9.out | apply below_drew1 | refine below_alloc ?_ _)) rfl (.tmp 83) (.tmp 93) rfl (by first | (simp [Act.eval, Act.put]; done) | (simp [Act.eval, Act.put]; rfl)) (bytesEmpty (by repeat (first | with_reducible exact at_new _ (by simp) | with_reducible apply at_drew | with_reducible refine at_old _ ?_)) (by simp)) (u.take s) (Nat.le_trans (Nat.le_of_eq (Nat.zero_add _)) HTL.out.2) Ab s cb (by first | (simp [Act.eval, Act.put]; done) | (simp [Act.eval, Act.put]; rfl)) HTL.out.1 (readsTake (HRE.out _ (by repeat (first | exact HZ9.out | apply below_drew1 | refine below_alloc ?_ _))) s) ?_
        intro v1 w1 h1 g1
        have HB9 := Aside0.mk g1
        obtain ⟨-, -, s1, -, -⟩ := (HC9.out.step HB9.out).after (Below.refl _ _) (World.grownBy.refl w1 none) (by simp)
        obtain ⟨e1, e2, e3, e4⟩ := HCELL.out _ HB9.out
        have HE := Aside0.mk (HCT.out _ HB9.out _ _ h1 s)
        obtain ⟨A1, n1, c1, rfl⟩ := own_three h1
        clear h1 g1
        refine hK.out _ _ ?_ (fun hHeld => ?_)
        · (try dsimp only); first | go_keep | assumption | exact hal2 _
        clear hK K
        try go_simp
        refine wpAnyH_take (i := 18) (v := ?_) rfl (by kernel_rfl) (by kernel_rfl) (by kernel_rfl) (fun _ _ _ h => h) (Or.inl ⟨by rfl, ?_⟩) (by assumption) ?_
        rotate_left
        · (intro w hSw; (try dsimp only at hSw); (go_simp <;> with_reducible rfl))
        try go_simp
        refine wpAnyH_take (i := 19) (v := ?_) rfl (by kernel_rfl) (by kernel_rfl) (by kernel_rfl) (fun _ _ _ h => h) (Or.inl ⟨by rfl, ?_⟩) (by assumption) ?_
        rotate_left
        · (intro w hSw; (try dsimp only at hSw); (go_simp <;> with_reducible rfl))
        try go_simp
        refine wpAnyH_ready (rs := [20]) (by kernel_rfl) (by simp) ?_
        refine AllReadyH.cons rfl (fun K hK => ?_) AllReadyH.nil
        go_simp
        refine hK.out _ _ ?_ (fun hHeld => ?_)
        · (try dsimp only); first | go_keep | assumption | exact hal2 _
        clear hK K
        try go_simp
        refine wpAnyH_done (by kernel_rfl) ?_ _
        refine NoPanic.normal ?_
        have HGO := Aside0.mk HE.out
        obtain ⟨R10, k1, k2⟩ := HGO.out
        rw [List.nil_append, HST.out s HKK.out, HF9.out] at k1
        have HC10 := Aside0.mk k1
        have HT10 := Aside0.mk (HT9.out.trans k2)
        clear k1 k2 HGO HE
        go_wp2
        go_roundw
        case rel => exact ⟨i + 1, R10, _, (by have := HLT.out; omega), by go_num, ⟨by rw [List.length_set]; exact HF9.out⟩, HC10, HT10⟩
        case measure => (have := HLT.out; simp [intOf]; omega)
      exact AllReadyH.nil
      -- END
    · obtain ⟨-, -, -, -, p4, p5⟩ := HC9.out.cells
      have q4 := HC9.out.frozen 4
      have q5 := HC9.out.frozen 5
      have HEND := Aside0.mk (crashEndR HC9.out)
      have HIE := Aside0.mk (show i = d.files.length by rw [HFN.out]; omega)
      go_wp2
      go_end0
      have h9 := RTurn.trans HT9.out HEND.out
      rw [HIE.out] at h9
      exact ⟨rfl, h9⟩
end Go.Proofs.Ytibmgcihpbofdaa.Fs
namespace Go.Proofs.Ytibmgcihpbofdaa.Fs
open Go.RowKit Go.Proofs.Ytibmgcihpbofdaa Go.Proofs.Ytibmgcihpbofdaa.Plain Go.Proofs.YtibmgcihpbofdaaW.PrintWords Go.Maps
set_option linter.unusedVariables false
set_option linter.unusedSimpArgs false
set_option maxHeartbeats 4000000 in
set_option maxRecDepth 100000 in
theorem crashin1 {w0 W : World} {r : Nat} {d : RDisk} {R : Nat → Prop} {N : Nat} (h : RAt w0 r d R W) (hok : ROk d N) (hN : N ≤ 900000) (k : Nat) (mn : Nat) (hmn : mn ≤ 9223372036854775807) (hL : k < d.loose.length) :
    Calls Try.prog 44 #[.pointer (some ⟨r, 0, none⟩), .int .i64 (k : Int), .int .i64 (mn : Int)] W fun e W' => e = .returned (.tuple #[]) ∧ RTurn w0 r { mid d k (mn : Int) d.files.length with fuse := -1, off := false } R W W' := by
  obtain ⟨vs, vl, vf, fl, c0⟩ := h
  obtain ⟨⟨As, cs, rfl⟩, ⟨Al, cl, rfl⟩, ⟨Af, cf, rfl⟩⟩ := c0.slices
  have HOK := Aside0.mk hok
  have HN := Aside0.mk hN
  have HFL := Aside0.mk c0.len
  obtain ⟨Fn, hFn⟩ : ∃ Fn, fl.length = Fn := ⟨_, rfl⟩
  have HFN := Aside0.mk (show d.files.length = Fn by rw [← hFn]; exact c0.len)
  obtain ⟨p0, p1, p2, -, -, -⟩ := c0.cells
  have q1 := c0.frozen 1
  obtain ⟨ga, ca, ea, -⟩ := c0.chg 0 (by omega)
  injection ea with ea _ e3
  subst ea
  subst e3
  have hcl := rowCap c0.loose
  have HEX := Aside0.mk (cutEnd c0 k (by omega))
  obtain ⟨L, hL'⟩ : ∃ L, d.loose.length = L := ⟨_, rfl⟩
  have HLL := Aside0.mk hL'
  rw [hL'] at p1 hcl hL
  have hL2 : (k : Int) < (L : Int) := by omega
  have hk1 : (k : Int) ≤ (cl : Int) := by omega
  have hk2 : (0 : Int) ≤ (k : Int) := by omega
  have hk3 : ¬ (k : Int) < 0 := by omega
  clear hL hL' hcl
  obtain ⟨R1, k1, k2⟩ := HEX.out
  have HC1 := Aside0.mk k1
  have HT1 := Aside0.mk k2
  clear k1 k2 HEX
  rw [hFn] at p2 HC1
  clear hFn
  have hfb : Fn ≤ 900000 := by rw [← HFN.out]; have := hok.many.2; omega
  clear c0 hok hN
  have hm0 : ¬ (mn : Int) < 0 := by omega
  go_enter Try.func44, Try.ntmps44
  go_wp2_with (go_at_call 46; refine (dirIs ⟨_, _, _, _, HC1.out⟩ (HOK.out.cut _) (by have := HN.out; omega)).mono ?_; rintro e W8 ⟨v8, rfl, hD⟩; obtain ⟨R8, k1, k2⟩ := firmEnd HC1.out hD (p' := mid d (k) (mn : Int) 0) (mid_zero _ _ _); have HC8 := Aside0.mk k1; have HT8 := Aside0.mk (HT1.out.trans k2); have hc8 := HC1.out.step hD.below; obtain ⟨A8, n8, c8, rfl⟩ := own_three hD.row; clear p0 p1 p2 q1; obtain ⟨p0, p1, -, -, -, -⟩ := hc8.cells; have q0 := hc8.frozen 0; have q1 := hc8.frozen 1; clear hc8 hD k1 k2)
  obtain ⟨w8, hw8⟩ : ∃ w8, (W8.setCell ⟨r, 0, none⟩ (.slice A8 n8 c8)).setCell ⟨r, 1, none⟩ (.slice none 0 0) = w8 := ⟨_, rfl⟩
  rw [hw8] at HC8 HT8 ⊢
  clear hw8 p0 p1 q0 q1 HC1 HT1
  go_loopw [6, 7] (fun v6 v7 wr => ∃ (i : Nat) (R9 : Nat → Prop) (fl9 : List RFile), i ≤ Fn ∧ v6 = .int .i64 i ∧ Aside0 (fl9.length = Fn) ∧ Aside0 (RCore w0 wr r (mid d (k) (mn : Int) i) R9 (.slice A8 n8 c8) (.slice none 0 0) (.slice Af Fn cf) fl9) ∧ Aside0 (Turn R W R9 wr)) (fun v6 _ _ => Fn - (intOf v6).toNat)
  case atStart => exact ⟨0, R8, fl, by omega, rfl, ⟨HFL.out.symm.trans HFN.out⟩, HC8, HT8⟩
  case round =>
    obtain ⟨i, R9, fl9, hi, rfl, HF9, HC9, HT9⟩ := hrel
    obtain ⟨-, -, p2, -, -, -⟩ := HC9.out.cells
    by_cases hlt : i < Fn
    · have hif : i < fl9.length := by rw [HF9.out]; exact hlt
      obtain ⟨g, cf', efl, -, -, f0, f1, fr0, fr1⟩ := HC9.out.file i hif
      injection efl with efl e2 e3
      clear e2
      subst efl
      subst e3
      have hgr : g ≠ r := (HC9.out.ne.2.2.1 g rfl).1
      have HLT := Aside0.mk hlt
      have hid : i < d.files.length := by rw [HFN.out]; exact hlt
      have hqd : fl9[i].2 = d.files[i] := by
        have h1 := mid_at (d := d) (k := (k)) (M := (mn : Int)) hid
        rw [HC9.out.eq, List.getElem?_map, List.getElem?_eq_getElem hif] at h1
        exact Option.some.inj h1
      have hfm := HOK.out.firm _ (List.getElem_mem hid)
      have HEB := Aside0.mk (HC9.out.each _ (List.getElem_mem hif))
      have HCT := Aside0.mk (fun (X : World) (hX : Below wr.heap.size wr X) (v : Value) (b : List UInt8) (hv : BytesIs X wr.heap.size v b) (m : Nat) => fileCut (show RCore w0 wr r (mid d (k) (mn : Int) i) R9 (.slice A8 n8 c8) (.slice none 0 0) (.slice (some ⟨g, 0, none⟩) fl9.length cf) fl9 by rw [HF9.out]; exact HC9.out) i hif hX hv m)
      have HCELL := Aside0.mk (fun (X : World) (hX : Below wr.heap.size wr X) => fileCells (show RCore w0 wr r (mid d (k) (mn : Int) i) R9 (.slice A8 n8 c8) (.slice none 0 0) (.slice (some ⟨g, 0, none⟩) fl9.length cf) fl9 by rw [HF9.out]; exact HC9.out) hif hX)
      obtain ⟨q, hq⟩ : ∃ q, fl9[i] = q := ⟨_, rfl⟩
      rw [hq] at f0 f1 hqd HEB HCELL
      obtain ⟨bv, u, s⟩ := q
      have HQD := Aside0.mk (show d.files[i] = (u, s) from hqd.symm)
      have HST := Aside0.mk (fun (m : Nat) (hm : m = s + min (max (mn : Int) 0).toNat (u.length - s)) => mid_step (k := (k)) (M := (mn : Int)) hid hqd.symm hm)
      rw [← hqd] at hfm
      have hs1 : s ≤ u.length := hfm.1
      have hs2 : u.length ≤ N := hfm.2
      have hbb : ∃ A c, bv = .slice A (B u).length c := own_slice HEB.out
      obtain ⟨Ab, cb, rfl⟩ := hbb
      have hcap : (B u).length ≤ cb := rowCap HEB.out
      have HRE := Aside0.mk (fun X (hX : Below wr.heap.size wr X) => bytesReads (BytesIs.below HEB.out hX))
      obtain ⟨m0, hm0'⟩ : ∃ m0, (B u).length = m0 := ⟨_, rfl⟩
      have hmu : m0 = u.length := by rw [← hm0', B_length]
      simp only [hm0'] at f0 HCELL hcap
      have HMU := Aside0.mk hmu
      have hsl : s ≤ m0 := by omega
      have hml : m0 ≤ 900000 := by have := HN.out; omega
      have HSL := Aside0.mk hsl
      have hw1 : IntKind.i64.wrap ((m0 : Int) - (s : Int)) = (m0 : Int) - (s : Int) := IntWalk.i64_in _ (by omega)
      have HZ9 := Aside0.mk (Below.refl wr.heap.size wr)
      have hal2 : ∀ o : Obj, (wr.alloc o).cell? ⟨r, 2, none⟩ = some (.slice (some ⟨g, 0, none⟩) Fn cf) := fun o => (HC9.out.step (below_alloc (Below.refl _ _) o)).cells.2.2.1
      have hal3 : ∀ o : Obj, (wr.alloc o).cell? ⟨g, i * 2, none⟩ = some (.slice Ab m0 cb) := fun o => (HCELL.out _ (below_alloc (Below.refl _ _) o)).1
      clear hq hqd hfm hs1 hs2 hm0' hmu
      by_cases hM : (mn : Int) > (m0 : Int) - (s : Int)
      · have hb1 : (m0 : Int) ≤ (cb : Int) := by omega
        have HKK := Aside0.mk (show m0 = s + min (max (mn : Int) 0).toNat (u.length - s) by have := HMU.out; omega)
        have HTL := Aside0.mk (show m0 = (u.take m0).length ∧ (u.take m0).length ≤ 2000000 by rw [List.length_take]; have := HMU.out; omega)
        go_wp2
        refine wp_region_noPanic ?_
        refine wp_region_held_drew (S := (fun X => X.cell? ⟨r, 2, none⟩ = some (.slice (some ⟨g, 0, none⟩) Fn cf))) (by kernel_rfl) ?_ (fun hHeld => ?_)
        · (try dsimp only); first | go_keep | assumption | exact hal2 _
        refine wpAnyH_take (i := 0) (v := ?_) rfl (by kernel_rfl) (by kernel_rfl) (by kernel_rfl) (fun _ _ _ h => h) (Or.inl ⟨by rfl, ?_⟩) (by assumption) ?_
        rotate_left
        · (intro w hSw; (try dsimp only at hSw); (go_simp <;> with_reducible rfl))
        try go_simp
        refine wpAnyH_take (i := 1) (v := ?_) rfl (by kernel_rfl) (by kernel_rfl) (by kernel_rfl) (fun _ _ _ h => h) (Or.inl ⟨by rfl, ?_⟩) (by assumption) ?_
        rotate_left
        · (intro w hSw; (try dsimp only at hSw); (go_simp <;> with_reducible rfl))
        try go_simp
        refine wpAnyH_take (i := 2) (v := ?_) rfl (by kernel_rfl) (by kernel_rfl) (by kernel_rfl) (fun _ _ _ h => h) (Or.inl ⟨by rfl, ?_⟩) (by assumption) ?_
        rotate_left
        · (intro w hSw; (try dsimp only at hSw); (go_simp <;> with_reducible rfl))
        try go_simp
        refine wpAnyH_take (i := 3) (v := ?_) rfl (by kernel_rfl) (by kernel_rfl) (by kernel_rfl) (fun _ _ _ h => h) (Or.inl ⟨by rfl, ?_⟩) (by assumption) ?_
        rotate_left
        · (intro w hSw; (try dsimp only at hSw); (go_simp <;> with_reducible rfl))
        try go_simp
        refine wpAnyH_take (i := 4) (v := ?_) rfl (by kernel_rfl) (by kernel_rfl) (by kernel_rfl) (fun _ _ _ h => h) (Or.inl ⟨by rfl, ?_⟩) (by assumption) ?_
        rotate_left
        · (intro w hSw; (try dsimp only at hSw); (go_simp <;> with_reducible rfl))
        try go_simp
        refine wpAnyH_take (i := 6) (v := ?_) rfl (by kernel_rfl) (by kernel_rfl) (by kernel_rfl) (fun _ _ _ h => h) (Or.inl ⟨by rfl, ?_⟩) (by assumption) ?_
        rotate_left
        · (intro w hSw; (try dsimp only at hSw); (go_simp <;> with_reducible rfl))
        try go_simp
        refine wpAnyH_take (i := 7) (v := ?_) rfl (by kernel_rfl) (by kernel_rfl) (by kernel_rfl) (fun _ _ _ h => h) (Or.inl ⟨by rfl, ?_⟩) (by assumption) ?_
        rotate_left
        · (intro w hSw; (try dsimp only at hSw); (go_simp <;> with_reducible rfl))
        try go_simp
        refine wpAnyH_take (i := 8) (v := ?_) rfl (by kernel_rfl) (by kernel_rfl) (by kernel_rfl) (fun _ _ _ h => h) (Or.inl ⟨by rfl, ?_⟩) (by assumption) ?_
        rotate_left
        · (intro w hSw; (try dsimp only at hSw); (go_simp <;> with_reducible rfl))
        try go_simp
        refine wpAnyH_take (i := 9) (v := ?_) rfl (by kernel_rfl) (by kernel_rfl) (by kernel_rfl) (fun _ _ _ h => h) (Or.inl ⟨by rfl, ?_⟩) (by assumption) ?_
        rotate_left
        · (intro w hSw; (try dsimp only at hSw); (go_simp <;> with_reducible rfl))
        try go_simp
        refine wpAnyH_take (i := 10) (v := ?_) rfl (by kernel_rfl) (by kernel_rfl) (by kernel_rfl) (fun _ _ _ h => h) (Or.inl ⟨by rfl, ?_⟩) (by assumption) ?_
        rotate_left
        · (intro w hSw; (try dsimp only at hSw); (go_simp <;> with_reducible rfl))
        try go_simp
        refine wpAnyH_take (i := 11) (v := ?_) rfl (by kernel_rfl) (by kernel_rfl) (by kernel_rfl) (fun _ _ _ h => h) (Or.inl ⟨by rfl, ?_⟩) (by assumption) ?_
        rotate_left
        · (intro w hSw; (try dsimp only at hSw); (go_simp <;> with_reducible rfl))
        try go_simp
        refine wpAnyH_take (i := 12) (v := ?_) rfl (by kernel_rfl) (by kernel_rfl) (by kernel_rfl) (fun _ _ _ h => h) (Or.inl ⟨by rfl, ?_⟩) (by assumption) ?_
        rotate_left
        · (intro w hSw; (try dsimp only at hSw); (go_simp <;> with_reducible rfl))
        try go_simp
        refine wpAnyH_take (i := 14) (v := ?_) rfl (by kernel_rfl) (by kernel_rfl) (by kernel_rfl) (fun _ _ _ h => h) (Or.inl ⟨by rfl, ?_⟩) (by assumption) ?_
        rotate_left
        · (intro w hSw; (try dsimp only at hSw); (go_simp <;> with_reducible rfl))
        try go_simp
        refine wpAnyH_take (i := 17) (v := ?_) rfl (by kernel_rfl) (by kernel_rfl) (by kernel_rfl) (fun _ _ _ h => h) (Or.inl ⟨by rfl, ?_⟩) (by assumption) ?_
        rotate_left
        · (intro w hSw; (try dsimp only at hSw); (go_simp <;> with_reducible rfl))
        try go_simp
        refine wpAnyH_ready (rs := [5, 13]) (by kernel_rfl) (by simp) ?_
        refine AllReadyH.cons rfl (fun K hK => ?_) ?_
        · skip
          go_simp
          refine hK.out _ _ ?_ (fun hHeld => ?_)
          · (try dsimp only); first | go_keep | assumption | exact hal2 _
          clear hK K
          try go_simp
          refine wpAnyH_ready (rs := [13]) (by kernel_rfl) (by simp) ?_
          refine AllReadyH.cons rfl (fun K hK => ?_) AllReadyH.nil
          go_simp
          refine hK.out _ _ ?_ (fun hHeld => ?_)
          · (try dsimp only); first | go_keep | assumption | exact hal2 _
          clear hK K
          try go_simp
          refine wpAnyH_take (i := 15) (v := ?_) rfl (by kernel_rfl) (by kernel_rfl) (by kernel_rfl) (fun _ _ _ h => h) (Or.inl ⟨by rfl, ?_⟩) (by assumption) ?_
          rotate_left
          · (intro w hSw; (try dsimp only at hSw); (go_simp <;> with_reducible rfl))
          try go_simp
          refine wpAnyH_ready (rs := [16]) (by kernel_rfl) (by simp) ?_
          refine AllReadyH.cons rfl (fun K hK => ?_) AllReadyH.nil
          refine stepW (Wb := wr) (s := []) (v := .slice (some ⟨_, 0, none⟩) 0 0) (by repeat (first | exact HZ9.out | apply below_drew1 | refine below_alloc ?_ _)) rfl (.tmp 83) (.tmp 93) rfl (by first | (simp [Act.eval, Act.put]; done) | (simp [Act.eval, Act.put]; rfl)) (bytesEmpty (by repeat (first | with_reducible exact at_new _ (by simp) | with_reducible apply at_drew | with_reducible refine at_old _ ?_)) (by simp)) (u.take m0) (Nat.le_trans (Nat.le_of_eq (Nat.zero_add _)) HTL.out.2) Ab m0 cb (by first | (simp [Act.eval, Act.put]; done) | (simp [Act.eval, Act.put]; rfl)) HTL.out.1 (readsTake (HRE.out _ (by repeat (first | exact HZ9.out | apply below_drew1 | refine below_alloc ?_ _))) m0) ?_
          intro v1 w1 h1 g1
          have HB9 := Aside0.mk g1
          obtain ⟨-, -, s1, -, -⟩ := (HC9.out.step HB9.out).after (Below.refl _ _) (World.grownBy.refl w1 none) (by simp)
          obtain ⟨e1, e2, e3, e4⟩ := HCELL.out _ HB9.out
          have HE := Aside0.mk (HCT.out _ HB9.out _ _ h1 m0)
          obtain ⟨A1, n1, c1, rfl⟩ := own_three h1
          clear h1 g1
          refine hK.out _ _ ?_ (fun hHeld => ?_)
          · (try dsimp only); first | go_keep | assumption | exact hal2 _
          clear hK K
          try go_simp
          refine wpAnyH_take (i := 18) (v := ?_) rfl (by kernel_rfl) (by kernel_rfl) (by kernel_rfl) (fun _ _ _ h => h) (Or.inl ⟨by rfl, ?_⟩) (by assumption) ?_
          rotate_left
          · (intro w hSw; (try dsimp only at hSw); (go_simp <;> with_reducible rfl))
          try go_simp
          refine wpAnyH_take (i := 19) (v := ?_) rfl (by kernel_rfl) (by kernel_rfl) (by kernel_rfl) (fun _ _ _ h => h) (Or.inl ⟨by rfl, ?_⟩) (by assumption) ?_
          rotate_left
          · (intro w hSw; (try dsimp only at hSw); (go_simp <;> with_reducible rfl))
          try go_simp
          refine wpAnyH_ready (rs := [20]) (by kernel_rfl) (by simp) ?_
          refine AllReadyH.cons rfl (fun K hK => ?_) AllReadyH.nil
          go_simp
          refine hK.out _ _ ?_ (fun hHeld => ?_)
          · (try dsimp only); first | go_keep | assumption | exact hal2 _
          clear hK K
          try go_simp
          refine wpAnyH_done (by kernel_rfl) ?_ _
          refine NoPanic.normal ?_
          have HGO := Aside0.mk HE.out
          obtain ⟨R10, k1, k2⟩ := HGO.out
          rw [List.nil_append, HST.out m0 HKK.out, HF9.out] at k1
          have HC10 := Aside0.mk k1
          have HT10 := Aside0.mk (HT9.out.trans k2)
          clear k1 k2 HGO HE
          go_wp2
          go_roundw
          case rel => exact ⟨i + 1, R10, _, (by have := HLT.out; omega), by go_num, ⟨by rw [List.length_set]; exact HF9.out⟩, HC10, HT10⟩
          case measure => (have := HLT.out; simp [intOf]; omega)
        refine AllReadyH.cons rfl (fun K hK => ?_) ?_
        · skip
          go_simp
          refine hK.out _ _ ?_ (fun hHeld => ?_)
          · (try dsimp only); first | go_keep | assumption | exact hal2 _
          clear hK K
          try go_simp
          refine wpAnyH_take (i := 15) (v := ?_) rfl (by kernel_rfl) (by kernel_rfl) (by kernel_rfl) (fun _ _ _ h => h) (Or.inl ⟨by rfl, ?_⟩) (by assumption) ?_
          rotate_left
          · (intro w hSw; (try dsimp only at hSw); (go_simp <;> with_reducible rfl))
          try go_simp
          refine wpAnyH_ready (rs := [5]) (by kernel_rfl) (by simp) ?_
          refine AllReadyH.cons rfl (fun K hK => ?_) AllReadyH.nil
          go_simp
          refine hK.out _ _ ?_ (fun hHeld => ?_)
          · (try dsimp only); first | go_keep | assumption | exact hal2 _
          clear hK K
          try go_simp
          refine wpAnyH_ready (rs := [16]) (by kernel_rfl) (by simp) ?_
          refine AllReadyH.cons rfl (fun K hK => ?_) AllReadyH.nil
          refine stepW (Wb := wr) (s := []) (v := .slice (some ⟨_, 0, none⟩) 0 0) (by repeat (first | exact HZ9.out | apply below_drew1 | refine below_alloc ?_ _)) rfl (.tmp 83) (.tmp 93) rfl (by first | (simp [Act.eval, Act.put]; done) | (simp [Act.eval, Act.put]; rfl)) (bytesEmpty (by repeat (first | with_reducible exact at_new _ (by simp) | with_reducible apply at_drew | with_reducible refine at_old _ ?_)) (by simp)) (u.take m0) (Nat.le_trans (Nat.le_of_eq (Nat.zero_add _)) HTL.out.2) Ab m0 cb (by first | (simp [Act.eval, Act.put]; done) | (simp [Act.eval, Act.put]; rfl)) HTL.out.1 (readsTake (HRE.out _ (by repeat (first | exact HZ9.out | apply below_drew1 | refine below_alloc ?_ _))) m0) ?_
          intro v1 w1 h1 g1
          have HB9 := Aside0.mk g1
          obtain ⟨-, -, s1, -, -⟩ := (HC9.out.step HB9.out).after (Below.refl _ _) (World.grownBy.refl w1 none) (by simp)
          obtain ⟨e1, e2, e3, e4⟩ := HCELL.out _ HB9.out
          have HE := Aside0.mk (HCT.out _ HB9.out _ _ h1 m0)
          obtain ⟨A1, n1, c1, rfl⟩ := own_three h1
          clear h1 g1
          refine hK.out _ _ ?_ (fun hHeld => ?_)
          · (try dsimp only); first | go_keep | assumption | exact hal2 _
          clear hK K
          try go_simp
          refine wpAnyH_take (i := 18) (v := ?_) rfl (by kernel_rfl) (by kernel_rfl) (by kernel_rfl) (fun _ _ _ h => h) (Or.inl ⟨by rfl, ?_⟩) (by assumption) ?_
          rotate_left
          · (intro w hSw; (try dsimp only at hSw); (go_simp <;> with_reducible rfl))
          try go_simp
          refine wpAnyH_take (i := 19) (v := ?_) rfl (by kernel_rfl) (by kernel_rfl) (by kernel_rfl) (fun _ _ _ h => h) (Or.inl ⟨by rfl, ?_⟩) (by assumption) ?_
          rotate_left
          · (intro w hSw; (try dsimp only at hSw); (go_simp <;> with_reducible rfl))
          try go_simp
          refine wpAnyH_ready (rs := [20]) (by kernel_rfl) (by simp) ?_
          refine AllReadyH.cons rfl (fun K hK => ?_) AllReadyH.nil
          go_simp
          refine hK.out _ _ ?_ (fun hHeld => ?_)
          · (try dsimp only); first | go_keep | assumption | exact hal2 _
          clear hK K
          try go_simp
          refine wpAnyH_done (by kernel_rfl) ?_ _
          refine NoPanic.normal ?_
          have HGO := Aside0.mk HE.out
          obtain ⟨R10, k1, k2⟩ := HGO.out
          rw [List.nil_append, HST.out m0 HKK.out, HF9.out] at k1
          have HC10 := Aside0.mk k1
          have HT10 := Aside0.mk (HT9.out.trans k2)
          clear k1 k2 HGO HE
          go_wp2
          go_roundw
          case rel => exact ⟨i + 1, R10, _, (by have := HLT.out; omega), by go_num, ⟨by rw [List.length_set]; exact HF9.out⟩, HC10, HT10⟩
          case measure => (have := HLT.out; simp [intOf]; omega)
        exact AllReadyH.nil
        -- END
      · obtain ⟨kk, hkk⟩ : ∃ kk, s + mn = kk := ⟨_, rfl⟩
        have hadd : IntKind.i64.wrap ((s : Int) + (mn : Int)) = (kk : Int) := by rw [IntWalk.i64_in _ (by omega)]; omega
        have hb1 : (kk : Int) ≤ (cb : Int) := by omega
        have hb2 : (0 : Int) ≤ (kk : Int) := by omega
        have HKK := Aside0.mk (show kk = s + min (max (mn : Int) 0).toNat (u.length - s) by have := HMU.out; omega)
        have HTL := Aside0.mk (show kk = (u.take kk).length ∧ (u.take kk).length ≤ 2000000 by rw [List.length_take]; have := HMU.out; omega)
        clear hkk
        go_wp2
        refine wp_region_noPanic ?_
        refine wp_region_held_drew (S := (fun X => X.cell? ⟨r, 2, none⟩ = some (.slice (some ⟨g, 0, none⟩) Fn cf))) (by kernel_rfl) ?_ (fun hHeld => ?_)
        · (try dsimp only); first | go_keep | assumption | exact hal2 _
        refine wpAnyH_take (i := 0) (v := ?_) rfl (by kernel_rfl) (by kernel_rfl) (by kernel_rfl) (fun _ _ _ h => h) (Or.inl ⟨by rfl, ?_⟩) (by assumption) ?_
        rotate_left
        · (intro w hSw; (try dsimp only at hSw); (go_simp <;> with_reducible rfl))
        try go_simp
        refine wpAnyH_take (i := 1) (v := ?_) rfl (by kernel_rfl) (by kernel_rfl) (by kernel_rfl) (fun _ _ _ h => h) (Or.inl ⟨by rfl, ?_⟩) (by assumption) ?_
        rotate_left
        · (intro w hSw; (try dsimp only at hSw); (go_simp <;> with_reducible rfl))
        try go_simp
        refine wpAnyH_take (i := 2) (v := ?_) rfl (by kernel_rfl) (by kernel_rfl) (by kernel_rfl) (fun _ _ _ h => h) (Or.inl ⟨by rfl, ?_⟩) (by assumption) ?_
        rotate_left
        · (intro w hSw; (try dsimp only at hSw); (go_simp <;> with_reducible rfl))
        try go_simp
        refine wpAnyH_take (i := 3) (v := ?_) rfl (by kernel_rfl) (by kernel_rfl) (by kernel_rfl) (fun _ _ _ h => h) (Or.inl ⟨by rfl, ?_⟩) (by assumption) ?_
        rotate_left
        · (intro w hSw; (try dsimp only at hSw); (go_simp <;> with_reducible rfl))
        try go_simp
        refine wpAnyH_take (i := 4) (v := ?_) rfl (by kernel_rfl) (by kernel_rfl) (by kernel_rfl) (fun _ _ _ h => h) (Or.inl ⟨by rfl, ?_⟩) (by assumption) ?_
        rotate_left
        · (intro w hSw; (try dsimp only at hSw); (go_simp <;> with_reducible rfl))
        try go_simp
        refine wpAnyH_take (i := 6) (v := ?_) rfl (by kernel_rfl) (by kernel_rfl) (by kernel_rfl) (fun _ _ _ h => h) (Or.inl ⟨by rfl, ?_⟩) (by assumption) ?_
        rotate_left
        · (intro w hSw; (try dsimp only at hSw); (go_simp <;> with_reducible rfl))
        try go_simp
        refine wpAnyH_take (i := 7) (v := ?_) rfl (by kernel_rfl) (by kernel_rfl) (by kernel_rfl) (fun _ _ _ h => h) (Or.inl ⟨by rfl, ?_⟩) (by assumption) ?_
        rotate_left
        · (intro w hSw; (try dsimp only at hSw); (go_simp <;> with_reducible rfl))
        try go_simp
        refine wpAnyH_take (i := 8) (v := ?_) rfl (by kernel_rfl) (by kernel_rfl) (by kernel_rfl) (fun _ _ _ h => h) (Or.inl ⟨by rfl, ?_⟩) (by assumption) ?_
        rotate_left
        · (intro w hSw; (try dsimp only at hSw); (go_simp <;> with_reducible rfl))
        try go_simp
        refine wpAnyH_take (i := 9) (v := ?_) rfl (by kernel_rfl) (by kernel_rfl) (by kernel_rfl) (fun _ _ _ h => h) (Or.inl ⟨by rfl, ?_⟩) (by assumption) ?_
        rotate_left
        · (intro w hSw; (try dsimp only at hSw); (go_simp <;> with_reducible rfl))
        try go_simp
        refine wpAnyH_take (i := 10) (v := ?_) rfl (by kernel_rfl) (by kernel_rfl) (by kernel_rfl) (fun _ _ _ h => h) (Or.inl ⟨by rfl, ?_⟩) (by assumption) ?_
        rotate_left
        · (intro w hSw; (try dsimp only at hSw); (go_simp <;> with_reducible rfl))
        try go_simp
        refine wpAnyH_take (i := 11) (v := ?_) rfl (by kernel_rfl) (by kernel_rfl) (by kernel_rfl) (fun _ _ _ h => h) (Or.inl ⟨by rfl, ?_⟩) (by assumption) ?_
        rotate_left
        · (intro w hSw; (try dsimp only at hSw); (go_simp <;> with_reducible rfl))
        try go_simp
        refine wpAnyH_take (i := 12) (v := ?_) rfl (by kernel_rfl) (by kernel_rfl) (by kernel_rfl) (fun _ _ _ h => h) (Or.inl ⟨by rfl, ?_⟩) (by assumption) ?_
        rotate_left
        · (intro w hSw; (try dsimp only at hSw); (go_simp <;> with_reducible rfl))
        try go_simp
        refine wpAnyH_take (i := 14) (v := ?_) rfl (by kernel_rfl) (by kernel_rfl) (by kernel_rfl) (fun _ _ _ h => h) (Or.inl ⟨by rfl, ?_⟩) (by assumption) ?_
        rotate_left
        · (intro w hSw; (try dsimp only at hSw); (go_simp <;> with_reducible rfl))
        try go_simp
        refine wpAnyH_take (i := 17) (v := ?_) rfl (by kernel_rfl) (by kernel_rfl) (by kernel_rfl) (fun _ _ _ h => h) (Or.inl ⟨by rfl, ?_⟩) (by assumption) ?_
        rotate_left
        · (intro w hSw; (try dsimp only at hSw); (go_simp <;> with_reducible rfl))
        try go_simp
        refine wpAnyH_ready (rs := [5, 13]) (by kernel_rfl) (by simp) ?_
        refine AllReadyH.cons rfl (fun K hK => ?_) ?_
        · skip
          go_simp
          refine hK.out _ _ ?_ (fun hHeld => ?_)
          · (try dsimp only); first | go_keep | assumption | exact hal2 _
          clear hK K
          try go_simp
          refine wpAnyH_ready (rs := [13]) (by kernel_rfl) (by simp) ?_
          refine AllReadyH.cons rfl (fun K hK => ?_) AllReadyH.nil
          go_simp
          refine hK.out _ _ ?_ (fun hHeld => ?_)
          · (try dsimp only); first | go_keep | assumption | exact hal2 _
          clear hK K
          try go_simp
          refine wpAnyH_take (i := 15) (v := ?_) rfl (by kernel_rfl) (by kernel_rfl) (by kernel_rfl) (fun _ _ _ h => h) (Or.inl ⟨by rfl, ?_⟩) (by assumption) ?_
          rotate_left
          · (intro w hSw; (try dsimp only at hSw); (go_simp <;> with_reducible rfl))
          try go_simp
          refine wpAnyH_ready (rs := [16]) (by kernel_rfl) (by simp) ?_
          refine AllReadyH.cons rfl (fun K hK => ?_) AllReadyH.nil
          refine stepW (Wb := wr) (s := []) (v := .slice (some ⟨_, 0, none⟩) 0 0) (by repeat (first | exact HZ9.out | apply below_drew1 | refine below_alloc ?_ _)) rfl (.tmp 83) (.tmp 93) rfl (by first | (simp [Act.eval, Act.put]; done) | (simp [Act.eval, Act.put]; rfl)) (bytesEmpty (by repeat (first | with_reducible exact at_new _ (by simp) | with_reducible apply at_drew | with_reducible refine at_old _ ?_)) (by simp)) (u.take kk) (Nat.le_trans (Nat.le_of_eq (Nat.zero_add _)) HTL.out.2) Ab kk cb (by first | (simp [Act.eval, Act.put]; done) | (simp [Act.eval, Act.put]; rfl)) HTL.out.1 (readsTake (HRE.out _ (by repeat (first | exact HZ9.out | apply below_drew1 | refine below_alloc ?_ _))) kk) ?_
          intro v1 w1 h1 g1
          have HB9 := Aside0.mk g1
          obtain ⟨-, -, s1, -, -⟩ := (HC9.out.step HB9.out).after (Below.refl _ _) (World.grownBy.refl w1 none) (by simp)
          obtain ⟨e1, e2, e3, e4⟩ := HCELL.out _ HB9.out
          have HE := Aside0.mk (HCT.out _ HB9.out _ _ h1 kk)
          obtain ⟨A1, n1, c1, rfl⟩ := own_three h1
          clear h1 g1
          refine hK.out _ _ ?_ (fun hHeld => ?_)
          · (try dsimp only); first | go_keep | assumption | exact hal2 _
          clear hK K
          try go_simp
          refine wpAnyH_take (i := 18) (v := ?_) rfl (by kernel_rfl) (by kernel_rfl) (by kernel_rfl) (fun _ _ _ h => h) (Or.inl ⟨by rfl, ?_⟩) (by assumption) ?_
          rotate_left
          · (intro w hSw; (try dsimp only at hSw); (go_simp <;> with_reducible rfl))
          try go_simp
          refine wpAnyH_take (i := 19) (v := ?_) rfl (by kernel_rfl) (by kernel_rfl) (by kernel_rfl) (fun _ _ _ h => h) (Or.inl ⟨by rfl, ?_⟩) (by assumption) ?_
          rotate_left
          · (intro w hSw; (try dsimp only at hSw); (go_simp <;> with_reducible rfl))
          try go_simp
          refine wpAnyH_ready (rs := [20]) (by kernel_rfl) (by simp) ?_
          refine AllReadyH.cons rfl (fun K hK => ?_) AllReadyH.nil
          go_simp
          refine hK.out _ _ ?_ (fun hHeld => ?_)
          · (try dsimp only); first | go_keep | assumption | exact hal2 _
          clear hK K
          try go_simp
          refine wpAnyH_done (by kernel_rfl) ?_ _
          refine NoPanic.normal ?_
          have HGO := Aside0.mk HE.out
          obtain ⟨R10, k1, k2⟩ := HGO.out
          rw [List.nil_append, HST.out kk HKK.out, HF9.out] at k1
          have HC10 := Aside0.mk k1
          have HT10 := Aside0.mk (HT9.out.trans k2)
          clear k1 k2 HGO HE
          go_wp2
          go_roundw
          case rel => exact ⟨i + 1, R10, _, (by have := HLT.out; omega), by go_num, ⟨by rw [List.length_set]; exact HF9.out⟩, HC10, HT10⟩
          case measure => (have := HLT.out; simp [intOf]; omega)
        refine AllReadyH.cons rfl (fun K hK => ?_) ?_
        · skip
          go_simp
          refine hK.out _ _ ?_ (fun hHeld => ?_)
          · (try dsimp only); first | go_keep | assumption | exact hal2 _
          clear hK K
          try go_simp
          refine wpAnyH_take (i := 15) (v := ?_) rfl (by kernel_rfl) (by kernel_rfl) (by kernel_rfl) (fun _ _ _ h => h) (Or.inl ⟨by rfl, ?_⟩) (by assumption) ?_
          rotate_left
          · (intro w hSw; (try dsimp only at hSw); (go_simp <;> with_reducible rfl))
          try go_simp
          refine wpAnyH_ready (rs := [5]) (by kernel_rfl) (by simp) ?_
          refine AllReadyH.cons rfl (fun K hK => ?_) AllReadyH.nil
          go_simp
          refine hK.out _ _ ?_ (fun hHeld => ?_)
          · (try dsimp only); first | go_keep | assumption | exact hal2 _
          clear hK K
          try go_simp
          refine wpAnyH_ready (rs := [16]) (by kernel_rfl) (by simp) ?_
          refine AllReadyH.cons rfl (fun K hK => ?_) AllReadyH.nil
          refine stepW (Wb := wr) (s := []) (v := .slice (some ⟨_, 0, none⟩) 0 0) (by repeat (first | exact HZ9.out | apply below_drew1 | refine below_alloc ?_ _)) rfl (.tmp 83) (.tmp 93) rfl (by first | (simp [Act.eval, Act.put]; done) | (simp [Act.eval, Act.put]; rfl)) (bytesEmpty (by repeat (first | with_reducible exact at_new _ (by simp) | with_reducible apply at_drew | with_reducible refine at_old _ ?_)) (by simp)) (u.take kk) (Nat.le_trans (Nat.le_of_eq (Nat.zero_add _)) HTL.out.2) Ab kk cb (by first | (simp [Act.eval, Act.put]; done) | (simp [Act.eval, Act.put]; rfl)) HTL.out.1 (readsTake (HRE.out _ (by repeat (first | exact HZ9.out | apply below_drew1 | refine below_alloc ?_ _))) kk) ?_
          intro v1 w1 h1 g1
          have HB9 := Aside0.mk g1
          obtain ⟨-, -, s1, -, -⟩ := (HC9.out.step HB9.out).after (Below.refl _ _) (World.grownBy.refl w1 none) (by simp)
          obtain ⟨e1, e2, e3, e4⟩ := HCELL.out _ HB9.out
          have HE := Aside0.mk (HCT.out _ HB9.out _ _ h1 kk)
          obtain ⟨A1, n1, c1, rfl⟩ := own_three h1
          clear h1 g1
          refine hK.out _ _ ?_ (fun hHeld => ?_)
          · (try dsimp only); first | go_keep | assumption | exact hal2 _
          clear hK K
          try go_simp
          refine wpAnyH_take (i := 18) (v := ?_) rfl (by kernel_rfl) (by kernel_rfl) (by kernel_rfl) (fun _ _ _ h => h) (Or.inl ⟨by rfl, ?_⟩) (by assumption) ?_
          rotate_left
          · (intro w hSw; (try dsimp only at hSw); (go_simp <;> with_reducible rfl))
          try go_simp
          refine wpAnyH_take (i := 19) (v := ?_) rfl (by kernel_rfl) (by kernel_rfl) (by kernel_rfl) (fun _ _ _ h => h) (Or.inl ⟨by rfl, ?_⟩) (by assumption) ?_
          rotate_left
          · (intro w hSw; (try dsimp only at hSw); (go_simp <;> with_reducible rfl))
          try go_simp
          refine wpAnyH_ready (rs := [20]) (by kernel_rfl) (by simp) ?_
          refine AllReadyH.cons rfl (fun K hK => ?_) AllReadyH.nil
          go_simp
          refine hK.out _ _ ?_ (fun hHeld => ?_)
          · (try dsimp only); first | go_keep | assumption | exact hal2 _
          clear hK K
          try go_simp
          refine wpAnyH_done (by kernel_rfl) ?_ _
          refine NoPanic.normal ?_
          have HGO := Aside0.mk HE.out
          obtain ⟨R10, k1, k2⟩ := HGO.out
          rw [List.nil_append, HST.out kk HKK.out, HF9.out] at k1
          have HC10 := Aside0.mk k1
          have HT10 := Aside0.mk (HT9.out.trans k2)
          clear k1 k2 HGO HE
          go_wp2
          go_roundw
          case rel => exact ⟨i + 1, R10, _, (by have := HLT.out; omega), by go_num, ⟨by rw [List.length_set]; exact HF9.out⟩, HC10, HT10⟩
          case measure => (have := HLT.out; simp [intOf]; omega)
        exact AllReadyH.nil
        -- END
    · obtain ⟨-, -, -, -, p4, p5⟩ := HC9.out.cells
      have q4 := HC9.out.frozen 4
      have q5 := HC9.out.frozen 5
      have HEND := Aside0.mk (crashEndR HC9.out)
      have HIE := Aside0.mk (show i = d.files.length by rw [HFN.out]; omega)
      go_wp2
      go_end0
      have h9 := RTurn.trans HT9.out HEND.out
      rw [HIE.out] at h9
      exact ⟨rfl, h9⟩
end Go.Proofs.Ytibmgcihpbofdaa.Fs
namespace Go.Proofs.Ytibmgcihpbofdaa.Fs
open Go.RowKit Go.Proofs.Ytibmgcihpbofdaa Go.Proofs.Ytibmgcihpbofdaa.Plain Go.Proofs.YtibmgcihpbofdaaW.PrintWords Go.Maps
set_option linter.unusedVariables false
set_option linter.unusedSimpArgs false
set_option maxHeartbeats 4000000 in
set_option maxRecDepth 100000 in
theorem crashno0 {w0 W : World} {r : Nat} {d : RDisk} {R : Nat → Prop} {N : Nat} (h : RAt w0 r d R W) (hok : ROk d N) (hN : N ≤ 900000) (nn : Int) (mm : Int) (hm : mm < 0) (hn : nn < 0) (hL : d.loose.length = 0) :
    Calls Try.prog 44 #[.pointer (some ⟨r, 0, none⟩), .int .i64 nn, .int .i64 mm] W fun e W' => e = .returned (.tuple #[]) ∧ RTurn w0 r { mid d 0 (0 : Int) d.files.length with fuse := -1, off := false } R W W' := by
  obtain ⟨vs, vl, vf, fl, c0⟩ := h
  obtain ⟨⟨As, cs, rfl⟩, ⟨Al, cl, rfl⟩, ⟨Af, cf, rfl⟩⟩ := c0.slices
  have HOK := Aside0.mk hok
  have HN := Aside0.mk hN
  have HFL := Aside0.mk c0.len
  obtain ⟨Fn, hFn⟩ : ∃ Fn, fl.length = Fn := ⟨_, rfl⟩
  have HFN := Aside0.mk (show d.files.length = Fn by rw [← hFn]; exact c0.len)
  obtain ⟨p0, p1, p2, -, -, -⟩ := c0.cells
  have q1 := c0.frozen 1
  have et : ({ d with loose := d.loose.take (0) } : RDisk) = d := by rw [List.take_of_length_le (by omega)]
  have HC1 : Aside0 (RCore w0 W r { d with loose := d.loose.take (0) } R (.slice As d.sure.length cs) (.slice Al d.loose.length cl) (.slice Af fl.length cf) fl) := ⟨by rw [et]; exact c0⟩
  have HT1 := Aside0.mk (Turn.refl R W)
  obtain ⟨L, hL'⟩ : ∃ L, d.loose.length = L := ⟨_, rfl⟩
  have HLL := Aside0.mk hL'
  rw [hL'] at p1 hL
  subst hL
  clear hL' et
  rw [hFn] at p2 HC1
  clear hFn
  have hfb : Fn ≤ 900000 := by rw [← HFN.out]; have := hok.many.2; omega
  clear c0 hok hN
  go_enter Try.func44, Try.ntmps44
  go_wp2_with (go_at_call 46; refine (dirIs ⟨_, _, _, _, HC1.out⟩ (HOK.out.cut _) (by have := HN.out; omega)).mono ?_; rintro e W8 ⟨v8, rfl, hD⟩; obtain ⟨R8, k1, k2⟩ := firmEnd HC1.out hD (p' := mid d (0) (0 : Int) 0) (mid_zero _ _ _); have HC8 := Aside0.mk k1; have HT8 := Aside0.mk (HT1.out.trans k2); have hc8 := HC1.out.step hD.below; obtain ⟨A8, n8, c8, rfl⟩ := own_three hD.row; clear p0 p1 p2 q1; obtain ⟨p0, p1, -, -, -, -⟩ := hc8.cells; have q0 := hc8.frozen 0; have q1 := hc8.frozen 1; clear hc8 hD k1 k2)
  obtain ⟨w8, hw8⟩ : ∃ w8, (W8.setCell ⟨r, 0, none⟩ (.slice A8 n8 c8)).setCell ⟨r, 1, none⟩ (.slice none 0 0) = w8 := ⟨_, rfl⟩
  rw [hw8] at HC8 HT8 ⊢
  clear hw8 p0 p1 q0 q1 HC1 HT1
  go_loopw [6, 7] (fun v6 v7 wr => ∃ (i : Nat) (R9 : Nat → Prop) (fl9 : List RFile), i ≤ Fn ∧ v6 = .int .i64 i ∧ Aside0 (fl9.length = Fn) ∧ Aside0 (RCore w0 wr r (mid d (0) (0 : Int) i) R9 (.slice A8 n8 c8) (.slice none 0 0) (.slice Af Fn cf) fl9) ∧ Aside0 (Turn R W R9 wr)) (fun v6 _ _ => Fn - (intOf v6).toNat)
  case atStart => exact ⟨0, R8, fl, by omega, rfl, ⟨HFL.out.symm.trans HFN.out⟩, HC8, HT8⟩
  case round =>
    obtain ⟨i, R9, fl9, hi, rfl, HF9, HC9, HT9⟩ := hrel
    obtain ⟨-, -, p2, -, -, -⟩ := HC9.out.cells
    by_cases hlt : i < Fn
    · have hif : i < fl9.length := by rw [HF9.out]; exact hlt
      obtain ⟨g, cf', efl, -, -, f0, f1, fr0, fr1⟩ := HC9.out.file i hif
      injection efl with efl e2 e3
      clear e2
      subst efl
      subst e3
      have hgr : g ≠ r := (HC9.out.ne.2.2.1 g rfl).1
      have HLT := Aside0.mk hlt
      have hid : i < d.files.length := by rw [HFN.out]; exact hlt
      have hqd : fl9[i].2 = d.files[i] := by
        have h1 := mid_at (d := d) (k := (0)) (M := (0 : Int)) hid
        rw [HC9.out.eq, List.getElem?_map, List.getElem?_eq_getElem hif] at h1
        exact Option.some.inj h1
      have hfm := HOK.out.firm _ (List.getElem_mem hid)
      have HEB := Aside0.mk (HC9.out.each _ (List.getElem_mem hif))
      have HCT := Aside0.mk (fun (X : World) (hX : Below wr.heap.size wr X) (v : Value) (b : List UInt8) (hv : BytesIs X wr.heap.size v b) (m : Nat) => fileCut (show RCore w0 wr r (mid d (0) (0 : Int) i) R9 (.slice A8 n8 c8) (.slice none 0 0) (.slice (some ⟨g, 0, none⟩) fl9.length cf) fl9 by rw [HF9.out]; exact HC9.out) i hif hX hv m)
      have HCELL := Aside0.mk (fun (X : World) (hX : Below wr.heap.size wr X) => fileCells (show RCore w0 wr r (mid d (0) (0 : Int) i) R9 (.slice A8 n8 c8) (.slice none 0 0) (.slice (some ⟨g, 0, none⟩) fl9.length cf) fl9 by rw [HF9.out]; exact HC9.out) hif hX)
      obtain ⟨q, hq⟩ : ∃ q, fl9[i] = q := ⟨_, rfl⟩
      rw [hq] at f0 f1 hqd HEB HCELL
      obtain ⟨bv, u, s⟩ := q
      have HQD := Aside0.mk (show d.files[i] = (u, s) from hqd.symm)
      have HST := Aside0.mk (fun (m : Nat) (hm : m = s + min (max (0 : Int) 0).toNat (u.length - s)) => mid_step (k := (0)) (M := (0 : Int)) hid hqd.symm hm)
      rw [← hqd] at hfm
      have hs1 : s ≤ u.length := hfm.1
      have hs2 : u.length ≤ N := hfm.2
      have hbb : ∃ A c, bv = .slice A (B u).length c := own_slice HEB.out
      obtain ⟨Ab, cb, rfl⟩ := hbb
      have hcap : (B u).length ≤ cb := rowCap HEB.out
      have HRE := Aside0.mk (fun X (hX : Below wr.heap.size wr X) => bytesReads (BytesIs.below HEB.out hX))
      obtain ⟨m0, hm0'⟩ : ∃ m0, (B u).length = m0 := ⟨_, rfl⟩
      have hmu : m0 = u.length := by rw [← hm0', B_length]
      simp only [hm0'] at f0 HCELL hcap
      have HMU := Aside0.mk hmu
      have hsl : s ≤ m0 := by omega
      have hml : m0 ≤ 900000 := by have := HN.out; omega
      have HSL := Aside0.mk hsl
      have hw1 : IntKind.i64.wrap ((m0 : Int) - (s : Int)) = (m0 : Int) - (s : Int) := IntWalk.i64_in _ (by omega)
      have HZ9 := Aside0.mk (Below.refl wr.heap.size wr)
      have hal2 : ∀ o : Obj, (wr.alloc o).cell? ⟨r, 2, none⟩ = some (.slice (some ⟨g, 0, none⟩) Fn cf) := fun o => (HC9.out.step (below_alloc (Below.refl _ _) o)).cells.2.2.1
      have hal3 : ∀ o : Obj, (wr.alloc o).cell? ⟨g, i * 2, none⟩ = some (.slice Ab m0 cb) := fun o => (HCELL.out _ (below_alloc (Below.refl _ _) o)).1
      clear hq hqd hfm hs1 hs2 hm0' hmu
      have hM : ¬ (0 : Int) > (m0 : Int) - (s : Int) := by omega
      have hadd : IntKind.i64.wrap (s : Int) = (s : Int) := IntWalk.i64_in _ (by omega)
      have hb1 : (s : Int) ≤ (cb : Int) := by omega
      have HKK := Aside0.mk (show s = s + min (max (0 : Int) 0).toNat (u.length - s) by simp)
      have HTL := Aside0.mk (show s = (u.take s).length ∧ (u.take s).length ≤ 2000000 by rw [List.length_take]; have := HMU.out; omega)
      go_wp2
      refine wp_region_noPanic ?_
      refine wp_region_held_drew (S := (fun X => X.cell? ⟨r, 2, none⟩ = some (.slice (some ⟨g, 0, none⟩) Fn cf))) (by kernel_rfl) ?_ (fun hHeld => ?_)
      · (try dsimp only); first | go_keep | assumption | exact hal2 _
      refine wpAnyH_take (i := 0) (v := ?_) rfl (by kernel_rfl) (by kernel_rfl) (by kernel_rfl) (fun _ _ _ h => h) (Or.inl ⟨by rfl, ?_⟩) (by assumption) ?_
      rotate_left
      · (intro w hSw; (try dsimp only at hSw); (go_simp <;> with_reducible rfl))
      try go_simp
      refine wpAnyH_take (i := 1) (v := ?_) rfl (by kernel_rfl) (by kernel_rfl) (by kernel_rfl) (fun _ _ _ h => h) (Or.inl ⟨by rfl, ?_⟩) (by assumption) ?_
      rotate_left
      · (intro w hSw; (try dsimp only at hSw); (go_simp <;> with_reducible rfl))
      try go_simp
      refine wpAnyH_take (i := 2) (v := ?_) rfl (by kernel_rfl) (by kernel_rfl) (by kernel_rfl) (fun _ _ _ h => h) (Or.inl ⟨by rfl, ?_⟩) (by assumption) ?_
      rotate_left
      · (intro w hSw; (try dsimp only at hSw); (go_simp <;> with_reducible rfl))
      try go_simp
      refine wpAnyH_take (i := 3) (v := ?_) rfl (by kernel_rfl) (by kernel_rfl) (by kernel_rfl) (fun _ _ _ h => h) (Or.inl ⟨by rfl, ?_⟩) (by assumption) ?_
      rotate_left
      · (intro w hSw; (try dsimp only at hSw); (go_simp <;> with_reducible rfl))
      try go_simp
      refine wpAnyH_take (i := 4) (v := ?_) rfl (by kernel_rfl) (by kernel_rfl) (by kernel_rfl) (fun _ _ _ h => h) (Or.inl ⟨by rfl, ?_⟩) (by assumption) ?_
      rotate_left
      · (intro w hSw; (try dsimp only at hSw); (go_simp <;> with_reducible rfl))
      try go_simp
      refine wpAnyH_take (i := 6) (v := ?_) rfl (by kernel_rfl) (by kernel_rfl) (by kernel_rfl) (fun _ _ _ h => h) (Or.inl ⟨by rfl, ?_⟩) (by assumption) ?_
      rotate_left
      · (intro w hSw; (try dsimp only at hSw); (go_simp <;> with_reducible rfl))
      try go_simp
      refine wpAnyH_take (i := 7) (v := ?_) rfl (by kernel_rfl) (by kernel_rfl) (by kernel_rfl) (fun _ _ _ h => h) (Or.inl ⟨by rfl, ?_⟩) (by assumption) ?_
      rotate_left
      · (intro w hSw; (try dsimp only at hSw); (go_simp <;> with_reducible rfl))
      try go_simp
      refine wpAnyH_take (i := 8) (v := ?_) rfl (by kernel_rfl) (by kernel_rfl) (by kernel_rfl) (fun _ _ _ h => h) (Or.inl ⟨by rfl, ?_⟩) (by assumption) ?_
      rotate_left
      · (intro w hSw; (try dsimp only at hSw); (go_simp <;> with_reducible rfl))
      try go_simp
      refine wpAnyH_take (i := 9) (v := ?_) rfl (by kernel_rfl) (by kernel_rfl) (by kernel_rfl) (fun _ _ _ h => h) (Or.inl ⟨by rfl, ?_⟩) (by assumption) ?_
      rotate_left
      · (intro w hSw; (try dsimp only at hSw); (go_simp <;> with_reducible rfl))
      try go_simp
      refine wpAnyH_take (i := 10) (v := ?_) rfl (by kernel_rfl) (by kernel_rfl) (by kernel_rfl) (fun _ _ _ h => h) (Or.inl ⟨by rfl, ?_⟩) (by assumption) ?_
      rotate_left
      · (intro w hSw; (try dsimp only at hSw); (go_simp <;> with_reducible rfl))
      try go_simp
      refine wpAnyH_take (i := 11) (v := ?_) rfl (by kernel_rfl) (by kernel_rfl) (by kernel_rfl) (fun _ _ _ h => h) (Or.inl ⟨by rfl, ?_⟩) (by assumption) ?_
      rotate_left
      · (intro w hSw; (try dsimp only at hSw); (go_simp <;> with_reducible rfl))
      try go_simp
      refine wpAnyH_take (i := 12) (v := ?_) rfl (by kernel_rfl) (by kernel_rfl) (by kernel_rfl) (fun _ _ _ h => h) (Or.inl ⟨by rfl, ?_⟩) (by assumption) ?_
      rotate_left
      · (intro w hSw; (try dsimp only at hSw); (go_simp <;> with_reducible rfl))
      try go_simp
      refine wpAnyH_take (i := 14) (v := ?_) rfl (by kernel_rfl) (by kernel_rfl) (by kernel_rfl) (fun _ _ _ h => h) (Or.inl ⟨by rfl, ?_⟩) (by assumption) ?_
      rotate_left
      · (intro w hSw; (try dsimp only at hSw); (go_simp <;> with_reducible rfl))
      try go_simp
      refine wpAnyH_take (i := 17) (v := ?_) rfl (by kernel_rfl) (by kernel_rfl) (by kernel_rfl) (fun _ _ _ h => h) (Or.inl ⟨by rfl, ?_⟩) (by assumption) ?_
      rotate_left
      · (intro w hSw; (try dsimp only at hSw); (go_simp <;> with_reducible rfl))
      try go_simp
      refine wpAnyH_ready (rs := [5, 13]) (by kernel_rfl) (by simp) ?_
      refine AllReadyH.cons rfl (fun K hK => ?_) ?_
      · skip
        go_simp
        refine hK.out _ _ ?_ (fun hHeld => ?_)
        · (try dsimp only); first | go_keep | assumption | exact hal2 _
        clear hK K
        try go_simp
        refine wpAnyH_ready (rs := [13]) (by kernel_rfl) (by simp) ?_
        refine AllReadyH.cons rfl (fun K hK => ?_) AllReadyH.nil
        go_simp
        refine hK.out _ _ ?_ (fun hHeld => ?_)
        · (try dsimp only); first | go_keep | assumption | exact hal2 _
        clear hK K
        try go_simp
        refine wpAnyH_take (i := 15) (v := ?_) rfl (by kernel_rfl) (by kernel_rfl) (by kernel_rfl) (fun _ _ _ h => h) (Or.inl ⟨by rfl, ?_⟩) (by assumption) ?_
        rotate_left
        · (intro w hSw; (try dsimp only at hSw); (go_simp <;> with_reducible rfl))
        try go_simp
        refine wpAnyH_ready (rs := [16]) (by kernel_rfl) (by simp) ?_
        refine AllReadyH.cons rfl (fun K hK => ?_) AllReadyH.nil
        refine stepW (Wb := wr) (s := []) (v := .slice (some ⟨_, 0, none⟩) 0 0) (by repeat (first | exact HZ9.out | apply below_drew1 | refine below_alloc ?_ _)) rfl (.tmp 83) (.tmp 93) rfl (by first | (simp [Act.eval, Act.put]; done) | (simp [Act.eval, Act.put]; rfl)) (bytesEmpty (by repeat (first | with_reducible exact at_new _ (by simp) | with_reducible apply at_drew | with_reducible refine at_old _ ?_)) (by simp)) (u.take s) (Nat.le_trans (Nat.le_of_eq (Nat.zero_add _)) HTL.out.2) Ab s cb (by first | (simp [Act.eval, Act.put]; done) | (simp [Act.eval, Act.put]; rfl)) HTL.out.1 (readsTake (HRE.out _ (by repeat (first | exact HZ9.out | apply below_drew1 | refine below_alloc ?_ _))) s) ?_
        intro v1 w1 h1 g1
        have HB9 := Aside0.mk g1
        obtain ⟨-, -, s1, -, -⟩ := (HC9.out.step HB9.out).after (Below.refl _ _) (World.grownBy.refl w1 none) (by simp)
        obtain ⟨e1, e2, e3, e4⟩ := HCELL.out _ HB9.out
        have HE := Aside0.mk (HCT.out _ HB9.out _ _ h1 s)
        obtain ⟨A1, n1, c1, rfl⟩ := own_three h1
        clear h1 g1
        refine hK.out _ _ ?_ (fun hHeld => ?_)
        · (try dsimp only); first | go_keep | assumption | exact hal2 _
        clear hK K
        try go_simp
        refine wpAnyH_take (i := 18) (v := ?_) rfl (by kernel_rfl) (by kernel_rfl) (by kernel_rfl) (fun _ _ _ h => h) (Or.inl ⟨by rfl, ?_⟩) (by assumption) ?_
        rotate_left
        · (intro w hSw; (try dsimp only at hSw); (go_simp <;> with_reducible rfl))
        try go_simp
        refine wpAnyH_take (i := 19) (v := ?_) rfl (by kernel_rfl) (by kernel_rfl) (by kernel_rfl) (fun _ _ _ h => h) (Or.inl ⟨by rfl, ?_⟩) (by assumption) ?_
        rotate_left
        · (intro w hSw; (try dsimp only at hSw); (go_simp <;> with_reducible rfl))
        try go_simp
        refine wpAnyH_ready (rs := [20]) (by kernel_rfl) (by simp) ?_
        refine AllReadyH.cons rfl (fun K hK => ?_) AllReadyH.nil
        go_simp
        refine hK.out _ _ ?_ (fun hHeld => ?_)
        · (try dsimp only); first | go_keep | assumption | exact hal2 _
        clear hK K
        try go_simp
        refine wpAnyH_done (by kernel_rfl) ?_ _
        refine NoPanic.normal ?_
        have HGO := Aside0.mk HE.out
        obtain ⟨R10, k1, k2⟩ := HGO.out
        rw [List.nil_append, HST.out s HKK.out, HF9.out] at k1
        have HC10 := Aside0.mk k1
        have HT10 := Aside0.mk (HT9.out.trans k2)
        clear k1 k2 HGO HE
        go_wp2
        go_roundw
        case rel => exact ⟨i + 1, R10, _, (by have := HLT.out; omega), by go_num, ⟨by rw [List.length_set]; exact HF9.out⟩, HC10, HT10⟩
        case measure => (have := HLT.out; simp [intOf]; omega)
      refine AllReadyH.cons rfl (fun K hK => ?_) ?_
      · skip
        go_simp
        refine hK.out _ _ ?_ (fun hHeld => ?_)
        · (try dsimp only); first | go_keep | assumption | exact hal2 _
        clear hK K
        try go_simp
        refine wpAnyH_take (i := 15) (v := ?_) rfl (by kernel_rfl) (by kernel_rfl) (by kernel_rfl) (fun _ _ _ h => h) (Or.inl ⟨by rfl, ?_⟩) (by assumption) ?_
        rotate_left
        · (intro w hSw; (try dsimp only at hSw); (go_simp <;> with_reducible rfl))
        try go_simp
        refine wpAnyH_ready (rs := [5]) (by kernel_rfl) (by simp) ?_
        refine AllReadyH.cons rfl (fun K hK => ?_) AllReadyH.nil
        go_simp
        refine hK.out _ _ ?_ (fun hHeld => ?_)
        · (try dsimp only); first | go_keep | assumption | exact hal2 _
        clear hK K
        try go_simp
        refine wpAnyH_ready (rs := [16]) (by kernel_rfl) (by simp) ?_
        refine AllReadyH.cons rfl (fun K hK => ?_) AllReadyH.nil
        refine stepW (Wb := wr) (s := []) (v := .slice (some ⟨_, 0, none⟩) 0 0) (by repeat (first | exact HZ9.out | apply below_drew1 | refine below_alloc ?_ _)) rfl (.tmp 83) (.tmp 93) rfl (by first | (simp [Act.eval, Act.put]; done) | (simp [Act.eval, Act.put]; rfl)) (bytesEmpty (by repeat (first | with_reducible exact at_new _ (by simp) | with_reducible apply at_drew | with_reducible refine at_old _ ?_)) (by simp)) (u.take s) (Nat.le_trans (Nat.le_of_eq (Nat.zero_add _)) HTL.out.2) Ab s cb (by first | (simp [Act.eval, Act.put]; done) | (simp [Act.eval, Act.put]; rfl)) HTL.out.1 (readsTake (HRE.out _ (by repeat (first | exact HZ9.out | apply below_drew1 | refine below_alloc ?_ _))) s) ?_
        intro v1 w1 h1 g1
        have HB9 := Aside0.mk g1
        obtain ⟨-, -, s1, -, -⟩ := (HC9.out.step HB9.out).after (Below.refl _ _) (World.grownBy.refl w1 none) (by simp)
        obtain ⟨e1, e2, e3, e4⟩ := HCELL.out _ HB9.out
        have HE := Aside0.mk (HCT.out _ HB9.out _ _ h1 s)
        obtain ⟨A1, n1, c1, rfl⟩ := own_three h1
        clear h1 g1
        refine hK.out _ _ ?_ (fun hHeld => ?_)
        · (try dsimp only); first | go_keep | assumption | exact hal2 _
        clear hK K
        try go_simp
        refine wpAnyH_take (i := 18) (v := ?_) rfl (by kernel_rfl) (by kernel_rfl) (by kernel_rfl) (fun _ _ _ h => h) (Or.inl ⟨by rfl, ?_⟩) (by assumption) ?_
        rotate_left
        · (intro w hSw; (try dsimp only at hSw); (go_simp <;> with_reducible rfl))
        try go_simp
        refine wpAnyH_take (i := 19) (v := ?_) rfl (by kernel_rfl) (by kernel_rfl) (by kernel_rfl) (fun _ _ _ h => h) (Or.inl ⟨by rfl, ?_⟩) (by assumption) ?_
        rotate_left
        · (intro w hSw; (try dsimp only at hSw); (go_simp <;> with_reducible rfl))
        try go_simp
        refine wpAnyH_ready (rs := [20]) (by kernel_rfl) (by simp) ?_
        refine AllReadyH.cons rfl (fun K hK => ?_) AllReadyH.nil
        go_simp
        refine hK.out _ _ ?_ (fun hHeld => ?_)
        · (try dsimp only); first | go_keep | assumption | exact hal2 _
        clear hK K
        try go_simp
        refine wpAnyH_done (by kernel_rfl) ?_ _
        refine NoPanic.normal ?_
        have HGO := Aside0.mk HE.out
        obtain ⟨R10, k1, k2⟩ := HGO.out
        rw [List.nil_append, HST.out s HKK.out, HF9.out] at k1
        have HC10 := Aside0.mk k1
        have HT10 := Aside0.mk (HT9.out.trans k2)
        clear k1 k2 HGO HE
        go_wp2
        go_roundw
        case rel => exact ⟨i + 1, R10, _, (by have := HLT.out; omega), by go_num, ⟨by rw [List.length_set]; exact HF9.out⟩, HC10, HT10⟩
        case measure => (have := HLT.out; simp [intOf]; omega)
      exact AllReadyH.nil
      -- END
    · obtain ⟨-, -, -, -, p4, p5⟩ := HC9.out.cells
      have q4 := HC9.out.frozen 4
      have q5 := HC9.out.frozen 5
      have HEND := Aside0.mk (crashEndR HC9.out)
      have HIE := Aside0.mk (show i = d.files.length by rw [HFN.out]; omega)
      go_wp2
      go_end0
      have h9 := RTurn.trans HT9.out HEND.out
      rw [HIE.out] at h9
      exact ⟨rfl, h9⟩
end Go.Proofs.Ytibmgcihpbofdaa.Fs
namespace Go.Proofs.Ytibmgcihpbofdaa.Fs
open Go.RowKit Go.Proofs.Ytibmgcihpbofdaa Go.Proofs.Ytibmgcihpbofdaa.Plain Go.Proofs.YtibmgcihpbofdaaW.PrintWords Go.Maps
set_option linter.unusedVariables false
set_option linter.unusedSimpArgs false
set_option maxHeartbeats 4000000 in
set_option maxRecDepth 100000 in
theorem crashno1 {w0 W : World} {r : Nat} {d : RDisk} {R : Nat → Prop} {N : Nat} (h : RAt w0 r d R W) (hok : ROk d N) (hN : N ≤ 900000) (nn : Int) (mn : Nat) (hmn : mn ≤ 9223372036854775807) (hn : nn < 0) (hL : d.loose.length = 0) :
    Calls Try.prog 44 #[.pointer (some ⟨r, 0, none⟩), .int .i64 nn, .int .i64 (mn : Int)] W fun e W' => e = .returned (.tuple #[]) ∧ RTurn w0 r { mid d 0 (mn : Int) d.files.length with fuse := -1, off := false } R W W' := by
  obtain ⟨vs, vl, vf, fl, c0⟩ := h
  obtain ⟨⟨As, cs, rfl⟩, ⟨Al, cl, rfl⟩, ⟨Af, cf, rfl⟩⟩ := c0.slices
  have HOK := Aside0.mk hok
  have HN := Aside0.mk hN
  have HFL := Aside0.mk c0.len
  obtain ⟨Fn, hFn⟩ : ∃ Fn, fl.length = Fn := ⟨_, rfl⟩
  have HFN := Aside0.mk (show d.files.length = Fn by rw [← hFn]; exact c0.len)
  obtain ⟨p0, p1, p2, -, -, -⟩ := c0.cells
  have q1 := c0.frozen 1
  have et : ({ d with loose := d.loose.take (0) } : RDisk) = d := by rw [List.take_of_length_le (by omega)]
  have HC1 : Aside0 (RCore w0 W r { d with loose := d.loose.take (0) } R (.slice As d.sure.length cs) (.slice Al d.loose.length cl) (.slice Af fl.length cf) fl) := ⟨by rw [et]; exact c0⟩
  have HT1 := Aside0.mk (Turn.refl R W)
  obtain ⟨L, hL'⟩ : ∃ L, d.loose.length = L := ⟨_, rfl⟩
  have HLL := Aside0.mk hL'
  rw [hL'] at p1 hL
  subst hL
  clear hL' et
  rw [hFn] at p2 HC1
  clear hFn
  have hfb : Fn ≤ 900000 := by rw [← HFN.out]; have := hok.many.2; omega
  clear c0 hok hN
  have hm0 : ¬ (mn : Int) < 0 := by omega
  go_enter Try.func44, Try.ntmps44
  go_wp2_with (go_at_call 46; refine (dirIs ⟨_, _, _, _, HC1.out⟩ (HOK.out.cut _) (by have := HN.out; omega)).mono ?_; rintro e W8 ⟨v8, rfl, hD⟩; obtain ⟨R8, k1, k2⟩ := firmEnd HC1.out hD (p' := mid d (0) (mn : Int) 0) (mid_zero _ _ _); have HC8 := Aside0.mk k1; have HT8 := Aside0.mk (HT1.out.trans k2); have hc8 := HC1.out.step hD.below; obtain ⟨A8, n8, c8, rfl⟩ := own_three hD.row; clear p0 p1 p2 q1; obtain ⟨p0, p1, -, -, -, -⟩ := hc8.cells; have q0 := hc8.frozen 0; have q1 := hc8.frozen 1; clear hc8 hD k1 k2)
  obtain ⟨w8, hw8⟩ : ∃ w8, (W8.setCell ⟨r, 0, none⟩ (.slice A8 n8 c8)).setCell ⟨r, 1, none⟩ (.slice none 0 0) = w8 := ⟨_, rfl⟩
  rw [hw8] at HC8 HT8 ⊢
  clear hw8 p0 p1 q0 q1 HC1 HT1
  go_loopw [6, 7] (fun v6 v7 wr => ∃ (i : Nat) (R9 : Nat → Prop) (fl9 : List RFile), i ≤ Fn ∧ v6 = .int .i64 i ∧ Aside0 (fl9.length = Fn) ∧ Aside0 (RCore w0 wr r (mid d (0) (mn : Int) i) R9 (.slice A8 n8 c8) (.slice none 0 0) (.slice Af Fn cf) fl9) ∧ Aside0 (Turn R W R9 wr)) (fun v6 _ _ => Fn - (intOf v6).toNat)
  case atStart => exact ⟨0, R8, fl, by omega, rfl, ⟨HFL.out.symm.trans HFN.out⟩, HC8, HT8⟩
  case round =>
    obtain ⟨i, R9, fl9, hi, rfl, HF9, HC9, HT9⟩ := hrel
    obtain ⟨-, -, p2, -, -, -⟩ := HC9.out.cells
    by_cases hlt : i < Fn
    · have hif : i < fl9.length := by rw [HF9.out]; exact hlt
      obtain ⟨g, cf', efl, -, -, f0, f1, fr0, fr1⟩ := HC9.out.file i hif
      injection efl with efl e2 e3
      clear e2
      subst efl
      subst e3
      have hgr : g ≠ r := (HC9.out.ne.2.2.1 g rfl).1
      have HLT := Aside0.mk hlt
      have hid : i < d.files.length := by rw [HFN.out]; exact hlt
      have hqd : fl9[i].2 = d.files[i] := by
        have h1 := mid_at (d := d) (k := (0)) (M := (mn : Int)) hid
        rw [HC9.out.eq, List.getElem?_map, List.getElem?_eq_getElem hif] at h1
        exact Option.some.inj h1
      have hfm := HOK.out.firm _ (List.getElem_mem hid)
      have HEB := Aside0.mk (HC9.out.each _ (List.getElem_mem hif))
      have HCT := Aside0.mk (fun (X : World) (hX : Below wr.heap.size wr X) (v : Value) (b : List UInt8) (hv : BytesIs X wr.heap.size v b) (m : Nat) => fileCut (show RCore w0 wr r (mid d (0) (mn : Int) i) R9 (.slice A8 n8 c8) (.slice none 0 0) (.slice (some ⟨g, 0, none⟩) fl9.length cf) fl9 by rw [HF9.out]; exact HC9.out) i hif hX hv m)
      have HCELL := Aside0.mk (fun (X : World) (hX : Below wr.heap.size wr X) => fileCells (show RCore w0 wr r (mid d (0) (mn : Int) i) R9 (.slice A8 n8 c8) (.slice none 0 0) (.slice (some ⟨g, 0, none⟩) fl9.length cf) fl9 by rw [HF9.out]; exact HC9.out) hif hX)
      obtain ⟨q, hq⟩ : ∃ q, fl9[i] = q := ⟨_, rfl⟩
      rw [hq] at f0 f1 hqd HEB HCELL
      obtain ⟨bv, u, s⟩ := q
      have HQD := Aside0.mk (show d.files[i] = (u, s) from hqd.symm)
      have HST := Aside0.mk (fun (m : Nat) (hm : m = s + min (max (mn : Int) 0).toNat (u.length - s)) => mid_step (k := (0)) (M := (mn : Int)) hid hqd.symm hm)
      rw [← hqd] at hfm
      have hs1 : s ≤ u.length := hfm.1
      have hs2 : u.length ≤ N := hfm.2
      have hbb : ∃ A c, bv = .slice A (B u).length c := own_slice HEB.out
      obtain ⟨Ab, cb, rfl⟩ := hbb
      have hcap : (B u).length ≤ cb := rowCap HEB.out
      have HRE := Aside0.mk (fun X (hX : Below wr.heap.size wr X) => bytesReads (BytesIs.below HEB.out hX))
      obtain ⟨m0, hm0'⟩ : ∃ m0, (B u).length = m0 := ⟨_, rfl⟩
      have hmu : m0 = u.length := by rw [← hm0', B_length]
      simp only [hm0'] at f0 HCELL hcap
      have HMU := Aside0.mk hmu
      have hsl : s ≤ m0 := by omega
      have hml : m0 ≤ 900000 := by have := HN.out; omega
      have HSL := Aside0.mk hsl
      have hw1 : IntKind.i64.wrap ((m0 : Int) - (s : Int)) = (m0 : Int) - (s : Int) := IntWalk.i64_in _ (by omega)
      have HZ9 := Aside0.mk (Below.refl wr.heap.size wr)
      have hal2 : ∀ o : Obj, (wr.alloc o).cell? ⟨r, 2, none⟩ = some (.slice (some ⟨g, 0, none⟩) Fn cf) := fun o => (HC9.out.step (below_alloc (Below.refl _ _) o)).cells.2.2.1
      have hal3 : ∀ o : Obj, (wr.alloc o).cell? ⟨g, i * 2, none⟩ = some (.slice Ab m0 cb) := fun o => (HCELL.out _ (below_alloc (Below.refl _ _) o)).1
      clear hq hqd hfm hs1 hs2 hm0' hmu
      by_cases hM : (mn : Int) > (m0 : Int) - (s : Int)
      · have hb1 : (m0 : Int) ≤ (cb : Int) := by omega
        have HKK := Aside0.mk (show m0 = s + min (max (mn : Int) 0).toNat (u.length - s) by have := HMU.out; omega)
        have HTL := Aside0.mk (show m0 = (u.take m0).length ∧ (u.take m0).length ≤ 2000000 by rw [List.length_take]; have := HMU.out; omega)
        go_wp2
        refine wp_region_noPanic ?_
        refine wp_region_held_drew (S := (fun X => X.cell? ⟨r, 2, none⟩ = some (.slice (some ⟨g, 0, none⟩) Fn cf))) (by kernel_rfl) ?_ (fun hHeld => ?_)
        · (try dsimp only); first | go_keep | assumption | exact hal2 _
        refine wpAnyH_take (i := 0) (v := ?_) rfl (by kernel_rfl) (by kernel_rfl) (by kernel_rfl) (fun _ _ _ h => h) (Or.inl ⟨by rfl, ?_⟩) (by assumption) ?_
        rotate_left
        · (intro w hSw; (try dsimp only at hSw); (go_simp <;> with_reducible rfl))
        try go_simp
        refine wpAnyH_take (i := 1) (v := ?_) rfl (by kernel_rfl) (by kernel_rfl) (by kernel_rfl) (fun _ _ _ h => h) (Or.inl ⟨by rfl, ?_⟩) (by assumption) ?_
        rotate_left
        · (intro w hSw; (try dsimp only at hSw); (go_simp <;> with_reducible rfl))
        try go_simp
        refine wpAnyH_take (i := 2) (v := ?_) rfl (by kernel_rfl) (by kernel_rfl) (by kernel_rfl) (fun _ _ _ h => h) (Or.inl ⟨by rfl, ?_⟩) (by assumption) ?_
        rotate_left
        · (intro w hSw; (try dsimp only at hSw); (go_simp <;> with_reducible rfl))
        try go_simp
        refine wpAnyH_take (i := 3) (v := ?_) rfl (by kernel_rfl) (by kernel_rfl) (by kernel_rfl) (fun _ _ _ h => h) (Or.inl ⟨by rfl, ?_⟩) (by assumption) ?_
        rotate_left
        · (intro w hSw; (try dsimp only at hSw); (go_simp <;> with_reducible rfl))
        try go_simp
        refine wpAnyH_take (i := 4) (v := ?_) rfl (by kernel_rfl) (by kernel_rfl) (by kernel_rfl) (fun _ _ _ h => h) (Or.inl ⟨by rfl, ?_⟩) (by assumption) ?_
        rotate_left
        · (intro w hSw; (try dsimp only at hSw); (go_simp <;> with_reducible rfl))
        try go_simp
        refine wpAnyH_take (i := 6) (v := ?_) rfl (by kernel_rfl) (by kernel_rfl) (by kernel_rfl) (fun _ _ _ h => h) (Or.inl ⟨by rfl, ?_⟩) (by assumption) ?_
        rotate_left
        · (intro w hSw; (try dsimp only at hSw); (go_simp <;> with_reducible rfl))
        try go_simp
        refine wpAnyH_take (i := 7) (v := ?_) rfl (by kernel_rfl) (by kernel_rfl) (by kernel_rfl) (fun _ _ _ h => h) (Or.inl ⟨by rfl, ?_⟩) (by assumption) ?_
        rotate_left
        · (intro w hSw; (try dsimp only at hSw); (go_simp <;> with_reducible rfl))
        try go_simp
        refine wpAnyH_take (i := 8) (v := ?_) rfl (by kernel_rfl) (by kernel_rfl) (by kernel_rfl) (fun _ _ _ h => h) (Or.inl ⟨by rfl, ?_⟩) (by assumption) ?_
        rotate_left
        · (intro w hSw; (try dsimp only at hSw); (go_simp <;> with_reducible rfl))
        try go_simp
        refine wpAnyH_take (i := 9) (v := ?_) rfl (by kernel_rfl) (by kernel_rfl) (by kernel_rfl) (fun _ _ _ h => h) (Or.inl ⟨by rfl, ?_⟩) (by assumption) ?_
        rotate_left
        · (intro w hSw; (try dsimp only at hSw); (go_simp <;> with_reducible rfl))
        try go_simp
        refine wpAnyH_take (i := 10) (v := ?_) rfl (by kernel_rfl) (by kernel_rfl) (by kernel_rfl) (fun _ _ _ h => h) (Or.inl ⟨by rfl, ?_⟩) (by assumption) ?_
        rotate_left
        · (intro w hSw; (try dsimp only at hSw); (go_simp <;> with_reducible rfl))
        try go_simp
        refine wpAnyH_take (i := 11) (v := ?_) rfl (by kernel_rfl) (by kernel_rfl) (by kernel_rfl) (fun _ _ _ h => h) (Or.inl ⟨by rfl, ?_⟩) (by assumption) ?_
        rotate_left
        · (intro w hSw; (try dsimp only at hSw); (go_simp <;> with_reducible rfl))
        try go_simp
        refine wpAnyH_take (i := 12) (v := ?_) rfl (by kernel_rfl) (by kernel_rfl) (by kernel_rfl) (fun _ _ _ h => h) (Or.inl ⟨by rfl, ?_⟩) (by assumption) ?_
        rotate_left
        · (intro w hSw; (try dsimp only at hSw); (go_simp <;> with_reducible rfl))
        try go_simp
        refine wpAnyH_take (i := 14) (v := ?_) rfl (by kernel_rfl) (by kernel_rfl) (by kernel_rfl) (fun _ _ _ h => h) (Or.inl ⟨by rfl, ?_⟩) (by assumption) ?_
        rotate_left
        · (intro w hSw; (try dsimp only at hSw); (go_simp <;> with_reducible rfl))
        try go_simp
        refine wpAnyH_take (i := 17) (v := ?_) rfl (by kernel_rfl) (by kernel_rfl) (by kernel_rfl) (fun _ _ _ h => h) (Or.inl ⟨by rfl, ?_⟩) (by assumption) ?_
        rotate_left
        · (intro w hSw; (try dsimp only at hSw); (go_simp <;> with_reducible rfl))
        try go_simp
        refine wpAnyH_ready (rs := [5, 13]) (by kernel_rfl) (by simp) ?_
        refine AllReadyH.cons rfl (fun K hK => ?_) ?_
        · skip
          go_simp
          refine hK.out _ _ ?_ (fun hHeld => ?_)
          · (try dsimp only); first | go_keep | assumption | exact hal2 _
          clear hK K
          try go_simp
          refine wpAnyH_ready (rs := [13]) (by kernel_rfl) (by simp) ?_
          refine AllReadyH.cons rfl (fun K hK => ?_) AllReadyH.nil
          go_simp
          refine hK.out _ _ ?_ (fun hHeld => ?_)
          · (try dsimp only); first | go_keep | assumption | exact hal2 _
          clear hK K
          try go_simp
          refine wpAnyH_take (i := 15) (v := ?_) rfl (by kernel_rfl) (by kernel_rfl) (by kernel_rfl) (fun _ _ _ h => h) (Or.inl ⟨by rfl, ?_⟩) (by assumption) ?_
          rotate_left
          · (intro w hSw; (try dsimp only at hSw); (go_simp <;> with_reducible rfl))
          try go_simp
          refine wpAnyH_ready (rs := [16]) (by kernel_rfl) (by simp) ?_
          refine AllReadyH.cons rfl (fun K hK => ?_) AllReadyH.nil
          refine stepW (Wb := wr) (s := []) (v := .slice (some ⟨_, 0, none⟩) 0 0) (by repeat (first | exact HZ9.out | apply below_drew1 | refine below_alloc ?_ _)) rfl (.tmp 83) (.tmp 93) rfl (by first | (simp [Act.eval, Act.put]; done) | (simp [Act.eval, Act.put]; rfl)) (bytesEmpty (by repeat (first | with_reducible exact at_new _ (by simp) | with_reducible apply at_drew | with_reducible refine at_old _ ?_)) (by simp)) (u.take m0) (Nat.le_trans (Nat.le_of_eq (Nat.zero_add _)) HTL.out.2) Ab m0 cb (by first | (simp [Act.eval, Act.put]; done) | (simp [Act.eval, Act.put]; rfl)) HTL.out.1 (readsTake (HRE.out _ (by repeat (first | exact HZ9.out | apply below_drew1 | refine below_alloc ?_ _))) m0) ?_
          intro v1 w1 h1 g1
          have HB9 := Aside0.mk g1
          obtain ⟨-, -, s1, -, -⟩ := (HC9.out.step HB9.out).after (Below.refl _ _) (World.grownBy.refl w1 none) (by simp)
          obtain ⟨e1, e2, e3, e4⟩ := HCELL.out _ HB9.out
          have HE := Aside0.mk (HCT.out _ HB9.out _ _ h1 m0)
          obtain ⟨A1, n1, c1, rfl⟩ := own_three h1
          clear h1 g1
          refine hK.out _ _ ?_ (fun hHeld => ?_)
          · (try dsimp only); first | go_keep | assumption | exact hal2 _
          clear hK K
          try go_simp
          refine wpAnyH_take (i := 18) (v := ?_) rfl (by kernel_rfl) (by kernel_rfl) (by kernel_rfl) (fun _ _ _ h => h) (Or.inl ⟨by rfl, ?_⟩) (by assumption) ?_
          rotate_left
          · (intro w hSw; (try dsimp only at hSw); (go_simp <;> with_reducible rfl))
          try go_simp
          refine wpAnyH_take (i := 19) (v := ?_) rfl (by kernel_rfl) (by kernel_rfl) (by kernel_rfl) (fun _ _ _ h => h) (Or.inl ⟨by rfl, ?_⟩) (by assumption) ?_
          rotate_left
          · (intro w hSw; (try dsimp only at hSw); (go_simp <;> with_reducible rfl))
          try go_simp
          refine wpAnyH_ready (rs := [20]) (by kernel_rfl) (by simp) ?_
          refine AllReadyH.cons rfl (fun K hK => ?_) AllReadyH.nil
          go_simp
          refine hK.out _ _ ?_ (fun hHeld => ?_)
          · (try dsimp only); first | go_keep | assumption | exact hal2 _
          clear hK K
          try go_simp
          refine wpAnyH_done (by kernel_rfl) ?_ _
          refine NoPanic.normal ?_
          have HGO := Aside0.mk HE.out
          obtain ⟨R10, k1, k2⟩ := HGO.out
          rw [List.nil_append, HST.out m0 HKK.out, HF9.out] at k1
          have HC10 := Aside0.mk k1
          have HT10 := Aside0.mk (HT9.out.trans k2)
          clear k1 k2 HGO HE
          go_wp2
          go_roundw
          case rel => exact ⟨i + 1, R10, _, (by have := HLT.out; omega), by go_num, ⟨by rw [List.length_set]; exact HF9.out⟩, HC10, HT10⟩
          case measure => (have := HLT.out; simp [intOf]; omega)
        refine AllReadyH.cons rfl (fun K hK => ?_) ?_
        · skip
          go_simp
          refine hK.out _ _ ?_ (fun hHeld => ?_)
          · (try dsimp only); first | go_keep | assumption | exact hal2 _
          clear hK K
          try go_simp
          refine wpAnyH_take (i := 15) (v := ?_) rfl (by kernel_rfl) (by kernel_rfl) (by kernel_rfl) (fun _ _ _ h => h) (Or.inl ⟨by rfl, ?_⟩) (by assumption) ?_
          rotate_left
          · (intro w hSw; (try dsimp only at hSw); (go_simp <;> with_reducible rfl))
          try go_simp
          refine wpAnyH_ready (rs := [5]) (by kernel_rfl) (by simp) ?_
          refine AllReadyH.cons rfl (fun K hK => ?_) AllReadyH.nil
          go_simp
          refine hK.out _ _ ?_ (fun hHeld => ?_)
          · (try dsimp only); first | go_keep | assumption | exact hal2 _
          clear hK K
          try go_simp
          refine wpAnyH_ready (rs := [16]) (by kernel_rfl) (by simp) ?_
          refine AllReadyH.cons rfl (fun K hK => ?_) AllReadyH.nil
          refine stepW (Wb := wr) (s := []) (v := .slice (some ⟨_, 0, none⟩) 0 0) (by repeat (first | exact HZ9.out | apply below_drew1 | refine below_alloc ?_ _)) rfl (.tmp 83) (.tmp 93) rfl (by first | (simp [Act.eval, Act.put]; done) | (simp [Act.eval, Act.put]; rfl)) (bytesEmpty (by repeat (first | with_reducible exact at_new _ (by simp) | with_reducible apply at_drew | with_reducible refine at_old _ ?_)) (by simp)) (u.take m0) (Nat.le_trans (Nat.le_of_eq (Nat.zero_add _)) HTL.out.2) Ab m0 cb (by first | (simp [Act.eval, Act.put]; done) | (simp [Act.eval, Act.put]; rfl)) HTL.out.1 (readsTake (HRE.out _ (by repeat (first | exact HZ9.out | apply below_drew1 | refine below_alloc ?_ _))) m0) ?_
          intro v1 w1 h1 g1
          have HB9 := Aside0.mk g1
          obtain ⟨-, -, s1, -, -⟩ := (HC9.out.step HB9.out).after (Below.refl _ _) (World.grownBy.refl w1 none) (by simp)
          obtain ⟨e1, e2, e3, e4⟩ := HCELL.out _ HB9.out
          have HE := Aside0.mk (HCT.out _ HB9.out _ _ h1 m0)
          obtain ⟨A1, n1, c1, rfl⟩ := own_three h1
          clear h1 g1
          refine hK.out _ _ ?_ (fun hHeld => ?_)
          · (try dsimp only); first | go_keep | assumption | exact hal2 _
          clear hK K
          try go_simp
          refine wpAnyH_take (i := 18) (v := ?_) rfl (by kernel_rfl) (by kernel_rfl) (by kernel_rfl) (fun _ _ _ h => h) (Or.inl ⟨by rfl, ?_⟩) (by assumption) ?_
          rotate_left
          · (intro w hSw; (try dsimp only at hSw); (go_simp <;> with_reducible rfl))
          try go_simp
          refine wpAnyH_take (i := 19) (v := ?_) rfl (by kernel_rfl) (by kernel_rfl) (by kernel_rfl) (fun _ _ _ h => h) (Or.inl ⟨by rfl, ?_⟩) (by assumption) ?_
          rotate_left
          · (intro w hSw; (try dsimp only at hSw); (go_simp <;> with_reducible rfl))
          try go_simp
          refine wpAnyH_ready (rs := [20]) (by kernel_rfl) (by simp) ?_
          refine AllReadyH.cons rfl (fun K hK => ?_) AllReadyH.nil
          go_simp
          refine hK.out _ _ ?_ (fun hHeld => ?_)
          · (try dsimp only); first | go_keep | assumption | exact hal2 _
          clear hK K
          try go_simp
          refine wpAnyH_done (by kernel_rfl) ?_ _
          refine NoPanic.normal ?_
          have HGO := Aside0.mk HE.out
          obtain ⟨R10, k1, k2⟩ := HGO.out
          rw [List.nil_append, HST.out m0 HKK.out, HF9.out] at k1
          have HC10 := Aside0.mk k1
          have HT10 := Aside0.mk (HT9.out.trans k2)
          clear k1 k2 HGO HE
          go_wp2
          go_roundw
          case rel => exact ⟨i + 1, R10, _, (by have := HLT.out; omega), by go_num, ⟨by rw [List.length_set]; exact HF9.out⟩, HC10, HT10⟩
          case measure => (have := HLT.out; simp [intOf]; omega)
        exact AllReadyH.nil
        -- END
      · obtain ⟨kk, hkk⟩ : ∃ kk, s + mn = kk := ⟨_, rfl⟩
        have hadd : IntKind.i64.wrap ((s : Int) + (mn : Int)) = (kk : Int) := by rw [IntWalk.i64_in _ (by omega)]; omega
        have hb1 : (kk : Int) ≤ (cb : Int) := by omega
        have hb2 : (0 : Int) ≤ (kk : Int) := by omega
        have HKK := Aside0.mk (show kk = s + min (max (mn : Int) 0).toNat (u.length - s) by have := HMU.out; omega)
        have HTL := Aside0.mk (show kk = (u.take kk).length ∧ (u.take kk).length ≤ 2000000 by rw [List.length_take]; have := HMU.out; omega)
        clear hkk
        go_wp2
        refine wp_region_noPanic ?_
        refine wp_region_held_drew (S := (fun X => X.cell? ⟨r, 2, none⟩ = some (.slice (some ⟨g, 0, none⟩) Fn cf))) (by kernel_rfl) ?_ (fun hHeld => ?_)
        · (try dsimp only); first | go_keep | assumption | exact hal2 _
        refine wpAnyH_take (i := 0) (v := ?_) rfl (by kernel_rfl) (by kernel_rfl) (by kernel_rfl) (fun _ _ _ h => h) (Or.inl ⟨by rfl, ?_⟩) (by assumption) ?_
        rotate_left
        · (intro w hSw; (try dsimp only at hSw); (go_simp <;> with_reducible rfl))
        try go_simp
        refine wpAnyH_take (i := 1) (v := ?_) rfl (by kernel_rfl) (by kernel_rfl) (by kernel_rfl) (fun _ _ _ h => h) (Or.inl ⟨by rfl, ?_⟩) (by assumption) ?_
        rotate_left
        · (intro w hSw; (try dsimp only at hSw); (go_simp <;> with_reducible rfl))
        try go_simp
        refine wpAnyH_take (i := 2) (v := ?_) rfl (by kernel_rfl) (by kernel_rfl) (by kernel_rfl) (fun _ _ _ h => h) (Or.inl ⟨by rfl, ?_⟩) (by assumption) ?_
        rotate_left
        · (intro w hSw; (try dsimp only at hSw); (go_simp <;> with_reducible rfl))
        try go_simp
        refine wpAnyH_take (i := 3) (v := ?_) rfl (by kernel_rfl) (by kernel_rfl) (by kernel_rfl) (fun _ _ _ h => h) (Or.inl ⟨by rfl, ?_⟩) (by assumption) ?_
        rotate_left
        · (intro w hSw; (try dsimp only at hSw); (go_simp <;> with_reducible rfl))
        try go_simp
        refine wpAnyH_take (i := 4) (v := ?_) rfl (by kernel_rfl) (by kernel_rfl) (by kernel_rfl) (fun _ _ _ h => h) (Or.inl ⟨by rfl, ?_⟩) (by assumption) ?_
        rotate_left
        · (intro w hSw; (try dsimp only at hSw); (go_simp <;> with_reducible rfl))
        try go_simp
        refine wpAnyH_take (i := 6) (v := ?_) rfl (by kernel_rfl) (by kernel_rfl) (by kernel_rfl) (fun _ _ _ h => h) (Or.inl ⟨by rfl, ?_⟩) (by assumption) ?_
        rotate_left
        · (intro w hSw; (try dsimp only at hSw); (go_simp <;> with_reducible rfl))
        try go_simp
        refine wpAnyH_take (i := 7) (v := ?_) rfl (by kernel_rfl) (by kernel_rfl) (by kernel_rfl) (fun _ _ _ h => h) (Or.inl ⟨by rfl, ?_⟩) (by assumption) ?_
        rotate_left
        · (intro w hSw; (try dsimp only at hSw); (go_simp <;> with_reducible rfl))
        try go_simp
        refine wpAnyH_take (i := 8) (v := ?_) rfl (by kernel_rfl) (by kernel_rfl) (by kernel_rfl) (fun _ _ _ h => h) (Or.inl ⟨by rfl, ?_⟩) (by assumption) ?_
        rotate_left
        · (intro w hSw; (try dsimp only at hSw); (go_simp <;> with_reducible rfl))
        try go_simp
        refine wpAnyH_take (i := 9) (v := ?_) rfl (by kernel_rfl) (by kernel_rfl) (by kernel_rfl) (fun _ _ _ h => h) (Or.inl ⟨by rfl, ?_⟩) (by assumption) ?_
        rotate_left
        · (intro w hSw; (try dsimp only at hSw); (go_simp <;> with_reducible rfl))
        try go_simp
        refine wpAnyH_take (i := 10) (v := ?_) rfl (by kernel_rfl) (by kernel_rfl) (by kernel_rfl) (fun _ _ _ h => h) (Or.inl ⟨by rfl, ?_⟩) (by assumption) ?_
        rotate_left
        · (intro w hSw; (try dsimp only at hSw); (go_simp <;> with_reducible rfl))
        try go_simp
        refine wpAnyH_take (i := 11) (v := ?_) rfl (by kernel_rfl) (by kernel_rfl) (by kernel_rfl) (fun _ _ _ h => h) (Or.inl ⟨by rfl, ?_⟩) (by assumption) ?_
        rotate_left
        · (intro w hSw; (try dsimp only at hSw); (go_simp <;> with_reducible rfl))
        try go_simp
        refine wpAnyH_take (i := 12) (v := ?_) rfl (by kernel_rfl) (by kernel_rfl) (by kernel_rfl) (fun _ _ _ h => h) (Or.inl ⟨by rfl, ?_⟩) (by assumption) ?_
        rotate_left
        · (intro w hSw; (try dsimp only at hSw); (go_simp <;> with_reducible rfl))
        try go_simp
        refine wpAnyH_take (i := 14) (v := ?_) rfl (by kernel_rfl) (by kernel_rfl) (by kernel_rfl) (fun _ _ _ h => h) (Or.inl ⟨by rfl, ?_⟩) (by assumption) ?_
        rotate_left
        · (intro w hSw; (try dsimp only at hSw); (go_simp <;> with_reducible rfl))
        try go_simp
        refine wpAnyH_take (i := 17) (v := ?_) rfl (by kernel_rfl) (by kernel_rfl) (by kernel_rfl) (fun _ _ _ h => h) (Or.inl ⟨by rfl, ?_⟩) (by assumption) ?_
        rotate_left
        · (intro w hSw; (try dsimp only at hSw); (go_simp <;> with_reducible rfl))
        try go_simp
        refine wpAnyH_ready (rs := [5, 13]) (by kernel_rfl) (by simp) ?_
        refine AllReadyH.cons rfl (fun K hK => ?_) ?_
        · skip
          go_simp
          refine hK.out _ _ ?_ (fun hHeld => ?_)
          · (try dsimp only); first | go_keep | assumption | exact hal2 _
          clear hK K
          try go_simp
          refine wpAnyH_ready (rs := [13]) (by kernel_rfl) (by simp) ?_
          refine AllReadyH.cons rfl (fun K hK => ?_) AllReadyH.nil
          go_simp
          refine hK.out _ _ ?_ (fun hHeld => ?_)
          · (try dsimp only); first | go_keep | assumption | exact hal2 _
          clear hK K
          try go_simp
          refine wpAnyH_take (i := 15) (v := ?_) rfl (by kernel_rfl) (by kernel_rfl) (by kernel_rfl) (fun _ _ _ h => h) (Or.inl ⟨by rfl, ?_⟩) (by assumption) ?_
          rotate_left
          · (intro w hSw; (try dsimp only at hSw); (go_simp <;> with_reducible rfl))
          try go_simp
          refine wpAnyH_ready (rs := [16]) (by kernel_rfl) (by simp) ?_
          refine AllReadyH.cons rfl (fun K hK => ?_) AllReadyH.nil
          refine stepW (Wb := wr) (s := []) (v := .slice (some ⟨_, 0, none⟩) 0 0) (by repeat (first | exact HZ9.out | apply below_drew1 | refine below_alloc ?_ _)) rfl (.tmp 83) (.tmp 93) rfl (by first | (simp [Act.eval, Act.put]; done) | (simp [Act.eval, Act.put]; rfl)) (bytesEmpty (by repeat (first | with_reducible exact at_new _ (by simp) | with_reducible apply at_drew | with_reducible refine at_old _ ?_)) (by simp)) (u.take kk) (Nat.le_trans (Nat.le_of_eq (Nat.zero_add _)) HTL.out.2) Ab kk cb (by first | (simp [Act.eval, Act.put]; done) | (simp [Act.eval, Act.put]; rfl)) HTL.out.1 (readsTake (HRE.out _ (by repeat (first | exact HZ9.out | apply below_drew1 | refine below_alloc ?_ _))) kk) ?_
          intro v1 w1 h1 g1
          have HB9 := Aside0.mk g1
          obtain ⟨-, -, s1, -, -⟩ := (HC9.out.step HB9.out).after (Below.refl _ _) (World.grownBy.refl w1 none) (by simp)
          obtain ⟨e1, e2, e3, e4⟩ := HCELL.out _ HB9.out
          have HE := Aside0.mk (HCT.out _ HB9.out _ _ h1 kk)
          obtain ⟨A1, n1, c1, rfl⟩ := own_three h1
          clear h1 g1
          refine hK.out _ _ ?_ (fun hHeld => ?_)
          · (try dsimp only); first | go_keep | assumption | exact hal2 _
          clear hK K
          try go_simp
          refine wpAnyH_take (i := 18) (v := ?_) rfl (by kernel_rfl) (by kernel_rfl) (by kernel_rfl) (fun _ _ _ h => h) (Or.inl ⟨by rfl, ?_⟩) (by assumption) ?_
          rotate_left
          · (intro w hSw; (try dsimp only at hSw); (go_simp <;> with_reducible rfl))
          try go_simp
          refine wpAnyH_take (i := 19) (v := ?_) rfl (by kernel_rfl) (by kernel_rfl) (by kernel_rfl) (fun _ _ _ h => h) (Or.inl ⟨by rfl, ?_⟩) (by assumption) ?_
          rotate_left
          · (intro w hSw; (try dsimp only at hSw); (go_simp <;> with_reducible rfl))
          try go_simp
          refine wpAnyH_ready (rs := [20]) (by kernel_rfl) (by simp) ?_
          refine AllReadyH.cons rfl (fun K hK => ?_) AllReadyH.nil
          go_simp
          refine hK.out _ _ ?_ (fun hHeld => ?_)
          · (try dsimp only); first | go_keep | assumption | exact hal2 _
          clear hK K
          try go_simp
          refine wpAnyH_done (by kernel_rfl) ?_ _
          refine NoPanic.normal ?_
          have HGO := Aside0.mk HE.out
          obtain ⟨R10, k1, k2⟩ := HGO.out
          rw [List.nil_append, HST.out kk HKK.out, HF9.out] at k1
          have HC10 := Aside0.mk k1
          have HT10 := Aside0.mk (HT9.out.trans k2)
          clear k1 k2 HGO HE
          go_wp2
          go_roundw
          case rel => exact ⟨i + 1, R10, _, (by have := HLT.out; omega), by go_num, ⟨by rw [List.length_set]; exact HF9.out⟩, HC10, HT10⟩
          case measure => (have := HLT.out; simp [intOf]; omega)
        refine AllReadyH.cons rfl (fun K hK => ?_) ?_
        · skip
          go_simp
          refine hK.out _ _ ?_ (fun hHeld => ?_)
          · (try dsimp only); first | go_keep | assumption | exact hal2 _
          clear hK K
          try go_simp
          refine wpAnyH_take (i := 15) (v := ?_) rfl (by kernel_rfl) (by kernel_rfl) (by kernel_rfl) (fun _ _ _ h => h) (Or.inl ⟨by rfl, ?_⟩) (by assumption) ?_
          rotate_left
          · (intro w hSw; (try dsimp only at hSw); (go_simp <;> with_reducible rfl))
          try go_simp
          refine wpAnyH_ready (rs := [5]) (by kernel_rfl) (by simp) ?_
          refine AllReadyH.cons rfl (fun K hK => ?_) AllReadyH.nil
          go_simp
          refine hK.out _ _ ?_ (fun hHeld => ?_)
          · (try dsimp only); first | go_keep | assumption | exact hal2 _
          clear hK K
          try go_simp
          refine wpAnyH_ready (rs := [16]) (by kernel_rfl) (by simp) ?_
          refine AllReadyH.cons rfl (fun K hK => ?_) AllReadyH.nil
          refine stepW (Wb := wr) (s := []) (v := .slice (some ⟨_, 0, none⟩) 0 0) (by repeat (first | exact HZ9.out | apply below_drew1 | refine below_alloc ?_ _)) rfl (.tmp 83) (.tmp 93) rfl (by first | (simp [Act.eval, Act.put]; done) | (simp [Act.eval, Act.put]; rfl)) (bytesEmpty (by repeat (first | with_reducible exact at_new _ (by simp) | with_reducible apply at_drew | with_reducible refine at_old _ ?_)) (by simp)) (u.take kk) (Nat.le_trans (Nat.le_of_eq (Nat.zero_add _)) HTL.out.2) Ab kk cb (by first | (simp [Act.eval, Act.put]; done) | (simp [Act.eval, Act.put]; rfl)) HTL.out.1 (readsTake (HRE.out _ (by repeat (first | exact HZ9.out | apply below_drew1 | refine below_alloc ?_ _))) kk) ?_
          intro v1 w1 h1 g1
          have HB9 := Aside0.mk g1
          obtain ⟨-, -, s1, -, -⟩ := (HC9.out.step HB9.out).after (Below.refl _ _) (World.grownBy.refl w1 none) (by simp)
          obtain ⟨e1, e2, e3, e4⟩ := HCELL.out _ HB9.out
          have HE := Aside0.mk (HCT.out _ HB9.out _ _ h1 kk)
          obtain ⟨A1, n1, c1, rfl⟩ := own_three h1
          clear h1 g1
          refine hK.out _ _ ?_ (fun hHeld => ?_)
          · (try dsimp only); first | go_keep | assumption | exact hal2 _
          clear hK K
          try go_simp
          refine wpAnyH_take (i := 18) (v := ?_) rfl (by kernel_rfl) (by kernel_rfl) (by kernel_rfl) (fun _ _ _ h => h) (Or.inl ⟨by rfl, ?_⟩) (by assumption) ?_
          rotate_left
          · (intro w hSw; (try dsimp only at hSw); (go_simp <;> with_reducible rfl))
          try go_simp
          refine wpAnyH_take (i := 19) (v := ?_) rfl (by kernel_rfl) (by kernel_rfl) (by kernel_rfl) (fun _ _ _ h => h) (Or.inl ⟨by rfl, ?_⟩) (by assumption) ?_
          rotate_left
          · (intro w hSw; (try dsimp only at hSw); (go_simp <;> with_reducible rfl))
          try go_simp
          refine wpAnyH_ready (rs := [20]) (by kernel_rfl) (by simp) ?_
          refine AllReadyH.cons rfl (fun K hK => ?_) AllReadyH.nil
          go_simp
          refine hK.out _ _ ?_ (fun hHeld => ?_)
          · (try dsimp only); first | go_keep | assumption | exact hal2 _
          clear hK K
          try go_simp
          refine wpAnyH_done (by kernel_rfl) ?_ _
          refine NoPanic.normal ?_
          have HGO := Aside0.mk HE.out
          obtain ⟨R10, k1, k2⟩ := HGO.out
          rw [List.nil_append, HST.out kk HKK.out, HF9.out] at k1
          have HC10 := Aside0.mk k1
          have HT10 := Aside0.mk (HT9.out.trans k2)
          clear k1 k2 HGO HE
          go_wp2
          go_roundw
          case rel => exact ⟨i + 1, R10, _, (by have := HLT.out; omega), by go_num, ⟨by rw [List.length_set]; exact HF9.out⟩, HC10, HT10⟩
          case measure => (have := HLT.out; simp [intOf]; omega)
        exact AllReadyH.nil
        -- END
    · obtain ⟨-, -, -, -, p4, p5⟩ := HC9.out.cells
      have q4 := HC9.out.frozen 4
      have q5 := HC9.out.frozen 5
      have HEND := Aside0.mk (crashEndR HC9.out)
      have HIE := Aside0.mk (show i = d.files.length by rw [HFN.out]; omega)
      go_wp2
      go_end0
      have h9 := RTurn.trans HT9.out HEND.out
      rw [HIE.out] at h9
      exact ⟨rfl, h9⟩
end Go.Proofs.Ytibmgcihpbofdaa.Fs
namespace Go.Proofs.Ytibmgcihpbofdaa.Fs
open Go.RowKit Go.Proofs.Ytibmgcihpbofdaa Go.Proofs.Ytibmgcihpbofdaa.Plain Go.Proofs.YtibmgcihpbofdaaW.PrintWords Go.Maps
set_option linter.unusedVariables false
set_option linter.unusedSimpArgs false
set_option maxHeartbeats 4000000 in
set_option maxRecDepth 100000 in
theorem crashhi0 {w0 W : World} {r : Nat} {d : RDisk} {R : Nat → Prop} {N : Nat} (h : RAt w0 r d R W) (hok : ROk d N) (hN : N ≤ 900000) (nn : Int) (mm : Int) (hm : mm < 0) (hn : ¬ nn < 0) (hL : ¬ nn < (d.loose.length : Int)) :
    Calls Try.prog 44 #[.pointer (some ⟨r, 0, none⟩), .int .i64 nn, .int .i64 mm] W fun e W' => e = .returned (.tuple #[]) ∧ RTurn w0 r { mid d d.loose.length (0 : Int) d.files.length with fuse := -1, off := false } R W W' := by
  obtain ⟨vs, vl, vf, fl, c0⟩ := h
  obtain ⟨⟨As, cs, rfl⟩, ⟨Al, cl, rfl⟩, ⟨Af, cf, rfl⟩⟩ := c0.slices
  have HOK := Aside0.mk hok
  have HN := Aside0.mk hN
  have HFL := Aside0.mk c0.len
  obtain ⟨Fn, hFn⟩ : ∃ Fn, fl.length = Fn := ⟨_, rfl⟩
  have HFN := Aside0.mk (show d.files.length = Fn by rw [← hFn]; exact c0.len)
  obtain ⟨p0, p1, p2, -, -, -⟩ := c0.cells
  have q1 := c0.frozen 1
  have et : ({ d with loose := d.loose.take (d.loose.length) } : RDisk) = d := by rw [List.take_of_length_le (by omega)]
  have HC1 : Aside0 (RCore w0 W r { d with loose := d.loose.take (d.loose.length) } R (.slice As d.sure.length cs) (.slice Al d.loose.length cl) (.slice Af fl.length cf) fl) := ⟨by rw [et]; exact c0⟩
  have HT1 := Aside0.mk (Turn.refl R W)
  obtain ⟨L, hL'⟩ : ∃ L, d.loose.length = L := ⟨_, rfl⟩
  have HLL := Aside0.mk hL'
  rw [hL'] at p1 hL
  clear hL' et
  rw [hFn] at p2 HC1
  clear hFn
  have hfb : Fn ≤ 900000 := by rw [← HFN.out]; have := hok.many.2; omega
  clear c0 hok hN
  go_enter Try.func44, Try.ntmps44
  go_wp2_with (go_at_call 46; refine (dirIs ⟨_, _, _, _, HC1.out⟩ (HOK.out.cut _) (by have := HN.out; omega)).mono ?_; rintro e W8 ⟨v8, rfl, hD⟩; obtain ⟨R8, k1, k2⟩ := firmEnd HC1.out hD (p' := mid d (d.loose.length) (0 : Int) 0) (mid_zero _ _ _); have HC8 := Aside0.mk k1; have HT8 := Aside0.mk (HT1.out.trans k2); have hc8 := HC1.out.step hD.below; obtain ⟨A8, n8, c8, rfl⟩ := own_three hD.row; clear p0 p1 p2 q1; obtain ⟨p0, p1, -, -, -, -⟩ := hc8.cells; have q0 := hc8.frozen 0; have q1 := hc8.frozen 1; clear hc8 hD k1 k2)
  obtain ⟨w8, hw8⟩ : ∃ w8, (W8.setCell ⟨r, 0, none⟩ (.slice A8 n8 c8)).setCell ⟨r, 1, none⟩ (.slice none 0 0) = w8 := ⟨_, rfl⟩
  rw [hw8] at HC8 HT8 ⊢
  clear hw8 p0 p1 q0 q1 HC1 HT1
  go_loopw [6, 7] (fun v6 v7 wr => ∃ (i : Nat) (R9 : Nat → Prop) (fl9 : List RFile), i ≤ Fn ∧ v6 = .int .i64 i ∧ Aside0 (fl9.length = Fn) ∧ Aside0 (RCore w0 wr r (mid d (d.loose.length) (0 : Int) i) R9 (.slice A8 n8 c8) (.slice none 0 0) (.slice Af Fn cf) fl9) ∧ Aside0 (Turn R W R9 wr)) (fun v6 _ _ => Fn - (intOf v6).toNat)
  case atStart => exact ⟨0, R8, fl, by omega, rfl, ⟨HFL.out.symm.trans HFN.out⟩, HC8, HT8⟩
  case round =>
    obtain ⟨i, R9, fl9, hi, rfl, HF9, HC9, HT9⟩ := hrel
    obtain ⟨-, -, p2, -, -, -⟩ := HC9.out.cells
    by_cases hlt : i < Fn
    · have hif : i < fl9.length := by rw [HF9.out]; exact hlt
      obtain ⟨g, cf', efl, -, -, f0, f1, fr0, fr1⟩ := HC9.out.file i hif
      injection efl with efl e2 e3
      clear e2
      subst efl
      subst e3
      have hgr : g ≠ r := (HC9.out.ne.2.2.1 g rfl).1
      have HLT := Aside0.mk hlt
      have hid : i < d.files.length := by rw [HFN.out]; exact hlt
      have hqd : fl9[i].2 = d.files[i] := by
        have h1 := mid_at (d := d) (k := (d.loose.length)) (M := (0 : Int)) hid
        rw [HC9.out.eq, List.getElem?_map, List.getElem?_eq_getElem hif] at h1
        exact Option.some.inj h1
      have hfm := HOK.out.firm _ (List.getElem_mem hid)
      have HEB := Aside0.mk (HC9.out.each _ (List.getElem_mem hif))
      have HCT := Aside0.mk (fun (X : World) (hX : Below wr.heap.size wr X) (v : Value) (b : List UInt8) (hv : BytesIs X wr.heap.size v b) (m : Nat) => fileCut (show RCore w0 wr r (mid d (d.loose.length) (0 : Int) i) R9 (.slice A8 n8 c8) (.slice none 0 0) (.slice (some ⟨g, 0, none⟩) fl9.length cf) fl9 by rw [HF9.out]; exact HC9.out) i hif hX hv m)
      have HCELL := Aside0.mk (fun (X : World) (hX : Below wr.heap.size wr X) => fileCells (show RCore w0 wr r (mid d (d.loose.length) (0 : Int) i) R9 (.slice A8 n8 c8) (.slice none 0 0) (.slice (some ⟨g, 0, none⟩) fl9.length cf) fl9 by rw [HF9.out]; exact HC9.out) hif hX)
      obtain ⟨q, hq⟩ : ∃ q, fl9[i] = q := ⟨_, rfl⟩
      rw [hq] at f0 f1 hqd HEB HCELL
      obtain ⟨bv, u, s⟩ := q
      have HQD := Aside0.mk (show d.files[i] = (u, s) from hqd.symm)
      have HST := Aside0.mk (fun (m : Nat) (hm : m = s + min (max (0 : Int) 0).toNat (u.length - s)) => mid_step (k := (d.loose.length)) (M := (0 : Int)) hid hqd.symm hm)
      rw [← hqd] at hfm
      have hs1 : s ≤ u.length := hfm.1
      have hs2 : u.length ≤ N := hfm.2
      have hbb : ∃ A c, bv = .slice A (B u).length c := own_slice HEB.out
      obtain ⟨Ab, cb, rfl⟩ := hbb
      have hcap : (B u).length ≤ cb := rowCap HEB.out
      have HRE := Aside0.mk (fun X (hX : Below wr.heap.size wr X) => bytesReads (BytesIs.below HEB.out hX))
      obtain ⟨m0, hm0'⟩ : ∃ m0, (B u).length = m0 := ⟨_, rfl⟩
      have hmu : m0 = u.length := by rw [← hm0', B_length]
      simp only [hm0'] at f0 HCELL hcap
      have HMU := Aside0.mk hmu
      have hsl : s ≤ m0 := by omega
      have hml : m0 ≤ 900000 := by have := HN.out; omega
      have HSL := Aside0.mk hsl
      have hw1 : IntKind.i64.wrap ((m0 : Int) - (s : Int)) = (m0 : Int) - (s : Int) := IntWalk.i64_in _ (by omega)
      have HZ9 := Aside0.mk (Below.refl wr.heap.size wr)
      have hal2 : ∀ o : Obj, (wr.alloc o).cell? ⟨r, 2, none⟩ = some (.slice (some ⟨g, 0, none⟩) Fn cf) := fun o => (HC9.out.step (below_alloc (Below.refl _ _) o)).cells.2.2.1
      have hal3 : ∀ o : Obj, (wr.alloc o).cell? ⟨g, i * 2, none⟩ = some (.slice Ab m0 cb) := fun o => (HCELL.out _ (below_alloc (Below.refl _ _) o)).1
      clear hq hqd hfm hs1 hs2 hm0' hmu
      have hM : ¬ (0 : Int) > (m0 : Int) - (s : Int) := by omega
      have hadd : IntKind.i64.wrap (s : Int) = (s : Int) := IntWalk.i64_in _ (by omega)
      have hb1 : (s : Int) ≤ (cb : Int) := by omega
      have HKK := Aside0.mk (show s = s + min (max (0 : Int) 0).toNat (u.length - s) by simp)
      have HTL := Aside0.mk (show s = (u.take s).length ∧ (u.take s).length ≤ 2000000 by rw [List.length_take]; have := HMU.out; omega)
      go_wp2
      refine wp_region_noPanic ?_
      refine wp_region_held_drew (S := (fun X => X.cell? ⟨r, 2, none⟩ = some (.slice (some ⟨g, 0, none⟩) Fn cf))) (by kernel_rfl) ?_ (fun hHeld => ?_)
      · (try dsimp only); first | go_keep | assumption | exact hal2 _
      refine wpAnyH_take (i := 0) (v := ?_) rfl (by kernel_rfl) (by kernel_rfl) (by kernel_rfl) (fun _ _ _ h => h) (Or.inl ⟨by rfl, ?_⟩) (by assumption) ?_
      rotate_left
      · (intro w hSw; (try dsimp only at hSw); (go_simp <;> with_reducible rfl))
      try go_simp
      refine wpAnyH_take (i := 1) (v := ?_) rfl (by kernel_rfl) (by kernel_rfl) (by kernel_rfl) (fun _ _ _ h => h) (Or.inl ⟨by rfl, ?_⟩) (by assumption) ?_
      rotate_left
      · (intro w hSw; (try dsimp only at hSw); (go_simp <;> with_reducible rfl))
      try go_simp
      refine wpAnyH_take (i := 2) (v := ?_) rfl (by kernel_rfl) (by kernel_rfl) (by kernel_rfl) (fun _ _ _ h => h) (Or.inl ⟨by rfl, ?_⟩) (by assumption) ?_
      rotate_left
      · (intro w hSw; (try dsimp only at hSw); (go_simp <;> with_reducible rfl))
      try go_simp
      refine wpAnyH_take (i := 3) (v := ?_) rfl (by kernel_rfl) (by kernel_rfl) (by kernel_rfl) (fun _ _ _ h => h) (Or.inl ⟨by rfl, ?_⟩) (by assumption) ?_
      rotate_left
      · (intro w hSw; (try dsimp only at hSw); (go_simp <;> with_reducible rfl))
      try go_simp
      refine wpAnyH_take (i := 4) (v := ?_) rfl (by kernel_rfl) (by kernel_rfl) (by kernel_rfl) (fun _ _ _ h => h) (Or.inl ⟨by rfl, ?_⟩) (by assumption) ?_
      rotate_left
      · (intro w hSw; (try dsimp only at hSw); (go_simp <;> with_reducible rfl))
      try go_simp
      refine wpAnyH_take (i := 6) (v := ?_) rfl (by kernel_rfl) (by kernel_rfl) (by kernel_rfl) (fun _ _ _ h => h) (Or.inl ⟨by rfl, ?_⟩) (by assumption) ?_
      rotate_left
      · (intro w hSw; (try dsimp only at hSw); (go_simp <;> with_reducible rfl))
      try go_simp
      refine wpAnyH_take (i := 7) (v := ?_) rfl (by kernel_rfl) (by kernel_rfl) (by kernel_rfl) (fun _ _ _ h => h) (Or.inl ⟨by rfl, ?_⟩) (by assumption) ?_
      rotate_left
      · (intro w hSw; (try dsimp only at hSw); (go_simp <;> with_reducible rfl))
      try go_simp
      refine wpAnyH_take (i := 8) (v := ?_) rfl (by kernel_rfl) (by kernel_rfl) (by kernel_rfl) (fun _ _ _ h => h) (Or.inl ⟨by rfl, ?_⟩) (by assumption) ?_
      rotate_left
      · (intro w hSw; (try dsimp only at hSw); (go_simp <;> with_reducible rfl))
      try go_simp
      refine wpAnyH_take (i := 9) (v := ?_) rfl (by kernel_rfl) (by kernel_rfl) (by kernel_rfl) (fun _ _ _ h => h) (Or.inl ⟨by rfl, ?_⟩) (by assumption) ?_
      rotate_left
      · (intro w hSw; (try dsimp only at hSw); (go_simp <;> with_reducible rfl))
      try go_simp
      refine wpAnyH_take (i := 10) (v := ?_) rfl (by kernel_rfl) (by kernel_rfl) (by kernel_rfl) (fun _ _ _ h => h) (Or.inl ⟨by rfl, ?_⟩) (by assumption) ?_
      rotate_left
      · (intro w hSw; (try dsimp only at hSw); (go_simp <;> with_reducible rfl))
      try go_simp
      refine wpAnyH_take (i := 11) (v := ?_) rfl (by kernel_rfl) (by kernel_rfl) (by kernel_rfl) (fun _ _ _ h => h) (Or.inl ⟨by rfl, ?_⟩) (by assumption) ?_
      rotate_left
      · (intro w hSw; (try dsimp only at hSw); (go_simp <;> with_reducible rfl))
      try go_simp
      refine wpAnyH_take (i := 12) (v := ?_) rfl (by kernel_rfl) (by kernel_rfl) (by kernel_rfl) (fun _ _ _ h => h) (Or.inl ⟨by rfl, ?_⟩) (by assumption) ?_
      rotate_left
      · (intro w hSw; (try dsimp only at hSw); (go_simp <;> with_reducible rfl))
      try go_simp
      refine wpAnyH_take (i := 14) (v := ?_) rfl (by kernel_rfl) (by kernel_rfl) (by kernel_rfl) (fun _ _ _ h => h) (Or.inl ⟨by rfl, ?_⟩) (by assumption) ?_
      rotate_left
      · (intro w hSw; (try dsimp only at hSw); (go_simp <;> with_reducible rfl))
      try go_simp
      refine wpAnyH_take (i := 17) (v := ?_) rfl (by kernel_rfl) (by kernel_rfl) (by kernel_rfl) (fun _ _ _ h => h) (Or.inl ⟨by rfl, ?_⟩) (by assumption) ?_
      rotate_left
      · (intro w hSw; (try dsimp only at hSw); (go_simp <;> with_reducible rfl))
      try go_simp
      refine wpAnyH_ready (rs := [5, 13]) (by kernel_rfl) (by simp) ?_
      refine AllReadyH.cons rfl (fun K hK => ?_) ?_
      · skip
        go_simp
        refine hK.out _ _ ?_ (fun hHeld => ?_)
        · (try dsimp only); first | go_keep | assumption | exact hal2 _
        clear hK K
        try go_simp
        refine wpAnyH_ready (rs := [13]) (by kernel_rfl) (by simp) ?_
        refine AllReadyH.cons rfl (fun K hK => ?_) AllReadyH.nil
        go_simp
        refine hK.out _ _ ?_ (fun hHeld => ?_)
        · (try dsimp only); first | go_keep | assumption | exact hal2 _
        clear hK K
        try go_simp
        refine wpAnyH_take (i := 15) (v := ?_) rfl (by kernel_rfl) (by kernel_rfl) (by kernel_rfl) (fun _ _ _ h => h) (Or.inl ⟨by rfl, ?_⟩) (by assumption) ?_
        rotate_left
        · (intro w hSw; (try dsimp only at hSw); (go_simp <;> with_reducible rfl))
        try go_simp
        refine wpAnyH_ready (rs := [16]) (by kernel_rfl) (by simp) ?_
        refine AllReadyH.cons rfl (fun K hK => ?_) AllReadyH.nil
        refine stepW (Wb := wr) (s := []) (v := .slice (some ⟨_, 0, none⟩) 0 0) (by repeat (first | exact HZ9.out | apply below_drew1 | refine below_alloc ?_ _)) rfl (.tmp 83) (.tmp 93) rfl (by first | (simp [Act.eval, Act.put]; done) | (simp [Act.eval, Act.put]; rfl)) (bytesEmpty (by repeat (first | with_reducible exact at_new _ (by simp) | with_reducible apply at_drew | with_reducible refine at_old _ ?_)) (by simp)) (u.take s) (Nat.le_trans (Nat.le_of_eq (Nat.zero_add _)) HTL.out.2) Ab s cb (by first | (simp [Act.eval, Act.put]; done) | (simp [Act.eval, Act.put]; rfl)) HTL.out.1 (readsTake (HRE.out _ (by repeat (first | exact HZ9.out | apply below_drew1 | refine below_alloc ?_ _))) s) ?_
        intro v1 w1 h1 g1
        have HB9 := Aside0.mk g1
        obtain ⟨-, -, s1, -, -⟩ := (HC9.out.step HB9.out).after (Below.refl _ _) (World.grownBy.refl w1 none) (by simp)
        obtain ⟨e1, e2, e3, e4⟩ := HCELL.out _ HB9.out
        have HE := Aside0.mk (HCT.out _ HB9.out _ _ h1 s)
        obtain ⟨A1, n1, c1, rfl⟩ := own_three h1
        clear h1 g1
        refine hK.out _ _ ?_ (fun hHeld => ?_)
        · (try dsimp only); first | go_keep | assumption | exact hal2 _
        clear hK K
        try go_simp
        refine wpAnyH_take (i := 18) (v := ?_) rfl (by kernel_rfl) (by kernel_rfl) (by kernel_rfl) (fun _ _ _ h => h) (Or.inl ⟨by rfl, ?_⟩) (by assumption) ?_
        rotate_left
        · (intro w hSw; (try dsimp only at hSw); (go_simp <;> with_reducible rfl))
        try go_simp
        refine wpAnyH_take (i := 19) (v := ?_) rfl (by kernel_rfl) (by kernel_rfl) (by kernel_rfl) (fun _ _ _ h => h) (Or.inl ⟨by rfl, ?_⟩) (by assumption) ?_
        rotate_left
        · (intro w hSw; (try dsimp only at hSw); (go_simp <;> with_reducible rfl))
        try go_simp
        refine wpAnyH_ready (rs := [20]) (by kernel_rfl) (by simp) ?_
        refine AllReadyH.cons rfl (fun K hK => ?_) AllReadyH.nil
        go_simp
        refine hK.out _ _ ?_ (fun hHeld => ?_)
        · (try dsimp only); first | go_keep | assumption | exact hal2 _
        clear hK K
        try go_simp
        refine wpAnyH_done (by kernel_rfl) ?_ _
        refine NoPanic.normal ?_
        have HGO := Aside0.mk HE.out
        obtain ⟨R10, k1, k2⟩ := HGO.out
        rw [List.nil_append, HST.out s HKK.out, HF9.out] at k1
        have HC10 := Aside0.mk k1
        have HT10 := Aside0.mk (HT9.out.trans k2)
        clear k1 k2 HGO HE
        go_wp2
        go_roundw
        case rel => exact ⟨i + 1, R10, _, (by have := HLT.out; omega), by go_num, ⟨by rw [List.length_set]; exact HF9.out⟩, HC10, HT10⟩
        case measure => (have := HLT.out; simp [intOf]; omega)
      refine AllReadyH.cons rfl (fun K hK => ?_) ?_
      · skip
        go_simp
        refine hK.out _ _ ?_ (fun hHeld => ?_)
        · (try dsimp only); first | go_keep | assumption | exact hal2 _
        clear hK K
        try go_simp
        refine wpAnyH_take (i := 15) (v := ?_) rfl (by kernel_rfl) (by kernel_rfl) (by kernel_rfl) (fun _ _ _ h => h) (Or.inl ⟨by rfl, ?_⟩) (by assumption) ?_
        rotate_left
        · (intro w hSw; (try dsimp only at hSw); (go_simp <;> with_reducible rfl))
        try go_simp
        refine wpAnyH_ready (rs := [5]) (by kernel_rfl) (by simp) ?_
        refine AllReadyH.cons rfl (fun K hK => ?_) AllReadyH.nil
        go_simp
        refine hK.out _ _ ?_ (fun hHeld => ?_)
        · (try dsimp only); first | go_keep | assumption | exact hal2 _
        clear hK K
        try go_simp
        refine wpAnyH_ready (rs := [16]) (by kernel_rfl) (by simp) ?_
        refine AllReadyH.cons rfl (fun K hK => ?_) AllReadyH.nil
        refine stepW (Wb := wr) (s := []) (v := .slice (some ⟨_, 0, none⟩) 0 0) (by repeat (first | exact HZ9.out | apply below_drew1 | refine below_alloc ?_ _)) rfl (.tmp 83) (.tmp 93) rfl (by first | (simp [Act.eval, Act.put]; done) | (simp [Act.eval, Act.put]; rfl)) (bytesEmpty (by repeat (first | with_reducible exact at_new _ (by simp) | with_reducible apply at_drew | with_reducible refine at_old _ ?_)) (by simp)) (u.take s) (Nat.le_trans (Nat.le_of_eq (Nat.zero_add _)) HTL.out.2) Ab s cb (by first | (simp [Act.eval, Act.put]; done) | (simp [Act.eval, Act.put]; rfl)) HTL.out.1 (readsTake (HRE.out _ (by repeat (first | exact HZ9.out | apply below_drew1 | refine below_alloc ?_ _))) s) ?_
        intro v1 w1 h1 g1
        have HB9 := Aside0.mk g1
        obtain ⟨-, -, s1, -, -⟩ := (HC9.out.step HB9.out).after (Below.refl _ _) (World.grownBy.refl w1 none) (by simp)
        obtain ⟨e1, e2, e3, e4⟩ := HCELL.out _ HB9.out
        have HE := Aside0.mk (HCT.out _ HB9.out _ _ h1 s)
        obtain ⟨A1, n1, c1, rfl⟩ := own_three h1
        clear h1 g1
        refine hK.out _ _ ?_ (fun hHeld => ?_)
        · (try dsimp only); first | go_keep | assumption | exact hal2 _
        clear hK K
        try go_simp
        refine wpAnyH_take (i := 18) (v := ?_) rfl (by kernel_rfl) (by kernel_rfl) (by kernel_rfl) (fun _ _ _ h => h) (Or.inl ⟨by rfl, ?_⟩) (by assumption) ?_
        rotate_left
        · (intro w hSw; (try dsimp only at hSw); (go_simp <;> with_reducible rfl))
        try go_simp
        refine wpAnyH_take (i := 19) (v := ?_) rfl (by kernel_rfl) (by kernel_rfl) (by kernel_rfl) (fun _ _ _ h => h) (Or.inl ⟨by rfl, ?_⟩) (by assumption) ?_
        rotate_left
        · (intro w hSw; (try dsimp only at hSw); (go_simp <;> with_reducible rfl))
        try go_simp
        refine wpAnyH_ready (rs := [20]) (by kernel_rfl) (by simp) ?_
        refine AllReadyH.cons rfl (fun K hK => ?_) AllReadyH.nil
        go_simp
        refine hK.out _ _ ?_ (fun hHeld => ?_)
        · (try dsimp only); first | go_keep | assumption | exact hal2 _
        clear hK K
        try go_simp
        refine wpAnyH_done (by kernel_rfl) ?_ _
        refine NoPanic.normal ?_
        have HGO := Aside0.mk HE.out
        obtain ⟨R10, k1, k2⟩ := HGO.out
        rw [List.nil_append, HST.out s HKK.out, HF9.out] at k1
        have HC10 := Aside0.mk k1
        have HT10 := Aside0.mk (HT9.out.trans k2)
        clear k1 k2 HGO HE
        go_wp2
        go_roundw
        case rel => exact ⟨i + 1, R10, _, (by have := HLT.out; omega), by go_num, ⟨by rw [List.length_set]; exact HF9.out⟩, HC10, HT10⟩
        case measure => (have := HLT.out; simp [intOf]; omega)
      exact AllReadyH.nil
      -- END
    · obtain ⟨-, -, -, -, p4, p5⟩ := HC9.out.cells
      have q4 := HC9.out.frozen 4
      have q5 := HC9.out.frozen 5
      have HEND := Aside0.mk (crashEndR HC9.out)
      have HIE := Aside0.mk (show i = d.files.length by rw [HFN.out]; omega)
      go_wp2
      go_end0
      have h9 := RTurn.trans HT9.out HEND.out
      rw [HIE.out] at h9
      exact ⟨rfl, h9⟩
end Go.Proofs.Ytibmgcihpbofdaa.Fs
namespace Go.Proofs.Ytibmgcihpbofdaa.Fs
open Go.RowKit Go.Proofs.Ytibmgcihpbofdaa Go.Proofs.Ytibmgcihpbofdaa.Plain Go.Proofs.YtibmgcihpbofdaaW.PrintWords Go.Maps
set_option linter.unusedVariables false
set_option linter.unusedSimpArgs false
set_option maxHeartbeats 4000000 in
set_option maxRecDepth 100000 in
theorem crashhi1 {w0 W : World} {r : Nat} {d : RDisk} {R : Nat → Prop} {N : Nat} (h : RAt w0 r d R W) (hok : ROk d N) (hN : N ≤ 900000) (nn : Int) (mn : Nat) (hmn : mn ≤ 9223372036854775807) (hn : ¬ nn < 0) (hL : ¬ nn < (d.loose.length : Int)) :
    Calls Try.prog 44 #[.pointer (some ⟨r, 0, none⟩), .int .i64 nn, .int .i64 (mn : Int)] W fun e W' => e = .returned (.tuple #[]) ∧ RTurn w0 r { mid d d.loose.length (mn : Int) d.files.length with fuse := -1, off := false } R W W' := by
  obtain ⟨vs, vl, vf, fl, c0⟩ := h
  obtain ⟨⟨As, cs, rfl⟩, ⟨Al, cl, rfl⟩, ⟨Af, cf, rfl⟩⟩ := c0.slices
  have HOK := Aside0.mk hok
  have HN := Aside0.mk hN
  have HFL := Aside0.mk c0.len
  obtain ⟨Fn, hFn⟩ : ∃ Fn, fl.length = Fn := ⟨_, rfl⟩
  have HFN := Aside0.mk (show d.files.length = Fn by rw [← hFn]; exact c0.len)
  obtain ⟨p0, p1, p2, -, -, -⟩ := c0.cells
  have q1 := c0.frozen 1
  have et : ({ d with loose := d.loose.take (d.loose.length) } : RDisk) = d := by rw [List.take_of_length_le (by omega)]
  have HC1 : Aside0 (RCore w0 W r { d with loose := d.loose.take (d.loose.length) } R (.slice As d.sure.length cs) (.slice Al d.loose.length cl) (.slice Af fl.length cf) fl) := ⟨by rw [et]; exact c0⟩
  have HT1 := Aside0.mk (Turn.refl R W)
  obtain ⟨L, hL'⟩ : ∃ L, d.loose.length = L := ⟨_, rfl⟩
  have HLL := Aside0.mk hL'
  rw [hL'] at p1 hL
  clear hL' et
  rw [hFn] at p2 HC1
  clear hFn
  have hfb : Fn ≤ 900000 := by rw [← HFN.out]; have := hok.many.2; omega
  clear c0 hok hN
  have hm0 : ¬ (mn : Int) < 0 := by omega
  go_enter Try.func44, Try.ntmps44
  go_wp2_with (go_at_call 46; refine (dirIs ⟨_, _, _, _, HC1.out⟩ (HOK.out.cut _) (by have := HN.out; omega)).mono ?_; rintro e W8 ⟨v8, rfl, hD⟩; obtain ⟨R8, k1, k2⟩ := firmEnd HC1.out hD (p' := mid d (d.loose.length) (mn : Int) 0) (mid_zero _ _ _); have HC8 := Aside0.mk k1; have HT8 := Aside0.mk (HT1.out.trans k2); have hc8 := HC1.out.step hD.below; obtain ⟨A8, n8, c8, rfl⟩ := own_three hD.row; clear p0 p1 p2 q1; obtain ⟨p0, p1, -, -, -, -⟩ := hc8.cells; have q0 := hc8.frozen 0; have q1 := hc8.frozen 1; clear hc8 hD k1 k2)
  obtain ⟨w8, hw8⟩ : ∃ w8, (W8.setCell ⟨r, 0, none⟩ (.slice A8 n8 c8)).setCell ⟨r, 1, none⟩ (.slice none 0 0) = w8 := ⟨_, rfl⟩
  rw [hw8] at HC8 HT8 ⊢
  clear hw8 p0 p1 q0 q1 HC1 HT1
  go_loopw [6, 7] (fun v6 v7 wr => ∃ (i : Nat) (R9 : Nat → Prop) (fl9 : List RFile), i ≤ Fn ∧ v6 = .int .i64 i ∧ Aside0 (fl9.length = Fn) ∧ Aside0 (RCore w0 wr r (mid d (d.loose.length) (mn : Int) i) R9 (.slice A8 n8 c8) (.slice none 0 0) (.slice Af Fn cf) fl9) ∧ Aside0 (Turn R W R9 wr)) (fun v6 _ _ => Fn - (intOf v6).toNat)
  case atStart => exact ⟨0, R8, fl, by omega, rfl, ⟨HFL.out.symm.trans HFN.out⟩, HC8, HT8⟩
  case round =>
    obtain ⟨i, R9, fl9, hi, rfl, HF9, HC9, HT9⟩ := hrel
    obtain ⟨-, -, p2, -, -, -⟩ := HC9.out.cells
    by_cases hlt : i < Fn
    · have hif : i < fl9.length := by rw [HF9.out]; exact hlt
      obtain ⟨g, cf', efl, -, -, f0, f1, fr0, fr1⟩ := HC9.out.file i hif
      injection efl with efl e2 e3
      clear e2
      subst efl
      subst e3
      have hgr : g ≠ r := (HC9.out.ne.2.2.1 g rfl).1
      have HLT := Aside0.mk hlt
      have hid : i < d.files.length := by rw [HFN.out]; exact hlt
      have hqd : fl9[i].2 = d.files[i] := by
        have h1 := mid_at (d := d) (k := (d.loose.length)) (M := (mn : Int)) hid
        rw [HC9.out.eq, List.getElem?_map, List.getElem?_eq_getElem hif] at h1
        exact Option.some.inj h1
      have hfm := HOK.out.firm _ (List.getElem_mem hid)
      have HEB := Aside0.mk (HC9.out.each _ (List.getElem_mem hif))
      have HCT := Aside0.mk (fun (X : World) (hX : Below wr.heap.size wr X) (v : Value) (b : List UInt8) (hv : BytesIs X wr.heap.size v b) (m : Nat) => fileCut (show RCore w0 wr r (mid d (d.loose.length) (mn : Int) i) R9 (.slice A8 n8 c8) (.slice none 0 0) (.slice (some ⟨g, 0, none⟩) fl9.length cf) fl9 by rw [HF9.out]; exact HC9.out) i hif hX hv m)
      have HCELL := Aside0.mk (fun (X : World) (hX : Below wr.heap.size wr X) => fileCells (show RCore w0 wr r (mid d (d.loose.length) (mn : Int) i) R9 (.slice A8 n8 c8) (.slice none 0 0) (.slice (some ⟨g, 0, none⟩) fl9.length cf) fl9 by rw [HF9.out]; exact HC9.out) hif hX)
      obtain ⟨q, hq⟩ : ∃ q, fl9[i] = q := ⟨_, rfl⟩
      rw [hq] at f0 f1 hqd HEB HCELL
      obtain ⟨bv, u, s⟩ := q
      have HQD := Aside0.mk (show d.files[i] = (u, s) from hqd.symm)
      have HST := Aside0.mk (fun (m : Nat) (hm : m = s + min (max (mn : Int) 0).toNat (u.length - s)) => mid_step (k := (d.loose.length)) (M := (mn : Int)) hid hqd.symm hm)
      rw [← hqd] at hfm
      have hs1 : s ≤ u.length := hfm.1
      have hs2 : u.length ≤ N := hfm.2
      have hbb : ∃ A c, bv = .slice A (B u).length c := own_slice HEB.out
      obtain ⟨Ab, cb, rfl⟩ := hbb
      have hcap : (B u).length ≤ cb := rowCap HEB.out
      have HRE := Aside0.mk (fun X (hX : Below wr.heap.size wr X) => bytesReads (BytesIs.below HEB.out hX))
      obtain ⟨m0, hm0'⟩ : ∃ m0, (B u).length = m0 := ⟨_, rfl⟩
      have hmu : m0 = u.length := by rw [← hm0', B_length]
      simp only [hm0'] at f0 HCELL hcap
      have HMU := Aside0.mk hmu
      have hsl : s ≤ m0 := by omega
      have hml : m0 ≤ 900000 := by have := HN.out; omega
      have HSL := Aside0.mk hsl
      have hw1 : IntKind.i64.wrap ((m0 : Int) - (s : Int)) = (m0 : Int) - (s : Int) := IntWalk.i64_in _ (by omega)
      have HZ9 := Aside0.mk (Below.refl wr.heap.size wr)
      have hal2 : ∀ o : Obj, (wr.alloc o).cell? ⟨r, 2, none⟩ = some (.slice (some ⟨g, 0, none⟩) Fn cf) := fun o => (HC9.out.step (below_alloc (Below.refl _ _) o)).cells.2.2.1
      have hal3 : ∀ o : Obj, (wr.alloc o).cell? ⟨g, i * 2, none⟩ = some (.slice Ab m0 cb) := fun o => (HCELL.out _ (below_alloc (Below.refl _ _) o)).1
      clear hq hqd hfm hs1 hs2 hm0' hmu
      by_cases hM : (mn : Int) > (m0 : Int) - (s : Int)
      · have hb1 : (m0 : Int) ≤ (cb : Int) := by omega
        have HKK := Aside0.mk (show m0 = s + min (max (mn : Int) 0).toNat (u.length - s) by have := HMU.out; omega)
        have HTL := Aside0.mk (show m0 = (u.take m0).length ∧ (u.take m0).length ≤ 2000000 by rw [List.length_take]; have := HMU.out; omega)
        go_wp2
        refine wp_region_noPanic ?_
        refine wp_region_held_drew (S := (fun X => X.cell? ⟨r, 2, none⟩ = some (.slice (some ⟨g, 0, none⟩) Fn cf))) (by kernel_rfl) ?_ (fun hHeld => ?_)
        · (try dsimp only); first | go_keep | assumption | exact hal2 _
        refine wpAnyH_take (i := 0) (v := ?_) rfl (by kernel_rfl) (by kernel_rfl) (by kernel_rfl) (fun _ _ _ h => h) (Or.inl ⟨by rfl, ?_⟩) (by assumption) ?_
        rotate_left
        · (intro w hSw; (try dsimp only at hSw); (go_simp <;> with_reducible rfl))
        try go_simp
        refine wpAnyH_take (i := 1) (v := ?_) rfl (by kernel_rfl) (by kernel_rfl) (by kernel_rfl) (fun _ _ _ h => h) (Or.inl ⟨by rfl, ?_⟩) (by assumption) ?_
        rotate_left
        · (intro w hSw; (try dsimp only at hSw); (go_simp <;> with_reducible rfl))
        try go_simp
        refine wpAnyH_take (i := 2) (v := ?_) rfl (by kernel_rfl) (by kernel_rfl) (by kernel_rfl) (fun _ _ _ h => h) (Or.inl ⟨by rfl, ?_⟩) (by assumption) ?_
        rotate_left
        · (intro w hSw; (try dsimp only at hSw); (go_simp <;> with_reducible rfl))
        try go_simp
        refine wpAnyH_take (i := 3) (v := ?_) rfl (by kernel_rfl) (by kernel_rfl) (by kernel_rfl) (fun _ _ _ h => h) (Or.inl ⟨by rfl, ?_⟩) (by assumption) ?_
        rotate_left
        · (intro w hSw; (try dsimp only at hSw); (go_simp <;> with_reducible rfl))
        try go_simp
        refine wpAnyH_take (i := 4) (v := ?_) rfl (by kernel_rfl) (by kernel_rfl) (by kernel_rfl) (fun _ _ _ h => h) (Or.inl ⟨by rfl, ?_⟩) (by assumption) ?_
        rotate_left
        · (intro w hSw; (try dsimp only at hSw); (go_simp <;> with_reducible rfl))
        try go_simp
        refine wpAnyH_take (i := 6) (v := ?_) rfl (by kernel_rfl) (by kernel_rfl) (by kernel_rfl) (fun _ _ _ h => h) (Or.inl ⟨by rfl, ?_⟩) (by assumption) ?_
        rotate_left
        · (intro w hSw; (try dsimp only at hSw); (go_simp <;> with_reducible rfl))
        try go_simp
        refine wpAnyH_take (i := 7) (v := ?_) rfl (by kernel_rfl) (by kernel_rfl) (by kernel_rfl) (fun _ _ _ h => h) (Or.inl ⟨by rfl, ?_⟩) (by assumption) ?_
        rotate_left
        · (intro w hSw; (try dsimp only at hSw); (go_simp <;> with_reducible rfl))
        try go_simp
        refine wpAnyH_take (i := 8) (v := ?_) rfl (by kernel_rfl) (by kernel_rfl) (by kernel_rfl) (fun _ _ _ h => h) (Or.inl ⟨by rfl, ?_⟩) (by assumption) ?_
        rotate_left
        · (intro w hSw; (try dsimp only at hSw); (go_simp <;> with_reducible rfl))
        try go_simp
        refine wpAnyH_take (i := 9) (v := ?_) rfl (by kernel_rfl) (by kernel_rfl) (by kernel_rfl) (fun _ _ _ h => h) (Or.inl ⟨by rfl, ?_⟩) (by assumption) ?_
        rotate_left
        · (intro w hSw; (try dsimp only at hSw); (go_simp <;> with_reducible rfl))
        try go_simp
        refine wpAnyH_take (i := 10) (v := ?_) rfl (by kernel_rfl) (by kernel_rfl) (by kernel_rfl) (fun _ _ _ h => h) (Or.inl ⟨by rfl, ?_⟩) (by assumption) ?_
        rotate_left
        · (intro w hSw; (try dsimp only at hSw); (go_simp <;> with_reducible rfl))
        try go_simp
        refine wpAnyH_take (i := 11) (v := ?_) rfl (by kernel_rfl) (by kernel_rfl) (by kernel_rfl) (fun _ _ _ h => h) (Or.inl ⟨by rfl, ?_⟩) (by assumption) ?_
        rotate_left
        · (intro w hSw; (try dsimp only at hSw); (go_simp <;> with_reducible rfl))
        try go_simp
        refine wpAnyH_take (i := 12) (v := ?_) rfl (by kernel_rfl) (by kernel_rfl) (by kernel_rfl) (fun _ _ _ h => h) (Or.inl ⟨by rfl, ?_⟩) (by assumption) ?_
        rotate_left
        · (intro w hSw; (try dsimp only at hSw); (go_simp <;> with_reducible rfl))
        try go_simp
        refine wpAnyH_take (i := 14) (v := ?_) rfl (by kernel_rfl) (by kernel_rfl) (by kernel_rfl) (fun _ _ _ h => h) (Or.inl ⟨by rfl, ?_⟩) (by assumption) ?_
        rotate_left
        · (intro w hSw; (try dsimp only at hSw); (go_simp <;> with_reducible rfl))
        try go_simp
        refine wpAnyH_take (i := 17) (v := ?_) rfl (by kernel_rfl) (by kernel_rfl) (by kernel_rfl) (fun _ _ _ h => h) (Or.inl ⟨by rfl, ?_⟩) (by assumption) ?_
        rotate_left
        · (intro w hSw; (try dsimp only at hSw); (go_simp <;> with_reducible rfl))
        try go_simp
        refine wpAnyH_ready (rs := [5, 13]) (by kernel_rfl) (by simp) ?_
        refine AllReadyH.cons rfl (fun K hK => ?_) ?_
        · skip
          go_simp
          refine hK.out _ _ ?_ (fun hHeld => ?_)
          · (try dsimp only); first | go_keep | assumption | exact hal2 _
          clear hK K
          try go_simp
          refine wpAnyH_ready (rs := [13]) (by kernel_rfl) (by simp) ?_
          refine AllReadyH.cons rfl (fun K hK => ?_) AllReadyH.nil
          go_simp
          refine hK.out _ _ ?_ (fun hHeld => ?_)
          · (try dsimp only); first | go_keep | assumption | exact hal2 _
          clear hK K
          try go_simp
          refine wpAnyH_take (i := 15) (v := ?_) rfl (by kernel_rfl) (by kernel_rfl) (by kernel_rfl) (fun _ _ _ h => h) (Or.inl ⟨by rfl, ?_⟩) (by assumption) ?_
          rotate_left
          · (intro w hSw; (try dsimp only at hSw); (go_simp <;> with_reducible rfl))
          try go_simp
          refine wpAnyH_ready (rs := [16]) (by kernel_rfl) (by simp) ?_
          refine AllReadyH.cons rfl (fun K hK => ?_) AllReadyH.nil
          refine stepW (Wb := wr) (s := []) (v := .slice (some ⟨_, 0, none⟩) 0 0) (by repeat (first | exact HZ9.out | apply below_drew1 | refine below_alloc ?_ _)) rfl (.tmp 83) (.tmp 93) rfl (by first | (simp [Act.eval, Act.put]; done) | (simp [Act.eval, Act.put]; rfl)) (bytesEmpty (by repeat (first | with_reducible exact at_new _ (by simp) | with_reducible apply at_drew | with_reducible refine at_old _ ?_)) (by simp)) (u.take m0) (Nat.le_trans (Nat.le_of_eq (Nat.zero_add _)) HTL.out.2) Ab m0 cb (by first | (simp [Act.eval, Act.put]; done) | (simp [Act.eval, Act.put]; rfl)) HTL.out.1 (readsTake (HRE.out _ (by repeat (first | exact HZ9.out | apply below_drew1 | refine below_alloc ?_ _))) m0) ?_
          intro v1 w1 h1 g1
          have HB9 := Aside0.mk g1
          obtain ⟨-, -, s1, -, -⟩ := (HC9.out.step HB9.out).after (Below.refl _ _) (World.grownBy.refl w1 none) (by simp)
          obtain ⟨e1, e2, e3, e4⟩ := HCELL.out _ HB9.out
          have HE := Aside0.mk (HCT.out _ HB9.out _ _ h1 m0)
          obtain ⟨A1, n1, c1, rfl⟩ := own_three h1
          clear h1 g1
          refine hK.out _ _ ?_ (fun hHeld => ?_)
          · (try dsimp only); first | go_keep | assumption | exact hal2 _
          clear hK K
          try go_simp
          refine wpAnyH_take (i := 18) (v := ?_) rfl (by kernel_rfl) (by kernel_rfl) (by kernel_rfl) (fun _ _ _ h => h) (Or.inl ⟨by rfl, ?_⟩) (by assumption) ?_
          rotate_left
          · (intro w hSw; (try dsimp only at hSw); (go_simp <;> with_reducible rfl))
          try go_simp
          refine wpAnyH_take (i := 19) (v := ?_) rfl (by kernel_rfl) (by kernel_rfl) (by kernel_rfl) (fun _ _ _ h => h) (Or.inl ⟨by rfl, ?_⟩) (by assumption) ?_
          rotate_left
          · (intro w hSw; (try dsimp only at hSw); (go_simp <;> with_reducible rfl))
          try go_simp
          refine wpAnyH_ready (rs := [20]) (by kernel_rfl) (by simp) ?_
          refine AllReadyH.cons rfl (fun K hK => ?_) AllReadyH.nil
          go_simp
          refine hK.out _ _ ?_ (fun hHeld => ?_)
          · (try dsimp only); first | go_keep | assumption | exact hal2 _
          clear hK K
          try go_simp
          refine wpAnyH_done (by kernel_rfl) ?_ _
          refine NoPanic.normal ?_
          have HGO := Aside0.mk HE.out
          obtain ⟨R10, k1, k2⟩ := HGO.out
          rw [List.nil_append, HST.out m0 HKK.out, HF9.out] at k1
          have HC10 := Aside0.mk k1
          have HT10 := Aside0.mk (HT9.out.trans k2)
          clear k1 k2 HGO HE
          go_wp2
          go_roundw
          case rel => exact ⟨i + 1, R10, _, (by have := HLT.out; omega), by go_num, ⟨by rw [List.length_set]; exact HF9.out⟩, HC10, HT10⟩
          case measure => (have := HLT.out; simp [intOf]; omega)
        refine AllReadyH.cons rfl (fun K hK => ?_) ?_
        · skip
          go_simp
          refine hK.out _ _ ?_ (fun hHeld => ?_)
          · (try dsimp only); first | go_keep | assumption | exact hal2 _
          clear hK K
          try go_simp
          refine wpAnyH_take (i := 15) (v := ?_) rfl (by kernel_rfl) (by kernel_rfl) (by kernel_rfl) (fun _ _ _ h => h) (Or.inl ⟨by rfl, ?_⟩) (by assumption) ?_
          rotate_left
          · (intro w hSw; (try dsimp only at hSw); (go_simp <;> with_reducible rfl))
          try go_simp
          refine wpAnyH_ready (rs := [5]) (by kernel_rfl) (by simp) ?_
          refine AllReadyH.cons rfl (fun K hK => ?_) AllReadyH.nil
          go_simp
          refine hK.out _ _ ?_ (fun hHeld => ?_)
          · (try dsimp only); first | go_keep | assumption | exact hal2 _
          clear hK K
          try go_simp
          refine wpAnyH_ready (rs := [16]) (by kernel_rfl) (by simp) ?_
          refine AllReadyH.cons rfl (fun K hK => ?_) AllReadyH.nil
          refine stepW (Wb := wr) (s := []) (v := .slice (some ⟨_, 0, none⟩) 0 0) (by repeat (first | exact HZ9.out | apply below_drew1 | refine below_alloc ?_ _)) rfl (.tmp 83) (.tmp 93) rfl (by first | (simp [Act.eval, Act.put]; done) | (simp [Act.eval, Act.put]; rfl)) (bytesEmpty (by repeat (first | with_reducible exact at_new _ (by simp) | with_reducible apply at_drew | with_reducible refine at_old _ ?_)) (by simp)) (u.take m0) (Nat.le_trans (Nat.le_of_eq (Nat.zero_add _)) HTL.out.2) Ab m0 cb (by first | (simp [Act.eval, Act.put]; done) | (simp [Act.eval, Act.put]; rfl)) HTL.out.1 (readsTake (HRE.out _ (by repeat (first | exact HZ9.out | apply below_drew1 | refine below_alloc ?_ _))) m0) ?_
          intro v1 w1 h1 g1
          have HB9 := Aside0.mk g1
          obtain ⟨-, -, s1, -, -⟩ := (HC9.out.step HB9.out).after (Below.refl _ _) (World.grownBy.refl w1 none) (by simp)
          obtain ⟨e1, e2, e3, e4⟩ := HCELL.out _ HB9.out
          have HE := Aside0.mk (HCT.out _ HB9.out _ _ h1 m0)
          obtain ⟨A1, n1, c1, rfl⟩ := own_three h1
          clear h1 g1
          refine hK.out _ _ ?_ (fun hHeld => ?_)
          · (try dsimp only); first | go_keep | assumption | exact hal2 _
          clear hK K
          try go_simp
          refine wpAnyH_take (i := 18) (v := ?_) rfl (by kernel_rfl) (by kernel_rfl) (by kernel_rfl) (fun _ _ _ h => h) (Or.inl ⟨by rfl, ?_⟩) (by assumption) ?_
          rotate_left
          · (intro w hSw; (try dsimp only at hSw); (go_simp <;> with_reducible rfl))
          try go_simp
          refine wpAnyH_take (i := 19) (v := ?_) rfl (by kernel_rfl) (by kernel_rfl) (by kernel_rfl) (fun _ _ _ h => h) (Or.inl ⟨by rfl, ?_⟩) (by assumption) ?_
          rotate_left
          · (intro w hSw; (try dsimp only at hSw); (go_simp <;> with_reducible rfl))
          try go_simp
          refine wpAnyH_ready (rs := [20]) (by kernel_rfl) (by simp) ?_
          refine AllReadyH.cons rfl (fun K hK => ?_) AllReadyH.nil
          go_simp
          refine hK.out _ _ ?_ (fun hHeld => ?_)
          · (try dsimp only); first | go_keep | assumption | exact hal2 _
          clear hK K
          try go_simp
          refine wpAnyH_done (by kernel_rfl) ?_ _
          refine NoPanic.normal ?_
          have HGO := Aside0.mk HE.out
          obtain ⟨R10, k1, k2⟩ := HGO.out
          rw [List.nil_append, HST.out m0 HKK.out, HF9.out] at k1
          have HC10 := Aside0.mk k1
          have HT10 := Aside0.mk (HT9.out.trans k2)
          clear k1 k2 HGO HE
          go_wp2
          go_roundw
          case rel => exact ⟨i + 1, R10, _, (by have := HLT.out; omega), by go_num, ⟨by rw [List.length_set]; exact HF9.out⟩, HC10, HT10⟩
          case measure => (have := HLT.out; simp [intOf]; omega)
        exact AllReadyH.nil
        -- END
      · obtain ⟨kk, hkk⟩ : ∃ kk, s + mn = kk := ⟨_, rfl⟩
        have hadd : IntKind.i64.wrap ((s : Int) + (mn : Int)) = (kk : Int) := by rw [IntWalk.i64_in _ (by omega)]; omega
        have hb1 : (kk : Int) ≤ (cb : Int) := by omega
        have hb2 : (0 : Int) ≤ (kk : Int) := by omega
        have HKK := Aside0.mk (show kk = s + min (max (mn : Int) 0).toNat (u.length - s) by have := HMU.out; omega)
        have HTL := Aside0.mk (show kk = (u.take kk).length ∧ (u.take kk).length ≤ 2000000 by rw [List.length_take]; have := HMU.out; omega)
        clear hkk
        go_wp2
        refine wp_region_noPanic ?_
        refine wp_region_held_drew (S := (fun X => X.cell? ⟨r, 2, none⟩ = some (.slice (some ⟨g, 0, none⟩) Fn cf))) (by kernel_rfl) ?_ (fun hHeld => ?_)
        · (try dsimp only); first | go_keep | assumption | exact hal2 _
        refine wpAnyH_take (i := 0) (v := ?_) rfl (by kernel_rfl) (by kernel_rfl) (by kernel_rfl) (fun _ _ _ h => h) (Or.inl ⟨by rfl, ?_⟩) (by assumption) ?_
        rotate_left
        · (intro w hSw; (try dsimp only at hSw); (go_simp <;> with_reducible rfl))
        try go_simp
        refine wpAnyH_take (i := 1) (v := ?_) rfl (by kernel_rfl) (by kernel_rfl) (by kernel_rfl) (fun _ _ _ h => h) (Or.inl ⟨by rfl, ?_⟩) (by assumption) ?_
        rotate_left
        · (intro w hSw; (try dsimp only at hSw); (go_simp <;> with_reducible rfl))
        try go_simp
        refine wpAnyH_take (i := 2) (v := ?_) rfl (by kernel_rfl) (by kernel_rfl) (by kernel_rfl) (fun _ _ _ h => h) (Or.inl ⟨by rfl, ?_⟩) (by assumption) ?_
        rotate_left
        · (intro w hSw; (try dsimp only at hSw); (go_simp <;> with_reducible rfl))
        try go_simp
        refine wpAnyH_take (i := 3) (v := ?_) rfl (by kernel_rfl) (by kernel_rfl) (by kernel_rfl) (fun _ _ _ h => h) (Or.inl ⟨by rfl, ?_⟩) (by assumption) ?_
        rotate_left
        · (intro w hSw; (try dsimp only at hSw); (go_simp <;> with_reducible rfl))
        try go_simp
        refine wpAnyH_take (i := 4) (v := ?_) rfl (by kernel_rfl) (by kernel_rfl) (by kernel_rfl) (fun _ _ _ h => h) (Or.inl ⟨by rfl, ?_⟩) (by assumption) ?_
        rotate_left
        · (intro w hSw; (try dsimp only at hSw); (go_simp <;> with_reducible rfl))
        try go_simp
        refine wpAnyH_take (i := 6) (v := ?_) rfl (by kernel_rfl) (by kernel_rfl) (by kernel_rfl) (fun _ _ _ h => h) (Or.inl ⟨by rfl, ?_⟩) (by assumption) ?_
        rotate_left
        · (intro w hSw; (try dsimp only at hSw); (go_simp <;> with_reducible rfl))
        try go_simp
        refine wpAnyH_take (i := 7) (v := ?_) rfl (by kernel_rfl) (by kernel_rfl) (by kernel_rfl) (fun _ _ _ h => h) (Or.inl ⟨by rfl, ?_⟩) (by assumption) ?_
        rotate_left
        · (intro w hSw; (try dsimp only at hSw); (go_simp <;> with_reducible rfl))
        try go_simp
        refine wpAnyH_take (i := 8) (v := ?_) rfl (by kernel_rfl) (by kernel_rfl) (by kernel_rfl) (fun _ _ _ h => h) (Or.inl ⟨by rfl, ?_⟩) (by assumption) ?_
        rotate_left
        · (intro w hSw; (try dsimp only at hSw); (go_simp <;> with_reducible rfl))
        try go_simp
        refine wpAnyH_take (i := 9) (v := ?_) rfl (by kernel_rfl) (by kernel_rfl) (by kernel_rfl) (fun _ _ _ h => h) (Or.inl ⟨by rfl, ?_⟩) (by assumption) ?_
        rotate_left
        · (intro w hSw; (try dsimp only at hSw); (go_simp <;> with_reducible rfl))
        try go_simp
        refine wpAnyH_take (i := 10) (v := ?_) rfl (by kernel_rfl) (by kernel_rfl) (by kernel_rfl) (fun _ _ _ h => h) (Or.inl ⟨by rfl, ?_⟩) (by assumption) ?_
        rotate_left
        · (intro w hSw; (try dsimp only at hSw); (go_simp <;> with_reducible rfl))
        try go_simp
        refine wpAnyH_take (i := 11) (v := ?_) rfl (by kernel_rfl) (by kernel_rfl) (by kernel_rfl) (fun _ _ _ h => h) (Or.inl ⟨by rfl, ?_⟩) (by assumption) ?_
        rotate_left
        · (intro w hSw; (try dsimp only at hSw); (go_simp <;> with_reducible rfl))
        try go_simp
        refine wpAnyH_take (i := 12) (v := ?_) rfl (by kernel_rfl) (by kernel_rfl) (by kernel_rfl) (fun _ _ _ h => h) (Or.inl ⟨by rfl, ?_⟩) (by assumption) ?_
        rotate_left
        · (intro w hSw; (try dsimp only at hSw); (go_simp <;> with_reducible rfl))
        try go_simp
        refine wpAnyH_take (i := 14) (v := ?_) rfl (by kernel_rfl) (by kernel_rfl) (by kernel_rfl) (fun _ _ _ h => h) (Or.inl ⟨by rfl, ?_⟩) (by assumption) ?_
        rotate_left
        · (intro w hSw; (try dsimp only at hSw); (go_simp <;> with_reducible rfl))
        try go_simp
        refine wpAnyH_take (i := 17) (v := ?_) rfl (by kernel_rfl) (by kernel_rfl) (by kernel_rfl) (fun _ _ _ h => h) (Or.inl ⟨by rfl, ?_⟩) (by assumption) ?_
        rotate_left
        · (intro w hSw; (try dsimp only at hSw); (go_simp <;> with_reducible rfl))
        try go_simp
        refine wpAnyH_ready (rs := [5, 13]) (by kernel_rfl) (by simp) ?_
        refine AllReadyH.cons rfl (fun K hK => ?_) ?_
        · skip
          go_simp
          refine hK.out _ _ ?_ (fun hHeld => ?_)
          · (try dsimp only); first | go_keep | assumption | exact hal2 _
          clear hK K
          try go_simp
          refine wpAnyH_ready (rs := [13]) (by kernel_rfl) (by simp) ?_
          refine AllReadyH.cons rfl (fun K hK => ?_) AllReadyH.nil
          go_simp
          refine hK.out _ _ ?_ (fun hHeld => ?_)
          · (try dsimp only); first | go_keep | assumption | exact hal2 _
          clear hK K
          try go_simp
          refine wpAnyH_take (i := 15) (v := ?_) rfl (by kernel_rfl) (by kernel_rfl) (by kernel_rfl) (fun _ _ _ h => h) (Or.inl ⟨by rfl, ?_⟩) (by assumption) ?_
          rotate_left
          · (intro w hSw; (try dsimp only at hSw); (go_simp <;> with_reducible rfl))
          try go_simp
          refine wpAnyH_ready (rs := [16]) (by kernel_rfl) (by simp) ?_
          refine AllReadyH.cons rfl (fun K hK => ?_) AllReadyH.nil
          refine stepW (Wb := wr) (s := []) (v := .slice (some ⟨_, 0, none⟩) 0 0) (by repeat (first | exact HZ9.out | apply below_drew1 | refine below_alloc ?_ _)) rfl (.tmp 83) (.tmp 93) rfl (by first | (simp [Act.eval, Act.put]; done) | (simp [Act.eval, Act.put]; rfl)) (bytesEmpty (by repeat (first | with_reducible exact at_new _ (by simp) | with_reducible apply at_drew | with_reducible refine at_old _ ?_)) (by simp)) (u.take kk) (Nat.le_trans (Nat.le_of_eq (Nat.zero_add _)) HTL.out.2) Ab kk cb (by first | (simp [Act.eval, Act.put]; done) | (simp [Act.eval, Act.put]; rfl)) HTL.out.1 (readsTake (HRE.out _ (by repeat (first | exact HZ9.out | apply below_drew1 | refine below_alloc ?_ _))) kk) ?_
          intro v1 w1 h1 g1
          have HB9 := Aside0.mk g1
          obtain ⟨-, -, s1, -, -⟩ := (HC9.out.step HB9.out).after (Below.refl _ _) (World.grownBy.refl w1 none) (by simp)
          obtain ⟨e1, e2, e3, e4⟩ := HCELL.out _ HB9.out
          have HE := Aside0.mk (HCT.out _ HB9.out _ _ h1 kk)
          obtain ⟨A1, n1, c1, rfl⟩ := own_three h1
          clear h1 g1
          refine hK.out _ _ ?_ (fun hHeld => ?_)
          · (try dsimp only); first | go_keep | assumption | exact hal2 _
          clear hK K
          try go_simp
          refine wpAnyH_take (i := 18) (v := ?_) rfl (by kernel_rfl) (by kernel_rfl) (by kernel_rfl) (fun _ _ _ h => h) (Or.inl ⟨by rfl, ?_⟩) (by assumption) ?_
          rotate_left
          · (intro w hSw; (try dsimp only at hSw); (go_simp <;> with_reducible rfl))
          try go_simp
          refine wpAnyH_take (i := 19) (v := ?_) rfl (by kernel_rfl) (by kernel_rfl) (by kernel_rfl) (fun _ _ _ h => h) (Or.inl ⟨by rfl, ?_⟩) (by assumption) ?_
          rotate_left
          · (intro w hSw; (try dsimp only at hSw); (go_simp <;> with_reducible rfl))
          try go_simp
          refine wpAnyH_ready (rs := [20]) (by kernel_rfl) (by simp) ?_
          refine AllReadyH.cons rfl (fun K hK => ?_) AllReadyH.nil
          go_simp
          refine hK.out _ _ ?_ (fun hHeld => ?_)
          · (try dsimp only); first | go_keep | assumption | exact hal2 _
          clear hK K
          try go_simp
          refine wpAnyH_done (by kernel_rfl) ?_ _
          refine NoPanic.normal ?_
          have HGO := Aside0.mk HE.out
          obtain ⟨R10, k1, k2⟩ := HGO.out
          rw [List.nil_append, HST.out kk HKK.out, HF9.out] at k1
          have HC10 := Aside0.mk k1
          have HT10 := Aside0.mk (HT9.out.trans k2)
          clear k1 k2 HGO HE
          go_wp2
          go_roundw
          case rel => exact ⟨i + 1, R10, _, (by have := HLT.out; omega), by go_num, ⟨by rw [List.length_set]; exact HF9.out⟩, HC10, HT10⟩
          case measure => (have := HLT.out; simp [intOf]; omega)
        refine AllReadyH.cons rfl (fun K hK => ?_) ?_
        · skip
          go_simp
          refine hK.out _ _ ?_ (fun hHeld => ?_)
          · (try dsimp only); first | go_keep | assumption | exact hal2 _
          clear hK K
          try go_simp
          refine wpAnyH_take (i := 15) (v := ?_) rfl (by kernel_rfl) (by kernel_rfl) (by kernel_rfl) (fun _ _ _ h => h) (Or.inl ⟨by rfl, ?_⟩) (by assumption) ?_
          rotate_left
          · (intro w hSw; (try dsimp only at hSw); (go_simp <;> with_reducible rfl))
          try go_simp
          refine wpAnyH_ready (rs := [5]) (by kernel_rfl) (by simp) ?_
          refine AllReadyH.cons rfl (fun K hK => ?_) AllReadyH.nil
          go_simp
          refine hK.out _ _ ?_ (fun hHeld => ?_)
          · (try dsimp only); first | go_keep | assumption | exact hal2 _
          clear hK K
          try go_simp
          refine wpAnyH_ready (rs := [16]) (by kernel_rfl) (by simp) ?_
          refine AllReadyH.cons rfl (fun K hK => ?_) AllReadyH.nil
          refine stepW (Wb := wr) (s := []) (v := .slice (some ⟨_, 0, none⟩) 0 0) (by repeat (first | exact HZ9.out | apply below_drew1 | refine below_alloc ?_ _)) rfl (.tmp 83) (.tmp 93) rfl (by first | (simp [Act.eval, Act.put]; done) | (simp [Act.eval, Act.put]; rfl)) (bytesEmpty (by repeat (first | with_reducible exact at_new _ (by simp) | with_reducible apply at_drew | with_reducible refine at_old _ ?_)) (by simp)) (u.take kk) (Nat.le_trans (Nat.le_of_eq (Nat.zero_add _)) HTL.out.2) Ab kk cb (by first | (simp [Act.eval, Act.put]; done) | (simp [Act.eval, Act.put]; rfl)) HTL.out.1 (readsTake (HRE.out _ (by repeat (first | exact HZ9.out | apply below_drew1 | refine below_alloc ?_ _))) kk) ?_
          intro v1 w1 h1 g1
          have HB9 := Aside0.mk g1
          obtain ⟨-, -, s1, -, -⟩ := (HC9.out.step HB9.out).after (Below.refl _ _) (World.grownBy.refl w1 none) (by simp)
          obtain ⟨e1, e2, e3, e4⟩ := HCELL.out _ HB9.out
          have HE := Aside0.mk (HCT.out _ HB9.out _ _ h1 kk)
          obtain ⟨A1, n1, c1, rfl⟩ := own_three h1
          clear h1 g1
          refine hK.out _ _ ?_ (fun hHeld => ?_)
          · (try dsimp only); first | go_keep | assumption | exact hal2 _
          clear hK K
          try go_simp
          refine wpAnyH_take (i := 18) (v := ?_) rfl (by kernel_rfl) (by kernel_rfl) (by kernel_rfl) (fun _ _ _ h => h) (Or.inl ⟨by rfl, ?_⟩) (by assumption) ?_
          rotate_left
          · (intro w hSw; (try dsimp only at hSw); (go_simp <;> with_reducible rfl))
          try go_simp
          refine wpAnyH_take (i := 19) (v := ?_) rfl (by kernel_rfl) (by kernel_rfl) (by kernel_rfl) (fun _ _ _ h => h) (Or.inl ⟨by rfl, ?_⟩) (by assumption) ?_
          rotate_left
          · (intro w hSw; (try dsimp only at hSw); (go_simp <;> with_reducible rfl))
          try go_simp
          refine wpAnyH_ready (rs := [20]) (by kernel_rfl) (by simp) ?_
          refine AllReadyH.cons rfl (fun K hK => ?_) AllReadyH.nil
          go_simp
          refine hK.out _ _ ?_ (fun hHeld => ?_)
          · (try dsimp only); first | go_keep | assumption | exact hal2 _
          clear hK K
          try go_simp
          refine wpAnyH_done (by kernel_rfl) ?_ _
          refine NoPanic.normal ?_
          have HGO := Aside0.mk HE.out
          obtain ⟨R10, k1, k2⟩ := HGO.out
          rw [List.nil_append, HST.out kk HKK.out, HF9.out] at k1
          have HC10 := Aside0.mk k1
          have HT10 := Aside0.mk (HT9.out.trans k2)
          clear k1 k2 HGO HE
          go_wp2
          go_roundw
          case rel => exact ⟨i + 1, R10, _, (by have := HLT.out; omega), by go_num, ⟨by rw [List.length_set]; exact HF9.out⟩, HC10, HT10⟩
          case measure => (have := HLT.out; simp [intOf]; omega)
        exact AllReadyH.nil
        -- END
    · obtain ⟨-, -, -, -, p4, p5⟩ := HC9.out.cells
      have q4 := HC9.out.frozen 4
      have q5 := HC9.out.frozen 5
      have HEND := Aside0.mk (crashEndR HC9.out)
      have HIE := Aside0.mk (show i = d.files.length by rw [HFN.out]; omega)
      go_wp2
      go_end0
      have h9 := RTurn.trans HT9.out HEND.out
      rw [HIE.out] at h9
      exact ⟨rfl, h9⟩
end Go.Proofs.Ytibmgcihpbofdaa.Fs
namespace Go.Proofs.Ytibmgcihpbofdaa.Fs
open Go.RowKit Go.Proofs.Ytibmgcihpbofdaa Go.Proofs.Ytibmgcihpbofdaa.Plain Go.Proofs.YtibmgcihpbofdaaW.PrintWords Go.Maps
set_option linter.unusedVariables false
set_option linter.unusedSimpArgs false
theorem crash_eq (d : RDisk) (n m : Int) (k : Nat) (M : Int) (hk : (min (max n 0) (d.loose.length : Int)).toNat = k) (hM : max m 0 = max M 0) : d.crash n m = { mid d k M d.files.length with fuse := -1, off := false } := by
  rw [mid_end]
  unfold RDisk.crash
  rw [hk]
  have e : cutR m = cutR M := by funext p; unfold cutR; rw [hM]
  rw [e]
theorem crashR {w0 W : World} {r : Nat} {d : RDisk} {R : Nat → Prop} {N : Nat} (h : RAt w0 r d R W) (hok : ROk d N) (hN : N ≤ 900000) (n m : Int) (hm : m ≤ 9223372036854775807) :
    Calls Try.prog 44 #[.pointer (some ⟨r, 0, none⟩), .int .i64 n, .int .i64 m] W fun e W' => e = .returned (.tuple #[]) ∧ RTurn w0 r (d.crash n m) R W W' := by
  by_cases hm0 : m < 0
  · by_cases hn : n < 0
    · by_cases hL : d.loose.length = 0
      · rw [crash_eq d n m 0 0 (by omega) (by omega)]; exact crashno0 h hok hN n m hm0 hn hL
      · rw [crash_eq d n m 0 0 (by omega) (by omega)]; exact crashlo0 h hok hN n m hm0 hn (by omega)
    · by_cases hL : n < (d.loose.length : Int)
      · obtain ⟨k, rfl⟩ := Int.eq_ofNat_of_zero_le (by omega : 0 ≤ n)
        rw [crash_eq d k m k 0 (by omega) (by omega)]; exact crashin0 h hok hN k m hm0 (by omega)
      · rw [crash_eq d n m d.loose.length 0 (by omega) (by omega)]; exact crashhi0 h hok hN n m hm0 hn hL
  · obtain ⟨mn, rfl⟩ := Int.eq_ofNat_of_zero_le (by omega : 0 ≤ m)
    by_cases hn : n < 0
    · by_cases hL : d.loose.length = 0
      · rw [crash_eq d n mn 0 mn (by omega) rfl]; exact crashno1 h hok hN n mn (by omega) hn hL
      · rw [crash_eq d n mn 0 mn (by omega) rfl]; exact crashlo1 h hok hN n mn (by omega) hn (by omega)
    · by_cases hL : n < (d.loose.length : Int)
      · obtain ⟨k, rfl⟩ := Int.eq_ofNat_of_zero_le (by omega : 0 ≤ n)
        rw [crash_eq d k mn k mn (by omega) rfl]; exact crashin1 h hok hN k mn (by omega) (by omega)
      · rw [crash_eq d n mn d.loose.length mn (by omega) rfl]; exact crashhi1 h hok hN n mn (by omega) hn hL
end Go.Proofs.Ytibmgcihpbofdaa.Fs
namespace Go.Proofs.Ytibmgcihpbofdaa.Fs
open Go.RowKit Go.Proofs.Ytibmgcihpbofdaa Go.Proofs.Ytibmgcihpbofdaa.Plain Go.Proofs.YtibmgcihpbofdaaW.PrintWords Go.Maps
set_option linter.unusedVariables false
set_option linter.unusedSimpArgs false
/-- both disks, apart from each other -/
structure Both (w0 : World) (f r : Nat) (d : Disk) (rd : RDisk) (N : Nat) (W : World) (T R : Nat → Prop) : Prop where
  fs : FsAt w0 f d N T W
  ref : RAt w0 r rd R W
  apart : ∀ k, T k → ¬ R k
theorem RAt.lt {w0 W : World} {r : Nat} {d : RDisk} {R : Nat → Prop} (h : RAt w0 r d R W) : ∀ k, R k → w0.heap.size ≤ k ∧ k < W.heap.size := by
  obtain ⟨vs, vl, vf, fl, h⟩ := h
  exact h.mine
theorem FsAt.lt {w0 W : World} {f : Nat} {d : Disk} {N : Nat} {T : Nat → Prop} (h : FsAt w0 f d N T W) : ∀ k, T k → w0.heap.size ≤ k ∧ k < W.heap.size := by
  obtain ⟨bn, bs, vl, fs, vb, c⟩ := h
  exact c.mine
theorem Both.step {w0 W X : World} {f r : Nat} {d : Disk} {rd : RDisk} {N : Nat} {T R : Nat → Prop} (h : Both w0 f r d rd N W T R) (hb : Below W.heap.size W X) : Both w0 f r d rd N X T R := ⟨h.fs.step hb, h.ref.step hb, h.apart⟩
theorem Both.fsTurn {w0 W X : World} {f r : Nat} {d d' : Disk} {rd : RDisk} {N N' : Nat} {T T' R : Nat → Prop} (h : Both w0 f r d rd N W T R) (h' : FsAt w0 f d' N' T' X) (ht : Turn T W T' X) : Both w0 f r d' rd N' X T' R :=
  ⟨h', h.ref.move (fun k hR => ht.2.2.1 k (h.ref.lt k hR).2 (fun hT => h.apart k hT hR)) ht.2.2.2 h'.below', fun k hT hR => (ht.1 k hT).elim (fun h1 => h.apart k h1 hR) (fun h1 => by have := (h.ref.lt k hR).2; omega)⟩
theorem Both.refTurn {w0 W X : World} {f r : Nat} {d : Disk} {rd rd' : RDisk} {N : Nat} {T R R' : Nat → Prop} (h : Both w0 f r d rd N W T R) (h' : RAt w0 r rd' R' X) (ht : Turn R W R' X) : Both w0 f r d rd' N X T R' :=
  ⟨h.fs.move (fun k hT => ht.2.2.1 k (h.fs.lt k hT).2 (fun hR => h.apart k hT hR)) ht.2.2.2 h'.below, h', fun k hT hR => (ht.1 k hR).elim (fun h1 => h.apart k hT h1) (fun h1 => by have := (h.fs.lt k hT).2; omega)⟩
def BothAny (w0 : World) (f r : Nat) (d : Disk) (rd : RDisk) (N : Nat) (W : World) : Prop := ∃ T R, Both w0 f r d rd N W T R
theorem Both.refAny {w0 W X : World} {f r : Nat} {d : Disk} {rd rd' : RDisk} {N : Nat} {T R : Nat → Prop} (h : Both w0 f r d rd N W T R) (h' : RTurn w0 r rd' R W X) : BothAny w0 f r d rd' N X := by
  obtain ⟨R', e1, e2⟩ := h'
  exact ⟨_, _, h.refTurn e1 e2⟩
theorem roomLaw (n : Int) (W : World) : Calls Try.prog 27 #[.int .i64 n] W fun e W' => e = .returned (.int .i64 (min (max n 0) 16777216)) ∧ W' = W := by
  by_cases h : n < 0
  · go_enter Try.func27, Try.ntmps27
    go_wp2
    go_ret
    rw [show min (max n 0) 16777216 = (0 : Int) by omega]
    exact ⟨rfl, rfl⟩
  · by_cases h2 : n > 16777216
    · go_enter Try.func27, Try.ntmps27
      go_wp2
      go_ret
      rw [show min (max n 0) 16777216 = (16777216 : Int) by omega]
      exact ⟨rfl, rfl⟩
    · go_enter Try.func27, Try.ntmps27
      go_wp2
      go_ret
      rw [show min (max n 0) 16777216 = n by omega]
      exact ⟨rfl, rfl⟩
/-- a number of the reference's disk is set -/
theorem RAt.setNum {w0 W : World} {r : Nat} {d : RDisk} {R : Nat → Prop} (h : RAt w0 r d R W) (n : Int) : RTurn w0 r { d with room := n } R W (W.setCell ⟨r, 3, none⟩ (.int .i64 n)) ∧ RTurn w0 r { d with fuse := n } R W (W.setCell ⟨r, 4, none⟩ (.int .i64 n)) := by
  obtain ⟨vs, vl, vf, fl, h⟩ := h
  exact ⟨h.headTurn (fun k hk => heapOther W r 3 k _ hk) (by simp [World.setCell]) (h.setBelow h.below 3 _) (heapSet W r 3 _ _ _ h.head) rfl rfl rfl, h.headTurn (fun k hk => heapOther W r 4 k _ hk) (by simp [World.setCell]) (h.setBelow h.below 4 _) (heapSet W r 4 _ _ _ h.head) rfl rfl rfl⟩
theorem RAt.nums {w0 W : World} {r : Nat} {d : RDisk} {R : Nat → Prop} (h : RAt w0 r d R W) : W.cell? ⟨r, 3, none⟩ = some (.int .i64 d.room) ∧ W.cell? ⟨r, 4, none⟩ = some (.int .i64 d.fuse) ∧ W.frozen? ⟨r, 3, none⟩ = false ∧ W.frozen? ⟨r, 4, none⟩ = false := by
  obtain ⟨vs, vl, vf, fl, h⟩ := h
  exact ⟨h.cells.2.2.2.1, h.cells.2.2.2.2.1, h.frozen 3, h.frozen 4⟩
/-- a box of the call's own behind a turn of a disk -/
theorem boxTurn {W X : World} {T T' : Nat → Prop} {o : Obj} (hT : ∀ k, T k → k < W.heap.size) (ht : Turn T (W.alloc o) T' X) : X.heap[W.heap.size]? = some o :=
  (ht.2.2.1 W.heap.size (by simp) (fun h => by have := hT _ h; omega)).trans (heap_alloc_new W o)
theorem boxCells2 {X : World} {b : Nat} {c0 c1 c2 c3 c4 c5 : Value} {t : Nat} (h : X.heap[b]? = some (.cells #[c0, c1, c2, c3, c4, c5] t (0, 0))) : X.cell? ⟨b, 1, none⟩ = some c1 ∧ X.cell? ⟨b, 2, none⟩ = some c2 := by
  simp [World.cell?, h]
set_option maxHeartbeats 1000000 in
set_option maxRecDepth 100000 in
theorem other7 {w0 W : World} {f r : Nat} {d : Disk} {rd : RDisk} {N : Nat} (h : BothAny w0 f r d rd N W) (n m : Int) (va vb vd : Value) :
    Calls Try.prog 28 #[.pointer (some ⟨f, 0, none⟩), .pointer (some ⟨r, 0, none⟩), .agg #[.int .i64 7, .int .i64 n, .int .i64 m, va, vb, vd]] W fun e W' => e = .returned (.tuple #[]) ∧ BothAny w0 f r (d.setRoom n) (rd.setRoom n) N W' := by
  obtain ⟨T, R, h⟩ := h
  have HB := Aside0.mk (h.step (below_alloc (Below.refl W.heap.size W) (.cells #[.int .i64 7, .int .i64 n, .int .i64 m, va, vb, vd] 32)))
  have HT := Aside0.mk (fun k hk => (h.fs.lt k hk).2)
  have XR := Aside0.mk (room HB.out.fs n)
  clear h
  go_enter Try.func28, Try.ntmps28
  go_wp2_with (first
    | (go_at_call 31; refine XR.out.mono ?_; rintro e W1 ⟨rfl, hF, ht⟩; obtain ⟨b1, -⟩ := boxCells2 (boxTurn HT.out ht); have H1 := Aside0.mk (HB.out.fsTurn hF ht); obtain ⟨n3, -, z3, -⟩ := H1.out.ref.nums; clear hF ht)
    | (go_at_call 27; refine (roomLaw n _).mono ?_; rintro e W2 ⟨rfl, rfl⟩))
  go_end0
  obtain ⟨R', e1, e2⟩ := (H1.out.ref.setNum (min (max n 0) 16777216)).1
  exact ⟨rfl, _, _, H1.out.refTurn e1 e2⟩
set_option maxHeartbeats 1000000 in
set_option maxRecDepth 100000 in
theorem other8 {w0 W : World} {f r : Nat} {d : Disk} {rd : RDisk} {N : Nat} (h : BothAny w0 f r d rd N W) (n m : Int) (hn : (Lit.int .i64 n).wf = true) (va vb vd : Value) :
    Calls Try.prog 28 #[.pointer (some ⟨f, 0, none⟩), .pointer (some ⟨r, 0, none⟩), .agg #[.int .i64 8, .int .i64 n, .int .i64 m, va, vb, vd]] W fun e W' => e = .returned (.tuple #[]) ∧ BothAny w0 f r (d.setFuse n) (rd.setFuse n) N W' := by
  obtain ⟨T, R, h⟩ := h
  have HB := Aside0.mk (h.step (below_alloc (Below.refl W.heap.size W) (.cells #[.int .i64 8, .int .i64 n, .int .i64 m, va, vb, vd] 32)))
  have HT := Aside0.mk (fun k hk => (h.fs.lt k hk).2)
  have XR := Aside0.mk (fuse HB.out.fs n hn)
  clear h hn
  go_enter Try.func28, Try.ntmps28
  have HK := Aside0.mk (show ∀ q, q = max n 0 → ∀ (X : World) (R : Nat → Prop), RAt w0 r rd R X → RTurn w0 r (rd.setFuse n) R X (X.setCell ⟨r, 4, none⟩ (.int .i64 q)) from fun q hq X R hX => by subst hq; exact (hX.setNum (max n 0)).2)
  go_wp2_with (go_at_call 21; refine XR.out.mono ?_; rintro e W1 ⟨rfl, hF, ht⟩; obtain ⟨b1, -⟩ := boxCells2 (boxTurn HT.out ht); have H1 := Aside0.mk (HB.out.fsTurn hF ht); obtain ⟨-, n4, -, z4⟩ := H1.out.ref.nums; clear hF ht)
  all_goals
    go_end0
    exact ⟨rfl, H1.out.refAny (HK.out _ (by omega) _ _ H1.out.ref)⟩
set_option maxHeartbeats 1000000 in
set_option maxRecDepth 100000 in
theorem other9 {w0 W : World} {f r : Nat} {d : Disk} {rd : RDisk} {N : Nat} (h : BothAny w0 f r d rd N W) (hok : ROk rd N) (hN : N ≤ 900000) (n m : Int) (hm : m ≤ 9223372036854775807) (va vb vd : Value) :
    Calls Try.prog 28 #[.pointer (some ⟨f, 0, none⟩), .pointer (some ⟨r, 0, none⟩), .agg #[.int .i64 9, .int .i64 n, .int .i64 m, va, vb, vd]] W fun e W' => e = .returned (.tuple #[]) ∧ BothAny w0 f r (d.crash n m) (rd.crash n m) N W' := by
  obtain ⟨T, R, h⟩ := h
  have HB := Aside0.mk (h.step (below_alloc (Below.refl W.heap.size W) (.cells #[.int .i64 9, .int .i64 n, .int .i64 m, va, vb, vd] 32)))
  have HT := Aside0.mk (fun k hk => (h.fs.lt k hk).2)
  have XR := Aside0.mk (crash HB.out.fs (by omega) n m)
  have HC := Aside0.mk (fun (X : World) (R : Nat → Prop) (hX : RAt w0 r rd R X) => crashR hX hok hN n m hm)
  clear h hok hN hm
  go_enter Try.func28, Try.ntmps28
  go_wp2_with (first
    | (go_at_call 20; refine XR.out.mono ?_; rintro e W1 ⟨rfl, T1, hF, ht⟩; obtain ⟨b1, b2⟩ := boxCells2 (boxTurn HT.out ht); have H1 := Aside0.mk (HB.out.fsTurn hF ht); clear hF ht)
    | (go_at_call 44; refine (HC.out _ _ H1.out.ref).mono ?_; rintro e W2 ⟨rfl, R2, e1, e2⟩; have H2 := Aside0.mk (H1.out.refTurn e1 e2); clear e1 e2))
  go_end0
  exact ⟨rfl, _, _, H2.out⟩
end Go.Proofs.Ytibmgcihpbofdaa.Fs
