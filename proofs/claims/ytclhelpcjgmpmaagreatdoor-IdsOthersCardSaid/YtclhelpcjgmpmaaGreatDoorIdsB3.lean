/- ids: more, Next, Last. law13's answers. ref10.Digits: nine digits. -/
import Derived.Test.YtclhelpcjgmpmaaGreatDoorIdsOpen
namespace Go.Proofs.YtclhelpcjgmpmaaGreatDoor.Fs
open Go.RowKit Go.Proofs.YtclhelpcjgmpmaaGreatDoor Go.Proofs.YtclhelpcjgmpmaaGreatDoor.Plain Go.Proofs.YtclhelpcjgmpmaaGreatDoorW.PrintWords Go.Maps
set_option linter.unusedVariables false
set_option linter.unusedSimpArgs false
theorem IdsCells.lt {W : World} {xb f : Nat} {I : IdsD} (h : IdsCells W xb f I) : xb < W.heap.size := (Array.getElem?_eq_some_iff.1 h).1
theorem IdsCells.cells {W : World} {xb f : Nat} {I : IdsD} (h : IdsCells W xb f I) : W.cell? ⟨xb, 0, none⟩ = some (.pointer (some ⟨f, 0, none⟩)) ∧ W.cell? ⟨xb, 1, none⟩ = some (.int .i64 (I.last : Int)) ∧ W.cell? ⟨xb, 2, none⟩ = some (.int .i64 (I.bound : Int)) ∧ W.cell? ⟨xb, 3, none⟩ = some (.string (S I.file)) ∧ ∀ o, W.frozen? ⟨xb, o, none⟩ = false := by
  unfold IdsCells at h
  refine ⟨?_, ?_, ?_, ?_, fun o => ?_⟩ <;> simp [World.cell?, World.frozen?, h]
theorem IdsCells.below {W W' : World} {xb f : Nat} {I : IdsD} (h : IdsCells W xb f I) (hb : Below W.heap.size W W') : IdsCells W' xb f I := (hb.block xb h.lt).trans h
theorem IdsCells.turn {W W' : World} {T T' : Nat → Prop} {xb f : Nat} {I : IdsD} (h : IdsCells W xb f I) (hx : ¬ T xb) (ht : Turn T W T' W') : IdsCells W' xb f I ∧ ¬ T' xb :=
  ⟨(ht.2.2.1 xb h.lt hx).trans h, fun hT => (ht.1 xb hT).elim hx (fun h1 => by have := h.lt; omega)⟩
theorem idsStore2 {w0 W : World} {f N xb : Nat} {d : Disk} {T : Nat → Prop} {I : IdsD} (h : FsAt w0 f d N T W) (hc : IdsCells W xb f I) (hx : ¬ T xb) (hw : w0.heap.size ≤ xb) (b : Nat) (s : Nm) :
    FsAt w0 f d N T ((W.setCell ⟨xb, 3, none⟩ (.string (S s))).setCell ⟨xb, 2, none⟩ (.int .i64 (b : Int))) ∧ IdsCells ((W.setCell ⟨xb, 3, none⟩ (.string (S s))).setCell ⟨xb, 2, none⟩ (.int .i64 (b : Int))) xb f ⟨I.last, b, s⟩ := by
  unfold IdsCells at hc
  refine ⟨h.move (fun k hT => ?_) (by simp [World.setCell]) ?_, ?_⟩
  · have hne : k ≠ xb := fun e => hx (e ▸ hT)
    rw [Below.heap_setCell _ ⟨xb, 2, none⟩ _ k hne, Below.heap_setCell _ ⟨xb, 3, none⟩ _ k hne]
  · exact (h.below'.setCell (p := ⟨xb, 3, none⟩) hw _).setCell (p := ⟨xb, 2, none⟩) hw _
  · unfold IdsCells
    simp [World.setCell, Array.getElem?_modify, hc]
theorem idsStore1 {w0 W : World} {f N xb : Nat} {d : Disk} {T : Nat → Prop} {I : IdsD} (h : FsAt w0 f d N T W) (hc : IdsCells W xb f I) (hx : ¬ T xb) (hw : w0.heap.size ≤ xb) (b : Nat) :
    FsAt w0 f d N T (W.setCell ⟨xb, 1, none⟩ (.int .i64 (b : Int))) ∧ IdsCells (W.setCell ⟨xb, 1, none⟩ (.int .i64 (b : Int))) xb f { I with last := b } := by
  unfold IdsCells at hc
  refine ⟨h.move (fun k hT => ?_) (by simp [World.setCell]) ?_, ?_⟩
  · have hne : k ≠ xb := fun e => hx (e ▸ hT)
    rw [Below.heap_setCell _ ⟨xb, 1, none⟩ _ k hne]
  · exact h.below'.setCell (p := ⟨xb, 1, none⟩) hw _
  · unfold IdsCells
    simp [World.setCell, Array.getElem?_modify, hc]
/-- the disk and an Ids over it -/
def IdsW (w0 : World) (f : Nat) (d : Disk) (N xb : Nat) (I : IdsD) (W : World) : Prop := ∃ T, FsAt w0 f d N T W ∧ IdsCells W xb f I ∧ ¬ T xb
theorem IdsW.below {w0 W W' : World} {f N xb : Nat} {d : Disk} {I : IdsD} (h : IdsW w0 f d N xb I W) (hb : Below W.heap.size W W') : IdsW w0 f d N xb I W' := by
  obtain ⟨T, h1, h2, h3⟩ := h
  exact ⟨T, h1.step hb, h2.below hb, h3⟩
theorem IdsW.le {w0 W : World} {f N N' xb : Nat} {d : Disk} {I : IdsD} (h : IdsW w0 f d N xb I W) (hN : N ≤ N') : IdsW w0 f d N' xb I W := by
  obtain ⟨T, h1, h2, h3⟩ := h
  exact ⟨T, h1.le' hN, h2, h3⟩
theorem IdsW.of_turn {w0 W W' : World} {f N' xb : Nat} {d' : Disk} {I : IdsD} {T T' : Nat → Prop} (hc : IdsCells W xb f I) (hx : ¬ T xb) (ht : Turn T W T' W') (h' : FsAt w0 f d' N' T' W') : IdsW w0 f d' N' xb I W' :=
  ⟨T', h', (hc.turn hx ht).1, (hc.turn hx ht).2⟩
set_option maxRecDepth 100000 in
set_option maxHeartbeats 2000000 in
theorem moreIs {w0 W : World} {f N xb : Nat} {d : Disk} {I : IdsD} (h : IdsW w0 f d N xb I W) (hN : N + 2 ≤ 1000000) (hG : GI w0) (hw : w0.heap.size ≤ xb) (hl : I.last ≤ 999999999) (hf : I.file.length ≤ 1000) :
    Calls Tryz.prog 24 #[.pointer (some ⟨xb, 0, none⟩)] W fun e W' => ∃ x, e = .returned (.int .i64 (d.more x I).1) ∧ IdsW w0 f (d.more x I).2.1 (N + 2) xb (d.more x I).2.2 W' := by
  obtain ⟨T, hfs, hc, hx⟩ := h
  obtain ⟨c0, c1, c2, c3, cf⟩ := hc.cells
  obtain ⟨b, hb⟩ : ∃ b, moreBound I = b := ⟨_, rfl⟩
  have hsum : IntKind.i64.wrap ((I.last : Int) + 16) = (I.last : Int) + 16 := IntWalk.i64_in _ (by omega)
  have hbl : b ≤ 999999999 := by rw [← hb]; unfold moreBound; omega
  have hmin : min ((I.last : Int) + 16) 999999999 = (b : Int) := by rw [← hb]; unfold moreBound; omega
  have XN := nameIs (b : Int) (by omega) (by omega) W (hG.below hfs.below')
  have hni : nameI (b : Int) = nameOf b := by unfold nameI; rw [if_pos ⟨by omega, by omega⟩, Int.toNat_natCast]
  rw [hni] at XN
  have HFS := Aside0.mk hfs
  have HC := Aside0.mk hc
  have HX := Aside0.mk hx
  have HWX := Aside0.mk hw
  have HB := Aside0.mk hb
  have HF := Aside0.mk hf
  clear hfs hc hx hw hb hf hni hbl hG
  go_enter Tryz.func24, Tryz.ntmps24
  go_wp2_with (go_at_call 9; refine XN.mono ?_; rintro e W1 ⟨rfl, hb1⟩; obtain ⟨k0, k1, k2, k3, kf⟩ := (HC.out.below hb1).cells; have HB1 := Aside0.mk hb1; clear hb1 XN)
  refine (create (HFS.out.step HB1.out) (by omega) (nameOf b) (by rw [nameOf_length]; omega)).mono ?_
  rintro e W2 ⟨x, -, rfl, T2, h2, ht2⟩
  have hI2 := (HC.out.below HB1.out).turn HX.out ht2
  obtain ⟨r, hr⟩ : ∃ r, d.create x (nameOf b) = r := ⟨_, rfl⟩
  rw [hr] at h2
  rw [hr]
  obtain ⟨r1, d1⟩ := r
  have HR := Aside0.mk hr
  have H2 := Aside0.mk h2
  have HI2 := Aside0.mk hI2
  clear hr h2 ht2 hI2 HFS HC
  by_cases h0 : r1 = 0
  · subst h0
    obtain ⟨c0, c1, c2, c3, cf⟩ := HI2.out.1.cells
    have hst := idsStore2 H2.out HI2.out.1 HI2.out.2 HWX.out b (nameOf b)
    have HST := Aside0.mk hst
    clear hst
    obtain ⟨m0, m1, m2, m3, mf⟩ := HST.out.2.cells
    go_wp2_with (fail)
    refine (dirSync HST.out.1).mono ?_
    rintro e W3 ⟨rfl, T3, h3, ht3⟩
    have hI3 := HST.out.2.turn HI2.out.2 ht3
    obtain ⟨r, hr2⟩ : ∃ r, d1.dirSync = r := ⟨_, rfl⟩
    rw [hr2] at h3
    rw [hr2]
    obtain ⟨r2, d2⟩ := r
    have HR2 := Aside0.mk hr2
    have H3 := Aside0.mk h3
    have HI3 := Aside0.mk hI3
    clear hr2 h3 ht3 hI3
    by_cases h0 : r2 = 0
    · subst h0
      obtain ⟨n0, n1, n2, n3, nf⟩ := HI3.out.1.cells
      by_cases hfile : I.file = []
      · have hfe : (I.file == []) = true := by simpa using hfile
        have HFE := Aside0.mk hfile
        clear hfile
        go_wp2
        go_ret
        refine ⟨x, ?_⟩
        have e : d.more x I = (0, d2, ⟨I.last, b, nameOf b⟩) := by
          unfold Disk.more
          rw [HB.out, HR.out, if_neg (by simp), HR2.out, if_neg (by simp), if_pos HFE.out]
        rw [e]
        exact ⟨rfl, T3, H3.out.le' (by omega), HI3.out⟩
      · have hfe : (I.file == []) = false := by simpa using hfile
        have HFE := Aside0.mk hfile
        clear hfile
        go_wp2_with (go_at_call 42; refine (unlink H3.out (by omega) I.file (by have := HF.out; omega)).mono ?_; rintro e W4 ⟨rfl, T4, h4, ht4⟩; have hI4 := HI3.out.1.turn HI3.out.2 ht4; have H4 := Aside0.mk h4; have HI4 := Aside0.mk hI4; clear h4 ht4 hI4)
        go_ret
        refine ⟨x, ?_⟩
        have e : d.more x I = ((d2.unlink I.file).1, (d2.unlink I.file).2, ⟨I.last, b, nameOf b⟩) := by
          unfold Disk.more
          rw [HB.out, HR.out, if_neg (by simp), HR2.out, if_neg (by simp), if_neg HFE.out]
        rw [e]
        exact ⟨rfl, T4, H4.out.le' (by omega), HI4.out⟩
    · have hn : (r2 == 0) = false := by simpa using h0
      have hn2 : (r2 != 0) = true := by simpa using h0
      have HH0 := Aside0.mk h0
      clear h0
      go_wp2
      go_ret
      refine ⟨x, ?_⟩
      have e : d.more x I = (r2, d2, ⟨I.last, b, nameOf b⟩) := by
        unfold Disk.more
        rw [HB.out, HR.out, if_neg (by simp), HR2.out, if_pos HH0.out]
      rw [e]
      exact ⟨rfl, T3, H3.out.le' (by omega), HI3.out⟩
  · have hn : (r1 == 0) = false := by simpa using h0
    have hn2 : (r1 != 0) = true := by simpa using h0
    have HH0 := Aside0.mk h0
    clear h0
    go_wp2
    go_ret
    refine ⟨x, ?_⟩
    have e : d.more x I = (r1, d1, I) := by
      unfold Disk.more
      rw [HB.out, HR.out, if_pos HH0.out]
    rw [e]
    exact ⟨rfl, T2, H2.out.le' (by omega), HI2.out⟩
theorem more_last (d : Disk) (x : Nat) (I : IdsD) : (d.more x I).2.2.last = I.last := by
  unfold Disk.more
  split
  · rfl
  · split
    · rfl
    · split <;> rfl
set_option maxRecDepth 100000 in
set_option maxHeartbeats 2000000 in
theorem nextIs {w0 W : World} {f N xb : Nat} {d : Disk} {I : IdsD} (h : IdsW w0 f d N xb I W) (hN : N + 2 ≤ 1000000) (hG : GI w0) (hw : w0.heap.size ≤ xb) (hl : I.last ≤ 999999999) (hbn : I.bound ≤ 999999999) (hf : I.file.length ≤ 1000) :
    Calls Tryz.prog 13 #[.pointer (some ⟨xb, 0, none⟩)] W fun e W' => ∃ x, e = .returned (.tuple #[.int .i64 ((d.next x I).1.1 : Int), .int .i64 (d.next x I).1.2]) ∧ IdsW w0 f (d.next x I).2.1 (N + 2) xb (d.next x I).2.2 W' := by
  have XM := fun X (hX : Below W.heap.size W X) => moreIs (h.below hX) hN hG hw hl hf
  obtain ⟨T, hfs, hc, hx⟩ := h
  have XD : Calls Tryz.prog 22 #[.pointer (some ⟨f, 0, none⟩)] W fun e W' => e = .returned (.bool d.down) ∧ W = W' := (down hfs).mono (fun e W' h => ⟨h.1, h.2.symm⟩)
  obtain ⟨c0, c1, c2, c3, cf⟩ := hc.cells
  have HFS := Aside0.mk hfs
  have HC := Aside0.mk hc
  have HX := Aside0.mk hx
  have HWX := Aside0.mk hw
  have HXM := Aside0.mk XM
  clear hfs hc hx hw hG hf XM
  cases hd : d.down with
  | true =>
    rw [hd] at XD
    have HD := Aside0.mk hd
    clear hd
    go_enter Tryz.func13, Tryz.ntmps13
    go_wp2_with (go_at_call 22; refine XD.mono ?_; rintro e W1 ⟨rfl, rfl⟩)
    go_ret2
    refine ⟨0, ?_⟩
    have e : d.next 0 I = ((0, 2), d, I) := by unfold Disk.next; rw [if_pos HD.out]
    rw [e]
    exact ⟨rfl, T, HFS.out.le' (by omega), HC.out, HX.out⟩
  | false =>
    rw [hd] at XD
    have HD := Aside0.mk hd
    have hnd : ¬ d.down = true := by rw [hd]; decide
    have HND := Aside0.mk hnd
    clear hd hnd
    by_cases hm : I.last = 999999999
    · have hm1 : ((I.last : Int) == 999999999) = true := by simp [hm]
      have HM := Aside0.mk hm
      clear hm
      go_enter Tryz.func13, Tryz.ntmps13
      go_wp2_with (go_at_call 22; refine XD.mono ?_; rintro e W1 ⟨rfl, rfl⟩)
      go_ret2
      refine ⟨0, ?_⟩
      have e : d.next 0 I = ((0, 3), d, I) := by unfold Disk.next; rw [if_neg HND.out, if_pos HM.out]
      rw [e]
      exact ⟨rfl, T, HFS.out.le' (by omega), HC.out, HX.out⟩
    · have hm1 : ((I.last : Int) == 999999999) = false := by simp; omega
      have HM := Aside0.mk hm
      have hlt : I.last < 999999999 := by omega
      clear hm
      by_cases hge : I.bound ≤ I.last
      · have hge1 : (I.last : Int) ≥ (I.bound : Int) := by omega
        have HGE := Aside0.mk hge
        clear hge
        go_enter Tryz.func13, Tryz.ntmps13
        go_wp2_with (go_at_call 22; refine XD.mono ?_; rintro e W1 ⟨rfl, rfl⟩)
        go_quiet (fail)
        go_wp2_with (fail)
        refine (HXM.out _ (pw_below_drewN (Below.refl _ _) _)).mono ?_
        rintro e W2 ⟨x, rfl, T2, h2, hc2, hx2⟩
        have hml := more_last d x I
        obtain ⟨r, hr⟩ : ∃ r, d.more x I = r := ⟨_, rfl⟩
        rw [hr] at h2 hc2 hml
        rw [hr]
        obtain ⟨r1, d1, I1⟩ := r
        have hml' : I1.last = I.last := hml
        have HR := Aside0.mk hr
        have HML := Aside0.mk hml'
        have HX2 := Aside0.mk hx2
        by_cases h0 : r1 = 0
        · subst h0
          obtain ⟨k0, k1, k2, k3, kf⟩ := (show IdsCells W2 xb f I1 from hc2).cells
          have HST := Aside0.mk (idsStore1 h2 hc2 hx2 HWX.out (I1.last + 1))
          have hw1 : IntKind.i64.wrap ((I1.last : Int) + 1) = ((I1.last + 1 : Nat) : Int) := by rw [IntWalk.i64_in _ (by omega)]; omega
          obtain ⟨m0, m1, m2, m3, mf⟩ := HST.out.2.cells
          clear h2 hc2 hx2 hr hml hml'
          go_wp2
          go_ret2
          refine ⟨x, ?_⟩
          have e : d.next x I = ((I1.last + 1, 0), d1, { I1 with last := I1.last + 1 }) := by
            unfold Disk.next
            rw [if_neg HND.out, if_neg HM.out, if_pos HGE.out, HR.out, if_neg (by simp)]
          rw [e]
          exact ⟨rfl, T2, HST.out.1, HST.out.2, HX2.out⟩
        · have hn : (r1 == 0) = false := by simpa using h0
          have hn2 : (r1 != 0) = true := by simpa using h0
          have HH0 := Aside0.mk h0
          have H2 := Aside0.mk h2
          have HC2 := Aside0.mk hc2
          clear h0 h2 hc2 hx2 hr hml hml'
          go_wp2
          go_ret2
          refine ⟨x, ?_⟩
          have e : d.next x I = ((0, r1), d1, I1) := by
            unfold Disk.next
            rw [if_neg HND.out, if_neg HM.out, if_pos HGE.out, HR.out, if_pos HH0.out]
          rw [e]
          exact ⟨rfl, T2, H2.out, HC2.out, HX2.out⟩
      · have hge1 : ¬ (I.last : Int) ≥ (I.bound : Int) := by omega
        have HGE := Aside0.mk hge
        have HST := Aside0.mk (fun q => idsStore1 (HFS.out.step (pw_below_drewN (Below.refl _ _) q)) (HC.out.below (pw_below_drewN (Below.refl _ _) q)) HX.out HWX.out (I.last + 1))
        have hw1 : IntKind.i64.wrap ((I.last : Int) + 1) = ((I.last + 1 : Nat) : Int) := by rw [IntWalk.i64_in _ (by omega)]; omega
        have hm1' := fun q => (HST.out q).2.cells.2.1
        clear hge
        go_enter Tryz.func13, Tryz.ntmps13
        go_wp2_with (go_at_call 22; refine XD.mono ?_; rintro e W1 ⟨rfl, rfl⟩)
        go_quiet (fail)
        go_wp2
        go_ret2
        refine ⟨0, ?_⟩
        have e : d.next 0 I = ((I.last + 1, 0), d, { I with last := I.last + 1 }) := by
          unfold Disk.next
          rw [if_neg HND.out, if_neg HM.out, if_neg HGE.out]
        rw [e]
        exact ⟨rfl, T, (HST.out _).1.le' (by omega), (HST.out _).2, HX.out⟩
theorem lastIs {W : World} {f xb : Nat} {I : IdsD} (h : IdsCells W xb f I) : Calls Tryz.prog 15 #[.pointer (some ⟨xb, 0, none⟩)] W fun e W' => e = .returned (.int .i64 (I.last : Int)) ∧ W' = W := by
  obtain ⟨c0, c1, c2, c3, cf⟩ := h.cells
  clear h
  go_enter Tryz.func15, Tryz.ntmps15
  go_wp2
  go_ret
  exact ⟨rfl, rfl⟩
end Go.Proofs.YtclhelpcjgmpmaaGreatDoor.Fs
namespace Go.Proofs.YtclhelpcjgmpmaaGreatDoor.Fs
open Go.RowKit Go.Proofs.YtclhelpcjgmpmaaGreatDoor Go.Proofs.YtclhelpcjgmpmaaGreatDoor.Plain Go.Proofs.YtclhelpcjgmpmaaGreatDoorW.PrintWords Go.Maps
set_option linter.unusedVariables false
set_option linter.unusedSimpArgs false
/-- one file alone: its name is the one that counts -/
theorem oneName {d : Disk} {I : IdsD} (h : d.now.length ≤ 1) (hg : ∃ x, get d.now I.file = some x) : names d.now = [I.file] ∧ d.now.length = 1 := by
  obtain ⟨x, hx⟩ := hg
  have hm := get_mem hx
  match hd : d.now, h, hm with
  | [p], _, hm =>
    have e := List.mem_singleton.1 hm
    refine ⟨?_, rfl⟩
    rw [← e]
    simp [names]
  | [], _, hm => cases hm
  | p :: q :: r, h, _ => simp at h
theorem freshNames (n : Int) : names (Disk.fresh n).now = [] := by
  show names [] = []
  simp [names]
theorem newW (n : Int) : (Disk.fresh n).opened = ⟨0, 0, []⟩ := by
  unfold Disk.opened
  rw [freshNames]
  rfl
theorem alive_file {M R last : Nat} {d : Disk} {I : IdsD} (h : Alive M R last d I) (hf : I.file ≠ []) : ∃ x, get d.now I.file = some x := by
  rcases h.2.2.2.1.2.1 with ⟨e, _⟩ | ⟨_, e, _⟩
  · exact absurd e hf
  · exact e
theorem alive_len {M R last : Nat} {d : Disk} {I : IdsD} (h : Alive M R last d I) : I.last ≤ 999999999 ∧ I.bound ≤ 999999999 ∧ I.file.length ≤ 1000 := by
  obtain ⟨_, _, _, ⟨h1, h2, h3, h4⟩, _, _⟩ := h
  refine ⟨by omega, h4, ?_⟩
  rcases h2 with ⟨e, _⟩ | ⟨_, _, e⟩
  · rw [e]; decide
  · rw [← (nameOf_num e).2, nameOf_length]; omega
theorem cellOne {X : World} {base c n : Nat} {A : Option Addr} {s : Nm} (h : X.ownsRow base 9 1 (.slice A n c) n ([s].map fun n => .string (S n))) (hn : n = 1) : ∃ g, A = some ⟨g, 0, none⟩ ∧ X.cell? ⟨g, 0, none⟩ = some (.string (S s)) := by
  subst hn
  rcases h.2 with ⟨_, h0⟩ | ⟨g, cap, cur, e, _, hg, _, _, hs, ht⟩
  · cases h0
  · injection e with e1 _ _
    refine ⟨g, e1, ?_⟩
    rw [cell_of_row X g 0 cur 9 (0, 0) hg]
    have h4 : (cur.toList.take (1 * 1))[0]? = ([s].map fun n => Value.string (S n))[0]? := by rw [ht]
    rw [List.getElem?_take_of_lt (by omega)] at h4
    simpa using h4
theorem idsOpened {w0 W W' : World} {f N xb : Nat} {d : Disk} {T : Nat → Prop} {I : IdsD} (h : FsAt w0 f d N T W) (hc : IdsCells W' xb f I) (hx : W.heap.size ≤ xb) (hb : Below W.heap.size W W') : IdsW w0 f d N xb I W' := by
  refine ⟨T, h.step hb, hc, fun hT => ?_⟩
  obtain ⟨bn, bs, vl, fs, vb, c⟩ := h
  have := (c.mine xb hT).2
  omega
theorem firstNext (x : Nat) : ∃ (d3 : Disk) (I3 : IdsD), (Disk.fresh 1000).next x ⟨0, 0, []⟩ = ((1, 0), d3, I3) ∧ I3.file = nameOf 16 ∧ I3.last = 1 ∧ I3.bound = 16 ∧ names d3.now = [nameOf 16] ∧ d3.now.length = 1 ∧ d3.down = false := by
  have ha := calm_open (calm_fresh 1000) (by omega)
  rw [newW] at ha
  rcases alive_next ha (Nat.le_refl 1) (by omega) (by omega) x with ⟨_, h, _⟩ | ⟨h1, h2, h3, h4, h5, h6⟩
  · exact absurd ⟨rfl, rfl⟩ h
  · obtain ⟨r, hr⟩ : ∃ r, (Disk.fresh 1000).next x ⟨0, 0, []⟩ = r := ⟨_, rfl⟩
    rw [hr] at h1 h2 h3 h4 h5 h6 ⊢
    obtain ⟨r1, d3, I3⟩ := r
    have h1' : r1 = (1, 0) := h1
    have hb : I3.bound = 16 := h5
    have hl := live_file h3.2.2.2.1 h6
    have hf : I3.file = nameOf 16 := by rw [hl]; show nameOf I3.bound = _; rw [hb]
    obtain ⟨o1, o2⟩ := oneName h3.2.2.1 (alive_file h3 h6)
    refine ⟨d3, I3, by rw [h1'], hf, h2, hb, ?_, o2, (h4 ⟨rfl, rfl⟩).1⟩
    rw [o1]
    show [I3.file] = _
    rw [hf]
theorem listW {w0 W : World} {f N xb : Nat} {d : Disk} {I : IdsD} (h : IdsW w0 f d N xb I W) (hN : N ≤ 1000000) (hd : d.down = false) :
    Calls Tryz.prog 14 #[.pointer (some ⟨f, 0, none⟩)] W fun e W' => ∃ v, e = .returned v ∧ W'.ownsRow W.heap.size 9 1 v d.now.length ((names d.now).map fun n => .string (S n)) ∧ Below W.heap.size W W' := by
  obtain ⟨T, h1, _, _⟩ := h
  exact list h1 hN hd
theorem name16 : S (nameOf 16) = ⟨#[110, 101, 120, 116, 45, 48, 48, 48, 48, 48, 48, 48, 49, 54]⟩ := by decide +kernel
theorem IdsW.cells' {w0 W : World} {f N xb : Nat} {d : Disk} {I : IdsD} (h : IdsW w0 f d N xb I W) : IdsCells W xb f I := by
  obtain ⟨T, _, h2, _⟩ := h
  exact h2
theorem IdsW.below'' {w0 W : World} {f N xb : Nat} {d : Disk} {I : IdsD} (h : IdsW w0 f d N xb I W) : Below w0.heap.size w0 W := by
  obtain ⟨T, h1, _, _⟩ := h
  exact h1.below'
theorem name16Is (X : World) (hG : GI X) : Calls Tryz.prog 9 #[.int .i64 16] X fun e w' => e = .returned (.string (S (nameOf 16))) ∧ Below X.heap.size X w' := nameIs 16 (by omega) (by omega) X hG
set_option maxHeartbeats 1000000 in
set_option maxRecDepth 100000 in
theorem answers (W : World) (hG : GI W) : Calls Tryz.prog 8 #[] W fun e W' => e = .returned (.bool true) ∧ Below W.heap.size W W' := by
  have X0 := new (Below.refl W.heap.size W) 1000
  have HG := Aside0.mk hG
  clear hG
  go_enter Tryz.func8, Tryz.ntmps8
  go_wp2_with (first
    | (go_at_call 11; refine X0.mono ?_; rintro e W1 ⟨f, T, rfl, h1, -, -⟩; clear X0; have H1 := Aside0.mk h1; clear h1)
    | (go_at_call 12; refine (openIs H1.out (by omega) HG.out rfl (by decide) (fun s hs => by rw [freshNames] at hs; cases hs)).mono ?_; rintro e W2 ⟨xb, rfl, hc, hx, hb⟩; rw [newW] at hc; have H2 := Aside0.mk (idsOpened H1.out hc hx hb); have HX := Aside0.mk (Nat.le_trans H1.out.below'.size hx); clear hc hx hb H1)
    | (go_at_call 13; refine (nextIs H2.out (by omega) HG.out HX.out (by decide) (by decide) (by decide)).mono ?_; rintro e W3 ⟨x, rfl, h3⟩; obtain ⟨d3, I3, R3, hf3, hl3, hb3, hnn, hlen, hdn⟩ := firstNext x; rw [R3] at h3 ⊢; have H3 := Aside0.mk h3; clear h3 H2 R3)
    | (go_at_call 14; refine (listW H3.out (by omega) hdn).mono ?_; rintro e W4 ⟨v4, rfl, hown, hb⟩; rw [hnn, hlen] at hown; obtain ⟨A4, c4, rfl⟩ := own_slice hown; have H4 := Aside0.mk (H3.out.below hb); obtain ⟨g4, hA4, hcell4⟩ := cellOne hown rfl; subst hA4; clear hown hb H3))
  have hcellD : W4.drew.cell? ⟨g4, 0, none⟩ = some (.string (S (nameOf 16))) := hcell4
  have HC4 := Aside0.mk (show IdsCells W4.drew xb f I3 from H4.out.cells')
  have HL3 := Aside0.mk hl3
  have HNM := Aside0.mk (fun X (hX : Below W.heap.size W X) => name16Is X (HG.out.below hX))
  have HB5 := Aside0.mk (show Below W.heap.size W W4.drew from below_drew1 H4.out.below'')
  have h16 : (⟨#[110, 101, 120, 116, 45, 48, 48, 48, 48, 48, 48, 48, 49, 54]⟩ : ByteArray) = S (nameOf 16) := name16.symm
  rw [h16]
  have hself : ((nameOf 16) == (nameOf 16)) = true := by simp
  -- GENREGION {"f": "pillarbox/pillarboxlaw13.answers", "region": 5, "ind": 1, "guards": {"2": true, "6": true, "10": true, "15": true, "20": true, "26": true}, "calls": {"12": ["go_simp", "go_at_call 15", "refine (lastIs HC4.out).mono ?_", "rintro e W5 \u27e8rfl, rfl\u27e9", "rw [HL3.out]"], "23": ["go_simp"], "27": ["go_simp", "go_at_call 9", "refine (HNM.out _ HB5.out).mono ?_", "rintro e W6 \u27e8rfl, hb6\u27e9", "have hcell6 := pw_cell_below hb6 hcellD", "have HB6 := Aside0.mk (chain' HB5.out hb6)", "clear hb6"], "30": ["go_simp"]}, "final": ["go_wp2", "go_ret", "exact ⟨rfl, HB6.out⟩"]}
  refine wp_region_any (by kernel_rfl) ?_
  try (change wpAny _ _ _ _ _ _ _ (World.drew _))
  refine wpAny_take (i := 0) (v := ?_) rfl (by kernel_rfl) (by kernel_rfl) (by kernel_rfl) (fun _ _ _ h => h) (Or.inl ⟨by rfl, ?_⟩) ?_
  rotate_left
  · intro w; go_simp <;> with_reducible rfl
  go_simp
  refine wpAny_take (i := 1) (v := ?_) rfl (by kernel_rfl) (by kernel_rfl) (by kernel_rfl) (fun _ _ _ h => h) (Or.inl ⟨by rfl, ?_⟩) ?_
  rotate_left
  · intro w; go_simp <;> with_reducible rfl
  go_simp
  refine wpAny_take (i := 2) (v := ?_) rfl (by kernel_rfl) (by kernel_rfl) (by kernel_rfl) (fun _ _ _ h => h) (Or.inl ⟨by rfl, ?_⟩) ?_
  rotate_left
  · intro w; go_simp <;> with_reducible rfl
  go_simp
  refine wpAny_take (i := 3) (v := ?_) rfl (by kernel_rfl) (by kernel_rfl) (by kernel_rfl) (fun _ _ _ h => h) (Or.inl ⟨by rfl, ?_⟩) ?_
  rotate_left
  · intro w; go_simp <;> with_reducible rfl
  go_simp
  refine wpAny_take (i := 4) (v := ?_) rfl (by kernel_rfl) (by kernel_rfl) (by kernel_rfl) (fun _ _ _ h => h) (Or.inl ⟨by rfl, ?_⟩) ?_
  rotate_left
  · intro w; go_simp <;> with_reducible rfl
  go_simp
  refine wpAny_take (i := 5) (v := ?_) rfl (by kernel_rfl) (by kernel_rfl) (by kernel_rfl) (fun _ _ _ h => h) (Or.inl ⟨by rfl, ?_⟩) ?_
  rotate_left
  · intro w; go_simp <;> with_reducible rfl
  go_simp
  refine wpAny_take (i := 6) (v := ?_) rfl (by kernel_rfl) (by kernel_rfl) (by kernel_rfl) (fun _ _ _ h => h) (Or.inl ⟨by rfl, ?_⟩) ?_
  rotate_left
  · intro w; go_simp <;> with_reducible rfl
  go_simp
  refine wpAny_take (i := 7) (v := ?_) rfl (by kernel_rfl) (by kernel_rfl) (by kernel_rfl) (fun _ _ _ h => h) (Or.inl ⟨by rfl, ?_⟩) ?_
  rotate_left
  · intro w; go_simp <;> with_reducible rfl
  go_simp
  refine wpAny_take (i := 8) (v := ?_) rfl (by kernel_rfl) (by kernel_rfl) (by kernel_rfl) (fun _ _ _ h => h) (Or.inl ⟨by rfl, ?_⟩) ?_
  rotate_left
  · intro w; go_simp <;> with_reducible rfl
  go_simp
  refine wpAny_take (i := 9) (v := ?_) rfl (by kernel_rfl) (by kernel_rfl) (by kernel_rfl) (fun _ _ _ h => h) (Or.inl ⟨by rfl, ?_⟩) ?_
  rotate_left
  · intro w; go_simp <;> with_reducible rfl
  go_simp
  refine wpAny_take (i := 10) (v := ?_) rfl (by kernel_rfl) (by kernel_rfl) (by kernel_rfl) (fun _ _ _ h => h) (Or.inl ⟨by rfl, ?_⟩) ?_
  rotate_left
  · intro w; go_simp <;> with_reducible rfl
  go_simp
  refine wpAny_take (i := 11) (v := ?_) rfl (by kernel_rfl) (by kernel_rfl) (by kernel_rfl) (fun _ _ _ h => h) (Or.inl ⟨by rfl, ?_⟩) ?_
  rotate_left
  · intro w; go_simp <;> with_reducible rfl
  go_simp
  refine wpAny_ready (rs := [12]) (by kernel_rfl) (by simp) ?_
  refine AllReady.cons rfl (fun K hK => ?_) (AllReady.nil)
  go_simp
  go_at_call 15
  refine (lastIs HC4.out).mono ?_
  rintro e W5 ⟨rfl, rfl⟩
  rw [HL3.out]
  try go_simp
  refine hK _ _ ?_
  clear hK K
  try go_simp
  refine wpAny_take (i := 13) (v := ?_) rfl (by kernel_rfl) (by kernel_rfl) (by kernel_rfl) (fun _ _ _ h => h) (Or.inl ⟨by rfl, ?_⟩) ?_
  rotate_left
  · intro w; go_simp <;> with_reducible rfl
  go_simp
  refine wpAny_take (i := 14) (v := ?_) rfl (by kernel_rfl) (by kernel_rfl) (by kernel_rfl) (fun _ _ _ h => h) (Or.inl ⟨by rfl, ?_⟩) ?_
  rotate_left
  · intro w; go_simp <;> with_reducible rfl
  go_simp
  refine wpAny_take (i := 15) (v := ?_) rfl (by kernel_rfl) (by kernel_rfl) (by kernel_rfl) (fun _ _ _ h => h) (Or.inl ⟨by rfl, ?_⟩) ?_
  rotate_left
  · intro w; go_simp <;> with_reducible rfl
  go_simp
  refine wpAny_take (i := 16) (v := ?_) rfl (by kernel_rfl) (by kernel_rfl) (by kernel_rfl) (fun _ _ _ h => h) (Or.inl ⟨by rfl, ?_⟩) ?_
  rotate_left
  · intro w; go_simp <;> with_reducible rfl
  go_simp
  refine wpAny_take (i := 17) (v := ?_) rfl (by kernel_rfl) (by kernel_rfl) (by kernel_rfl) (fun _ _ _ h => h) (Or.inl ⟨by rfl, ?_⟩) ?_
  rotate_left
  · intro w; go_simp <;> with_reducible rfl
  go_simp
  refine wpAny_take (i := 18) (v := ?_) rfl (by kernel_rfl) (by kernel_rfl) (by kernel_rfl) (fun _ _ _ h => h) (Or.inl ⟨by rfl, ?_⟩) ?_
  rotate_left
  · intro w; go_simp <;> with_reducible rfl
  go_simp
  refine wpAny_take (i := 19) (v := ?_) rfl (by kernel_rfl) (by kernel_rfl) (by kernel_rfl) (fun _ _ _ h => h) (Or.inl ⟨by rfl, ?_⟩) ?_
  rotate_left
  · intro w; go_simp <;> with_reducible rfl
  go_simp
  refine wpAny_take (i := 20) (v := ?_) rfl (by kernel_rfl) (by kernel_rfl) (by kernel_rfl) (fun _ _ _ h => h) (Or.inl ⟨by rfl, ?_⟩) ?_
  rotate_left
  · intro w; go_simp <;> with_reducible rfl
  go_simp
  refine wpAny_take (i := 21) (v := ?_) rfl (by kernel_rfl) (by kernel_rfl) (by kernel_rfl) (fun _ _ _ h => h) (Or.inl ⟨by rfl, ?_⟩) ?_
  rotate_left
  · intro w; go_simp <;> with_reducible rfl
  go_simp
  refine wpAny_take (i := 22) (v := ?_) rfl (by kernel_rfl) (by kernel_rfl) (by kernel_rfl) (fun _ _ _ h => h) (Or.inl ⟨by rfl, ?_⟩) ?_
  rotate_left
  · intro w; go_simp <;> with_reducible rfl
  go_simp
  refine wpAny_ready (rs := [23]) (by kernel_rfl) (by simp) ?_
  refine AllReady.cons rfl (fun K hK => ?_) (AllReady.nil)
  go_simp
  try go_simp
  refine hK _ _ ?_
  clear hK K
  try go_simp
  refine wpAny_take (i := 24) (v := ?_) rfl (by kernel_rfl) (by kernel_rfl) (by kernel_rfl) (fun _ _ _ h => h) (Or.inl ⟨by rfl, ?_⟩) ?_
  rotate_left
  · intro w; go_simp <;> with_reducible rfl
  go_simp
  refine wpAny_take (i := 25) (v := ?_) rfl (by kernel_rfl) (by kernel_rfl) (by kernel_rfl) (fun _ _ _ h => h) (Or.inl ⟨by rfl, ?_⟩) ?_
  rotate_left
  · intro w; go_simp <;> with_reducible rfl
  go_simp
  refine wpAny_take (i := 26) (v := ?_) rfl (by kernel_rfl) (by kernel_rfl) (by kernel_rfl) (fun _ _ _ h => h) (Or.inl ⟨by rfl, ?_⟩) ?_
  rotate_left
  · intro w; go_simp <;> with_reducible rfl
  go_simp
  refine wpAny_take (i := 28) (v := ?_) rfl (by kernel_rfl) (by kernel_rfl) (by kernel_rfl) (fun _ _ _ h => h) (Or.inl ⟨by rfl, ?_⟩) ?_
  rotate_left
  · intro w; go_simp <;> with_reducible rfl
  go_simp
  refine wpAny_take (i := 29) (v := ?_) rfl (by kernel_rfl) (by kernel_rfl) (by kernel_rfl) (fun _ _ _ h => h) (Or.inl ⟨by rfl, ?_⟩) ?_
  rotate_left
  · intro w; go_simp <;> with_reducible rfl
  go_simp
  refine wpAny_ready (rs := [27, 30]) (by kernel_rfl) (by simp) ?_
  refine AllReady.cons rfl (fun K hK => ?_) ?_
  · skip
    go_simp
    go_at_call 9
    refine (HNM.out _ HB5.out).mono ?_
    rintro e W6 ⟨rfl, hb6⟩
    have hcell6 := pw_cell_below hb6 hcellD
    have HB6 := Aside0.mk (chain' HB5.out hb6)
    clear hb6
    try go_simp
    refine hK _ _ ?_
    clear hK K
    try go_simp
    refine wpAny_ready (rs := [30]) (by kernel_rfl) (by simp) ?_
    refine AllReady.cons rfl (fun K hK => ?_) (AllReady.nil)
    go_simp
    try go_simp
    refine hK _ _ ?_
    clear hK K
    try go_simp
    refine wpAny_take (i := 31) (v := ?_) rfl (by kernel_rfl) (by kernel_rfl) (by kernel_rfl) (fun _ _ _ h => h) (Or.inl ⟨by rfl, ?_⟩) ?_
    rotate_left
    · intro w; go_simp <;> with_reducible rfl
    go_simp
    refine wpAny_take (i := 32) (v := ?_) rfl (by kernel_rfl) (by kernel_rfl) (by kernel_rfl) (fun _ _ _ h => h) (Or.inl ⟨by rfl, ?_⟩) ?_
    rotate_left
    · intro w; go_simp <;> with_reducible rfl
    go_simp
    refine wpAny_take (i := 33) (v := ?_) rfl (by kernel_rfl) (by kernel_rfl) (by kernel_rfl) (fun _ _ _ h => h) (Or.inl ⟨by rfl, ?_⟩) ?_
    rotate_left
    · intro w; go_simp <;> with_reducible rfl
    go_simp
    refine wpAny_done (by kernel_rfl) ?_ _
    go_wp2
    go_ret
    exact ⟨rfl, HB6.out⟩
  refine AllReady.cons rfl (fun K hK => ?_) ?_
  · skip
    go_simp
    try go_simp
    refine hK _ _ ?_
    clear hK K
    try go_simp
    refine wpAny_ready (rs := [27]) (by kernel_rfl) (by simp) ?_
    refine AllReady.cons rfl (fun K hK => ?_) (AllReady.nil)
    go_simp
    go_at_call 9
    refine (HNM.out _ HB5.out).mono ?_
    rintro e W6 ⟨rfl, hb6⟩
    have hcell6 := pw_cell_below hb6 hcellD
    have HB6 := Aside0.mk (chain' HB5.out hb6)
    clear hb6
    try go_simp
    refine hK _ _ ?_
    clear hK K
    try go_simp
    refine wpAny_take (i := 31) (v := ?_) rfl (by kernel_rfl) (by kernel_rfl) (by kernel_rfl) (fun _ _ _ h => h) (Or.inl ⟨by rfl, ?_⟩) ?_
    rotate_left
    · intro w; go_simp <;> with_reducible rfl
    go_simp
    refine wpAny_take (i := 32) (v := ?_) rfl (by kernel_rfl) (by kernel_rfl) (by kernel_rfl) (fun _ _ _ h => h) (Or.inl ⟨by rfl, ?_⟩) ?_
    rotate_left
    · intro w; go_simp <;> with_reducible rfl
    go_simp
    refine wpAny_take (i := 33) (v := ?_) rfl (by kernel_rfl) (by kernel_rfl) (by kernel_rfl) (fun _ _ _ h => h) (Or.inl ⟨by rfl, ?_⟩) ?_
    rotate_left
    · intro w; go_simp <;> with_reducible rfl
    go_simp
    refine wpAny_done (by kernel_rfl) ?_ _
    go_wp2
    go_ret
    exact ⟨rfl, HB6.out⟩
  exact AllReady.nil
  -- END
end Go.Proofs.YtclhelpcjgmpmaaGreatDoor.Fs
namespace Go.Proofs.YtclhelpcjgmpmaaGreatDoor.Fs
open Go.RowKit Go.Proofs.YtclhelpcjgmpmaaGreatDoor Go.Proofs.YtclhelpcjgmpmaaGreatDoor.Plain Go.Proofs.YtclhelpcjgmpmaaGreatDoorW.PrintWords Go.Maps
set_option linter.unusedVariables false
set_option linter.unusedSimpArgs false
theorem oneByte (W : World) (c : UInt8) (t : TypeId) (ht : t = 5) : (convert 41 9 (.slice (some ⟨W.heap.size, 0, none⟩) 1 1)).run Tryz.prog (W.alloc (.cells #[.int .u8 (c.toNat : Int)] t)) = .ok (.string (S [c])) (W.alloc (.cells #[.int .u8 (c.toNat : Int)] t)) := by
  subst ht
  refine convAny (a := [c]) (n := 1) ⟨rfl, (show (1 : Nat) ≤ 9223372036854775807 by omega), fun _ => ⟨_, rfl, fun j hj => ?_⟩⟩ rfl
  have hj' : j < 1 := hj
  obtain rfl : j = 0 := by omega
  have h := heap_alloc_new W (.cells #[.int .u8 (c.toNat : Int)] 5)
  have e : (⟨W.heap.size, 0, none⟩ : Addr).add 0 = ⟨W.heap.size, 0, none⟩ := rfl
  rw [e]
  unfold World.cell?
  simp only []
  rw [h]
  rfl
set_option maxHeartbeats 1000000 in
set_option maxRecDepth 100000 in
theorem digitsIs (n : Nat) (hn : n ≤ 999999999) (w : World) : Calls Tryz.prog 10 #[.int .i64 (n : Int)] w fun e w' => e = .returned (.string (S (digN 9 n))) ∧ Below w.heap.size w w' := by
  go_enter Tryz.func10, Tryz.ntmps10
  go_wp2
  go_loopw [0, 3, 4] (fun v0 v3 v4 wr => ∃ i : Nat, i ≤ 9 ∧ v4 = .int .i64 (i : Int) ∧ v0 = .int .i64 ((n / 10 ^ i : Nat) : Int) ∧ v3 = .string (S (digN i n)) ∧ Aside0 (Below w.heap.size w wr)) (fun _ _ v4 _ => 9 - (intOf v4).toNat)
  case atStart => exact ⟨0, by omega, rfl, by simp, rfl, ⟨Below.refl _ _⟩⟩
  case round =>
    obtain ⟨i, hi, rfl, rfl, rfl, HB⟩ := hrel
    by_cases hlt : i < 9
    · have hm : n / 10 ^ i ≤ 999999999 := Nat.le_trans (Nat.div_le_self _ _) hn
      have HD := Aside0.mk (digN_cons i n)
      have HP := Aside0.mk (show n / 10 ^ i / 10 = n / 10 ^ (i + 1) by rw [Nat.div_div_eq_div_mul, Nat.pow_succ])
      obtain ⟨m, hmm⟩ : ∃ m, n / 10 ^ i = m := ⟨_, rfl⟩
      rw [hmm] at hm HD HP ⊢
      obtain ⟨u, hu⟩ : ∃ u, digN i n = u := ⟨_, rfl⟩
      have hul : u.length = i := by rw [← hu, digN_length]
      rw [hu] at HD ⊢
      have hul2 : u.length ≤ 9 := by omega
      have HU := Aside0.mk hul
      clear hmm hu hul
      have hc := oneByte wr (dig m) 5 rfl
      have hd := dig_toNat m
      have e1 : ((dig m).toNat : Int) = 48 + (m : Int) % 10 := by rw [hd]; omega
      rw [e1] at hc
      have hs1 : (S [dig m]).size = 1 := rfl
      have hs2 : (S u).size = u.length := S_size u
      clear hd e1
      go_wp2
      refine ⟨⟨i + 1, by omega, by go_num, ?_, ?_, ⟨below_alloc HB.out _⟩⟩, by simp [intOf]; omega⟩
      · rw [← HP.out]; simp
      · rw [S_append, HD.out]; rfl
    · obtain rfl : i = 9 := by omega
      go_wp2
      go_ret
      exact ⟨rfl, HB.out⟩
set_option maxHeartbeats 1000000 in
set_option maxRecDepth 100000 in
/-- law13's IdsNames -/
theorem idsNames {w : World} (n : Int) (hn : (Lit.int .i64 n).wf = true) (hG : GI w) : Calls Tryz.prog 3 #[.int .i64 n] w fun e w' => e = .returned (.bool true) ∧ Below w.heap.size w w' := by
  have hr : -9223372036854775808 ≤ n ∧ n ≤ 9223372036854775807 := by
    have e1 : IntKind.i64.min = -9223372036854775808 := rfl
    have e2 : IntKind.i64.max = 9223372036854775807 := rfl
    simp only [Lit.wf, e1, e2, Bool.and_eq_true, decide_eq_true_eq] at hn
    omega
  have HA := Aside0.mk (answers w hG)
  have HN := Aside0.mk (fun X (hX : Below w.heap.size w X) => nameIs n hr.1 hr.2 X (hG.below hX))
  clear hG hn
  by_cases h : 0 ≤ n ∧ n ≤ 999999999
  · obtain ⟨k, rfl⟩ : ∃ k : Nat, n = k := ⟨n.toNat, by omega⟩
    have hk : k ≤ 999999999 := by omega
    have e : nameI (k : Int) = nextLead ++ digN 9 k := by unfold nameI; rw [if_pos h, Int.toNat_natCast]; rfl
    rw [e] at HN
    have HD := Aside0.mk (fun X => digitsIs k hk X)
    have hz : (S (digN 9 k)).size = 9 := by rw [S_size, digN_length]
    have hlead : (⟨#[110, 101, 120, 116, 45]⟩ : ByteArray).size = 5 := rfl
    have hcat : (⟨#[110, 101, 120, 116, 45]⟩ : ByteArray) ++ S (digN 9 k) = S (nextLead ++ digN 9 k) := S_append nextLead (digN 9 k)
    have h1 : ¬ (k : Int) < 0 := by omega
    have h2 : ¬ (k : Int) > 999999999 := by omega
    clear e h hr
    go_enter Tryz.func3, Tryz.ntmps3
    go_wp2_with (first
      | (go_at_call 8; refine HA.out.mono ?_; rintro e W1 ⟨rfl, hb⟩; have HB1 := Aside0.mk hb; clear hb)
      | (go_at_call 9; refine (HN.out _ HB1.out).mono ?_; rintro e W2 ⟨rfl, hb⟩; have HB2 := Aside0.mk (chain' HB1.out hb); clear hb)
      | (go_at_call 10; refine (HD.out _).mono ?_; rintro e W3 ⟨rfl, hb⟩; have HB3 := Aside0.mk (chain' HB2.out hb); clear hb))
    go_ret
    exact ⟨rfl, HB3.out⟩
  · have e : nameI n = [] := by unfold nameI; rw [if_neg h]
    rw [e] at HN
    by_cases h1 : n < 0
    · clear e h hr
      go_enter Tryz.func3, Tryz.ntmps3
      go_wp2_with (first
        | (go_at_call 8; refine HA.out.mono ?_; rintro e W1 ⟨rfl, hb⟩; have HB1 := Aside0.mk hb; clear hb)
        | (go_at_call 9; refine (HN.out _ HB1.out).mono ?_; rintro e W2 ⟨rfl, hb⟩; have HB2 := Aside0.mk (chain' HB1.out hb); clear hb))
      go_ret
      exact ⟨rfl, HB2.out⟩
    · have h2 : n > 999999999 := by omega
      clear e h hr
      go_enter Tryz.func3, Tryz.ntmps3
      go_wp2_with (first
        | (go_at_call 8; refine HA.out.mono ?_; rintro e W1 ⟨rfl, hb⟩; have HB1 := Aside0.mk hb; clear hb)
        | (go_at_call 9; refine (HN.out _ HB1.out).mono ?_; rintro e W2 ⟨rfl, hb⟩; have HB2 := Aside0.mk (chain' HB1.out hb); clear hb))
      go_ret
      exact ⟨rfl, HB2.out⟩
end Go.Proofs.YtclhelpcjgmpmaaGreatDoor.Fs
