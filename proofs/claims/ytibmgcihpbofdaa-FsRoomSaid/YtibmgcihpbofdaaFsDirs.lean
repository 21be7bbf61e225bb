/- fs: DirSync, New. -/
import Derived.Test.YtibmgcihpbofdaaFsRead
import Derived.Test.YtibmgcihpbofdaaFsShelf
namespace Go.Proofs.Ytibmgcihpbofdaa.Fs
open Go.RowKit Go.Proofs.Ytibmgcihpbofdaa Go.Proofs.Ytibmgcihpbofdaa.Plain Go.Proofs.YtibmgcihpbofdaaW.PrintWords Go.Maps
set_option linter.unusedVariables false
set_option linter.unusedSimpArgs false
theorem mapsClone {W : World} {b : Nat} {d : Dir} (h : OwnDir W b d) : Calls Try.prog 39 #[.map (some b)] W fun e W' => e = .returned (.map (some W.heap.size)) ∧ OwnDir W' W.heap.size d ∧ Below W.heap.size W W' := by
  have := AnyW.maps_Clone_owns Try.fsClone 9 ptrElem b d.length (D d) W h
  refine Calls.mono (show Calls Try.prog 39 _ _ _ from this) ?_
  rintro e W' ⟨h1, h2, _, h3⟩
  exact ⟨h1, h2, h3⟩
theorem has_mono {d d' : Disk} (hs : d'.sure = d.now) (hl : d'.loose = []) {x : Nat} (h : d'.has x) : d.has x := by
  rcases h with ⟨n, h⟩ | ⟨n, h⟩
  · rw [hs] at h
    exact has_now h
  · rw [hl] at h
    cases h
/-- a new map for what is sure, and no changes -/
theorem Core.resure {w0 W W4 : World} {f : Nat} {d : Disk} {N : Nat} {T : Nat → Prop} {bn bs bm : Nat} {vl : Value} {fs : List Value} {vb : Nat → Value} (h : Core w0 W f d N T bn bs vl fs vb)
    (hk : ∀ k, k < W.heap.size → k ≠ f → W4.heap[k]? = W.heap[k]?) (hs : W.heap.size ≤ W4.heap.size) (hb : Below w0.heap.size w0 W4) (hbm : W.heap.size ≤ bm ∧ bm < W4.heap.size)
    (hhead : W4.heap[f]? = some (.cells #[.map (some bn), .map (some bm), .slice none 0 0, .int .i64 d.room, .int .i64 d.fuse, .bool d.down] 64 (0, 0))) (hm : OwnDir W4 bm d.now) :
    Core w0 W4 f { d with sure := d.now, loose := [] } N (Wide T W W4) bn bm (.slice none 0 0) [] vb ∧ Turn T W (Wide T W W4) W4 := by
  obtain ⟨n1, n2, n3, n4, n5⟩ := h.f_ne
  have hkT : ∀ k, T k → k ≠ f → W4.heap[k]? = W.heap[k]? := fun k hT => hk k (h.mine k hT).2
  have hh : ∀ x, Disk.has { d with sure := d.now, loose := [] } x → d.has x := fun x hx => has_mono rfl rfl hx
  refine ⟨{ head := hhead, now := ownsMap_move h.now (hkT bn h.inN n1), sure := hm, ne := by have := (h.mine bn h.inN).2; omega, row := own_nil _ _ _ _, clo := .nil, file := fun x hx => ?_, apart := fun x y hx hy => h.apart x y (hh x hx) (hh y hy), inF := .inl h.inF, inN := .inl h.inN, inS := .inr hbm, inL := fun g hg => by simp [Value.ownBlock] at hg, inX := fun x hx => ⟨.inl (h.inX x (hh x hx)).1, fun g hg => .inl ((h.inX x (hh x hx)).2 g hg)⟩, mine := ?_, ok := trivial, room := h.room, fuse := h.fuse, small := ⟨?_, fun x hx => h.small.2 x (hh x hx)⟩, below := hb }, ?_⟩
  · have hx' := hh x hx
    obtain ⟨q1, q2, q3⟩ := h.file x hx'
    exact ⟨(hkT x (h.inX x hx').1 (n5 x hx').1).trans q1, own_move q2 (fun k hk' => hkT k ((h.inX x hx').2 k hk') ((n5 x hx').2 k hk')), q3⟩
  · rintro k (hT | ⟨q1, q2⟩)
    · exact ⟨(h.mine k hT).1, Nat.lt_of_lt_of_le (h.mine k hT).2 hs⟩
    · exact ⟨Nat.le_trans h.below.size q1, q2⟩
  · have h1 := length_apps_le d.loose d.sure
    have h2 := h.small.1
    simp only [List.length_nil, Nat.add_zero]
    unfold Disk.now
    omega
  · exact ⟨fun k hk' => hk'.elim .inl (fun h => .inr h.1), fun k hT => .inl hT, fun k hk' hT => hk k hk' (fun e => hT (e ▸ h.inF)), hs⟩
set_option maxHeartbeats 1000000 in
set_option maxRecDepth 100000 in
theorem dirSync {w0 W : World} {f : Nat} {d : Disk} {N : Nat} {T : Nat → Prop} (h : FsAt w0 f d N T W) :
    Calls Try.prog 18 #[.pointer (some ⟨f, 0, none⟩)] W fun e W' => e = .returned (.int .i64 d.dirSync.1) ∧ ∃ T', FsAt w0 f d.dirSync.2 N T' W' ∧ Turn T W T' W' := by
  have X := ready h none 0 [] (fun j hj => by simp at hj) (by simp) (n := 0) rfl
  obtain ⟨bn, bs, vl, fs, vb, c0⟩ := h
  obtain ⟨r, hr⟩ : ∃ r, d.ready [] = r := ⟨_, rfl⟩
  rw [hr] at X
  have HR := Aside0.mk hr
  have HC0 := Aside0.mk c0
  clear hr c0
  by_cases h0 : r = 0
  · subst h0
    have e0 : d.dirSync = if d.power.1 = 0 then (0, { d.power.2 with sure := d.now, loose := [] }) else d.power := by rw [Disk.dirSync, HR.out, if_neg (by omega)]
    have hPE := power_eq d
    have X4 := fun X (hX : Below W.heap.size W X) => power (HC0.out.step' hX)
    obtain ⟨pr, hpr⟩ : ∃ pr, d.power.1 = pr := ⟨_, rfl⟩
    obtain ⟨p2, hp2⟩ : ∃ p2, d.power.2 = p2 := ⟨_, rfl⟩
    have epw : d.power = (pr, p2) := by rw [← hpr, ← hp2]
    rw [hpr, hp2] at X4 e0
    rw [hp2] at hPE
    have HPE := Aside0.mk hPE
    have HX4 := Aside0.mk X4
    have HE0 := Aside0.mk e0
    have HEP := Aside0.mk epw
    clear e0 hPE X4 hpr hp2 epw
    by_cases hp0 : pr = 0
    · subst hp0
      go_enter Try.func18, Try.ntmps18
      go_wp2_with (first
        | (go_at_call 33; refine X.mono ?_; rintro e W1 ⟨rfl, hB⟩; clear X; have HB := Aside0.mk hB; clear hB)
        | (go_at_call 37; refine (HX4.out W1 HB.out).mono ?_; rintro e W2 ⟨rfl, hC, hb⟩; have HC := Aside0.mk hC; have HBT := Aside0.mk hb; obtain ⟨hc0, _⟩ := hC.cells; clear hC hb)
        | (go_at_call 39; refine (mapsClone HC.out.now).mono ?_; rintro e W3 ⟨rfl, hd3, hb3⟩; clear hc0; have HD3 := Aside0.mk hd3; have HB3 := Aside0.mk hb3; have hc3 := (HC.out.step' hb3).cells.2.1; have hc4 := (HC.out.step' hb3).cells.2.2.1; have hf3 := (HC.out.step' hb3).frozen 1; have hf4 := (HC.out.step' hb3).frozen 2; obtain ⟨A1, k1, hv1⟩ := own_slice HC.out.row; rw [hv1] at hc4; clear hd3 hb3 hv1))
      go_ret
      have lf := (HC.out.mine f HC.out.inF)
      have hh3 : W3.heap[f]? = W2.heap[f]? := HB3.out.block f lf.2
      have hs3 : W2.heap.size < W3.heap.size := by
        obtain ⟨es, c, hm⟩ := map_obj HD3.out
        exact (Array.getElem?_eq_some_iff.1 hm).1
      have hk4 : ∀ k, k ≠ f → ((W3.setCell ⟨f, 1, none⟩ (.map (some W2.heap.size))).setCell ⟨f, 2, none⟩ (.slice none 0 0)).heap[k]? = W3.heap[k]? := fun k hk => by
        rw [Below.heap_setCell _ ⟨f, 2, none⟩ _ k hk, Below.heap_setCell _ ⟨f, 1, none⟩ _ k hk]
      obtain ⟨q1, q2⟩ := HC.out.resure (W4 := (W3.setCell ⟨f, 1, none⟩ (.map (some W2.heap.size))).setCell ⟨f, 2, none⟩ (.slice none 0 0)) (bm := W2.heap.size)
        (fun k hk hkf => (hk4 k hkf).trans (HB3.out.block k hk)) (by simp [World.setCell]; omega) ((((HC.out.below.trans (HB3.out.mono HC.out.below.size))).setCell lf.1 _).setCell lf.1 _) ⟨Nat.le_refl _, by simp [World.setCell]; omega⟩
        (by simp [World.setCell, Array.getElem?_modify, hh3, HC.out.head]) (ownsMap_move HD3.out (hk4 _ (by omega)))
      have e : d.dirSync = (0, { p2 with sure := p2.now, loose := [] }) := by rw [HPE.out.2.2.2.2]; simpa using HE0.out
      rw [e]
      exact ⟨rfl, _, ⟨_, _, _, _, _, q1⟩, ((Turn.of_below HB.out).trans (HBT.out.turn HC.out.inF)).trans q2⟩
    · have hp0' : (pr == 0) = false := by simpa using hp0
      go_enter Try.func18, Try.ntmps18
      go_wp2_with (first
        | (go_at_call 33; refine X.mono ?_; rintro e W1 ⟨rfl, hB⟩; clear X; have HB := Aside0.mk hB; clear hB)
        | (go_at_call 37; refine (HX4.out W1 HB.out).mono ?_; rintro e W2 ⟨rfl, hC, hb⟩; have HC := Aside0.mk hC; have HBT := Aside0.mk hb; clear hC hb))
      go_ret
      have e : d.dirSync = (pr, p2) := by rw [HE0.out, if_neg hp0, HEP.out]
      rw [e]
      exact ⟨rfl, T, ⟨_, _, _, _, _, HC.out⟩, (Turn.of_below HB.out).trans (HBT.out.turn HC.out.inF)⟩
  · have h0' : (r == 0) = false := by simpa using h0
    go_enter Try.func18, Try.ntmps18
    go_wp2_with (go_at_call 33; refine X.mono ?_; rintro e W1 ⟨rfl, hB⟩; clear X)
    go_ret
    have e : d.dirSync = (r, d) := by rw [Disk.dirSync, HR.out, if_pos h0]
    rw [e]
    exact ⟨rfl, T, ⟨_, _, _, _, _, HC0.out.step' hB⟩, Turn.of_below hB⟩
end Go.Proofs.Ytibmgcihpbofdaa.Fs
