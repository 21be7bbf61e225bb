/- fs: Append. -/
import Derived.Test.YtibmgcihpbofdaaFsFile
import Derived.Deep.RegionWith
import Derived.IntWalk
namespace Go.Proofs.Ytibmgcihpbofdaa.Fs
open Go.RowKit Go.Proofs.Ytibmgcihpbofdaa Go.Proofs.Ytibmgcihpbofdaa.Plain Go.Proofs.YtibmgcihpbofdaaW.PrintWords Go.Maps
set_option linter.unusedVariables false
set_option linter.unusedSimpArgs false
/-- what comes in to be appended can still be read -/
theorem appendReads {w0 W W2 W3 : World} {f : Nat} {d p : Disk} {N : Nat} {T : Nat → Prop} {bn bs : Nat} {vl : Value} {fs : List Value} {vb : Nat → Value} {A : Option Addr} {b : List UInt8} (h : ReadsInt W .u8 A (B b).length (B b)) (hb : Below W.heap.size W W2) (hbt : But f W2 W3) (_ : Below w0.heap.size w0 W) (hc : Core w0 W f d N T bn bs vl fs vb) (_ : Core w0 W3 f p N T bn bs vl fs vb) : ReadsInt W3 .u8 A b.length (B b) := by
  have h2 := h.below hb
  rw [B_length] at h2
  refine ⟨h2.1, h2.2.1, fun hp => ?_⟩
  obtain ⟨ad, e, hcell⟩ := h2.2.2 hp
  refine ⟨ad, e, fun j hj => ?_⟩
  have hblk : (ad.add j).block ≠ f := by
    intro ef
    have h3 := hcell j hj
    have h0 := (hc.step' hb).head
    obtain ⟨A', c', hv⟩ := own_slice hc.row
    rw [hv] at h0
    simp only [World.cell?, ef, h0] at h3
    generalize (ad.add j).off = o at h3
    match o, h3 with
    | 0, h3 => simp at h3
    | 1, h3 => simp at h3
    | 2, h3 => simp at h3
    | 3, h3 => simp at h3
    | 4, h3 => simp at h3
    | 5, h3 => simp at h3
    | o + 6, h3 => simp at h3
  exact (World.cell?_of_block (hbt.1 _ hblk)).trans (hcell j hj)
theorem appendCell {w0 W3 W4 : World} {f : Nat} {p : Disk} {N : Nat} {T : Nat → Prop} {bn bs : Nat} {vl : Value} {fs : List Value} {vb : Nat → Value} (h : Core w0 W3 f p N T bn bs vl fs vb) {x : Nat} (hx : p.has x) {v : Value} (hv : vb x = v) (hg : W3.grownBy W4 v.ownBlock) : W4.cell? ⟨x, 0, none⟩ = some v ∧ W4.frozen? ⟨x, 0, none⟩ = false := by
  subst hv
  have e := (hg.block x (h.mine x (h.inX x hx).1).2 (h.keepX hx).2.2.2.2.2.1).trans (h.file x hx).1
  exact ⟨by simp [World.cell?, e], by simp [World.frozen?, e]⟩
set_option maxHeartbeats 2000000 in
set_option maxRecDepth 100000 in
theorem append {w0 W : World} {f : Nat} {d : Disk} {N : Nat} {T : Nat → Prop} (h : FsAt w0 f d N T W) (n : Nm) (hn : n.length ≤ 140737488351232) (b : List UInt8) (hN : N + b.length ≤ 1000000) (A : Option Addr) (m c : Nat) (hm : m = b.length) (hb : ReadsInt W .u8 A (B b).length (B b)) :
    Calls Try.prog 14 #[.pointer (some ⟨f, 0, none⟩), .string (S n), .slice A m c] W fun e W' => e = .returned (.int .i64 (d.append n b).1) ∧ ∃ T', FsAt w0 f (d.append n b).2 (N + b.length + 1) T' W' ∧ Turn T W T' W' := by
  subst hm
  have hW2 : Below W.heap.size W (W.alloc (.cells #[.string (S n)] 9)) := below_alloc (Below.refl _ _) _
  have X := found (h.step hW2) (some ⟨W.heap.size, 0, none⟩) 1 n [] (names1 (W := W) n hn #[.string (S n)] 9 (0, 0) rfl) (by simp) (m := 1) rfl
  have XU := fun X (hX : Below W.heap.size W X) => usedIs (h.step hX) (by omega)
  obtain ⟨bn, bs, vl, fs, vb, c0⟩ := h
  obtain ⟨p, hp⟩ : ∃ p, d.found [n] n = p := ⟨_, rfl⟩
  rw [hp] at X
  obtain ⟨v, r⟩ := p
  have HF := Aside0.mk hp
  have HC0 := Aside0.mk c0
  have HW2 := Aside0.mk hW2
  have HRB := Aside0.mk hb
  have HXU := Aside0.mk XU
  clear hp hW2 c0 hb XU
  by_cases h0 : r = 0
  · subst h0
    obtain ⟨hr, x, hx, hv⟩ := found_ready (d := d) (ns := [n]) (n := n) (by rw [HF.out])
    rw [HF.out] at hv
    obtain rfl : v = .pointer (some ⟨x, 0, none⟩) := (Prod.mk.inj hv).1
    have HX := Aside0.mk hx
    have HR := Aside0.mk hr
    have e0 : d.append n b = if (b.length : Int) > d.room - (used d.bytes d.now : Int) then (3, d) else if d.power.1 = 0 then (0, { d.power.2 with bytes := setAt d.bytes x (d.bytes x ++ b) }) else d.power := by rw [Disk.append, hr, if_neg (by omega), hx]
    obtain ⟨U, hU⟩ : ∃ U, used d.bytes d.now = U := ⟨_, rfl⟩
    obtain ⟨rm, hrm⟩ : ∃ rm, d.room = rm := ⟨_, rfl⟩
    have hrb := HC0.out.room
    have hub : U ≤ 2000000000000 := by
      have h1 := used_le (by_ := d.bytes) (d := d.now) (N := N) (fun p hp => HC0.out.small.2 _ (has_now hp))
      have h2 := length_apps_le d.loose d.sure
      have h3 := HC0.out.small.1
      have h4 : d.now.length ≤ 1000000 := by unfold Disk.now; omega
      have h5 : d.now.length * N ≤ 1000000 * 1000000 := Nat.mul_le_mul h4 (by omega)
      omega
    rw [hU, hrm] at e0
    rw [hrm] at hrb
    obtain ⟨hrb1, hrb2⟩ := hrb
    have HE0 := Aside0.mk e0
    have hc3 : ∀ X, Below W.heap.size W X → X.cell? ⟨f, 3, none⟩ = some (.int .i64 rm) := fun X hX => by have := (HC0.out.step' hX).cells.2.2.2.1; rw [hrm] at this; exact this
    have HC3 := Aside0.mk hc3
    have hPE := power_eq d
    have hPH := power_has (d := d) (x := x)
    have X4 := fun X (hX : Below W.heap.size W X) => power (HC0.out.step' hX)
    obtain ⟨pr, hpr⟩ : ∃ pr, d.power.1 = pr := ⟨_, rfl⟩
    obtain ⟨p2, hp2⟩ : ∃ p2, d.power.2 = p2 := ⟨_, rfl⟩
    have epw : d.power = (pr, p2) := by rw [← hpr, ← hp2]
    rw [hpr, hp2] at X4
    rw [hpr, hp2] at HE0
    rw [hp2] at hPE hPH
    have HPE := Aside0.mk hPE
    have HPH := Aside0.mk hPH
    have HX4 := Aside0.mk X4
    have HEP := Aside0.mk epw
    rw [hU] at HXU
    clear hr hx hv e0 hU hrm hc3 hPE hPH X4 hpr hp2 epw
    go_enter Try.func14, Try.ntmps14
    go_wp2_with (go_at_call 36; refine X.mono ?_; rintro e W1 ⟨rfl, hB⟩; clear X; have HB := Aside0.mk (HW2.out.trans (hB.mono HW2.out.size)); clear hB)
    have hcW := HC3.out W1 HB.out
    have HXW := Aside0.mk (fun X (hX : Below W1.heap.size W1 X) => HXU.out X (HB.out.trans (hX.mono HB.out.size)))
    have HCW := Aside0.mk (fun X (hX : Below W1.heap.size W1 X) => HC3.out X (HB.out.trans (hX.mono HB.out.size)))
    have hwr : IntKind.i64.wrap (rm - (U : Int)) = rm - (U : Int) := IntWalk.i64_in _ (by omega)
    by_cases hfull : (b.length : Int) > rm - (U : Int)
    · have hdec : decide (rm - (U : Int) < (b.length : Int)) = true := decide_eq_true hfull
      go_region_with (first | (go_at_call 25; go_must (refine (HXW.out _ (by repeat (first | exact Below.refl _ _ | apply below_drew1))).mono ?_; rintro e W2 ⟨rfl, hB2⟩; have hcW2 := HCW.out W2 (Below.trans (by repeat (first | exact Below.refl _ _ | apply below_drew1)) hB2); have HB2 := Aside0.mk (HB.out.trans ((Below.trans (by repeat (first | exact Below.refl _ W1 | apply below_drew1)) hB2 : Below W1.heap.size W1 W2).mono HB.out.size)); clear hB2)))
      all_goals
        go_wp2
        go_ret
        have e : d.append n b = (3, d) := by rw [HE0.out, if_pos hfull]
        rw [e]
        exact ⟨rfl, T, ⟨_, _, _, _, _, (HC0.out.step' HB2.out).le (by omega)⟩, Turn.of_below HB2.out⟩
    · have hdec : decide (rm - (U : Int) < (b.length : Int)) = false := decide_eq_false hfull
      go_region_with (first | (go_at_call 25; go_must (refine (HXW.out _ (by repeat (first | exact Below.refl _ _ | apply below_drew1))).mono ?_; rintro e W2 ⟨rfl, hB2⟩; have hcW2 := HCW.out W2 (Below.trans (by repeat (first | exact Below.refl _ _ | apply below_drew1)) hB2); have HB2 := Aside0.mk (HB.out.trans ((Below.trans (by repeat (first | exact Below.refl _ W1 | apply below_drew1)) hB2 : Below W1.heap.size W1 W2).mono HB.out.size)); clear hB2)))
      all_goals
        clear hwr hdec hcW hcW2
        by_cases hp0 : pr = 0
        · subst hp0
          go_wp2_with (first
            | (go_at_call 37; refine (HX4.out W2 HB2.out).mono ?_; rintro e W3 ⟨rfl, hC, hb⟩; have HC := Aside0.mk hC; have HBT := Aside0.mk hb; obtain ⟨hc0, hc1, hf0, A1, k1, hv1⟩ := hC.fileCells (HPH.out.2 (has_get HX.out)); have HV1 := Aside0.mk hv1; rw [hv1] at hc0; clear hC hb hf0 hc1 hv1)
            | (at_builtin; refine print_append_row (w0 := w0) w0.heap.size rfl (.tmp 41) (.tmp 42) 22 5 .u8 1 rfl Try.underlying22 infoU8 (by decide) (.slice A1 (p2.bytes x).length k1) (B (p2.bytes x)) (B b) A b.length c rfl rfl (by have := (HC.out.file x (HPH.out.2 (has_get HX.out))).2.1; rw [HV1.out] at this; exact this) (appendReads HRB.out HB2.out HBT.out HC0.out.below HC0.out HC.out) HC.out.below HC.out.below.size (by have := HC.out.small.2 x (HPH.out.2 (has_get HX.out)); rw [B_length]; omega) ?_; intro v4 W4 hown hb4 hg4 hat4; obtain ⟨A4, k4, hv4⟩ := own_slice hown; subst hv4; have HO4 := Aside0.mk hown; have HB4 := Aside0.mk hb4; have HG4 := Aside0.mk hg4; have HT4 := Aside0.mk hat4; obtain ⟨kc, kf⟩ := appendCell HC.out (HPH.out.2 (has_get HX.out)) HV1.out hg4; clear hown hb4 hg4 hat4 hc0))
          go_ret
          have hx := HPH.out.2 (has_get HX.out)
          have e : d.append n b = (0, { p2 with bytes := setAt d.bytes x (d.bytes x ++ b) }) := by rw [HE0.out, if_neg (by omega)]; simp
          have hown := HO4.out
          rw [B_append, B_length] at hown
          have hl4 : (p2.bytes x ++ b).length = (p2.bytes x).length + b.length := by simp
          rw [hl4] at hown
          have hkx := HC.out.keepX hx
          have hvx : (vb x).ownBlock = (Value.slice A1 (p2.bytes x).length k1).ownBlock := by rw [HV1.out]
          have hg4 := HG4.out
          rw [← hvx] at hg4
          have hxl := (HC.out.mine x (HC.out.inX x hx).1).2
          have hne4 : ∀ k, (Value.slice A4 ((p2.bytes x).length + b.length) k4).ownBlock = some k → k ≠ x := by
            intro k hk e
            subst e
            have hh := HT4.out
            rw [B_append, B_length, hl4, hk] at hh
            rcases hh with h | ⟨g, h, hg⟩
            · exact hkx.2.2.2.2.2.1 (by rw [hvx]; exact h)
            · cases h; omega
          obtain ⟨q1, q2⟩ := HC.out.setFile (N' := N + b.length + 1) (W4 := W4.setCell ⟨x, 0, none⟩ (.slice A4 ((p2.bytes x).length + b.length) k4)) hx (v1 := .slice A4 ((p2.bytes x).length + b.length) k4) (b' := p2.bytes x ++ b) (m' := p2.firm x)
            (fun k hk k1 k2 => by rw [Below.heap_setCell W4 ⟨x, 0, none⟩ _ k k1]; exact hg4.block k hk k2) (by simpa [World.setCell] using hg4.size) (HB4.out.setCell (HC.out.mine x (HC.out.inX x hx).1).1 _)
            (setBytes_eq ((hg4.block x hxl hkx.2.2.2.2.2.1).trans (HC.out.file x hx).1))
            (by rw [B_length, hl4]; exact own_move hown (fun k hk => Below.heap_setCell W4 _ _ k (hne4 k hk)))
            (by have := (HC.out.file x hx).2.2; simp; omega)
            (by
              have hh := HT4.out
              rw [B_append, B_length, hl4, ← hvx] at hh
              rcases hh with h | ⟨g, h, hg⟩
              · exact .inl h
              · refine .inr (fun k hk => ?_)
                rw [h] at hk
                cases hk
                exact hg)
            (by omega) (by have := HC.out.small.2 x hx; simp; omega)
          rw [e, ← HPE.out.1]
          rw [setAt_id] at q1
          exact ⟨rfl, _, ⟨_, _, _, _, _, q1⟩, ((Turn.of_below HB2.out).trans (HBT.out.turn HC.out.inF)).trans q2⟩
        · have hp0' : (pr == 0) = false := by simpa using hp0
          go_wp2_with (go_at_call 37; refine (HX4.out W2 HB2.out).mono ?_; rintro e W3 ⟨rfl, hC, hb⟩; have HC := Aside0.mk hC; have HBT := Aside0.mk hb; clear hC hb)
          go_ret
          have e : d.append n b = (pr, p2) := by rw [HE0.out, if_neg (by omega), if_neg hp0, HEP.out]
          rw [e]
          exact ⟨rfl, T, ⟨_, _, _, _, _, HC.out.le (by omega)⟩, (Turn.of_below HB2.out).trans (HBT.out.turn HC.out.inF)⟩
  · have h0' : (r == 0) = false := by simpa using h0
    have h0'' : (r != 0) = true := by simpa using h0
    go_enter Try.func14, Try.ntmps14
    go_wp2_with (go_at_call 36; refine X.mono ?_; rintro e W1 ⟨rfl, hB⟩; clear X)
    go_ret
    have e : d.append n b = (r, d) := by
      have h1 := HF.out
      unfold Disk.found at h1
      unfold Disk.append
      by_cases h2 : d.ready [n] = 0
      · rw [if_neg (by omega)] at h1 ⊢
        cases hg : get d.now n with
        | none => rw [hg] at h1; cases h1; rfl
        | some x => rw [hg] at h1; cases h1; exact absurd rfl h0
      · rw [if_pos h2] at h1 ⊢
        cases h1
        rfl
    have hB' := HW2.out.trans (hB.mono HW2.out.size)
    rw [e]
    exact ⟨rfl, T, ⟨_, _, _, _, _, (HC0.out.step' hB').le (by omega)⟩, Turn.of_below hB'⟩
end Go.Proofs.Ytibmgcihpbofdaa.Fs
