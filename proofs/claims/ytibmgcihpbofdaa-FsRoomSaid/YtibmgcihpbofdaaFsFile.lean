/- fs: a file's bytes written: what it leaves; Sync, Append. -/
import Derived.Test.YtibmgcihpbofdaaFsUsed
namespace Go.Proofs.Ytibmgcihpbofdaa.Fs
open Go.RowKit Go.Proofs.Ytibmgcihpbofdaa Go.Proofs.Ytibmgcihpbofdaa.Plain Go.Proofs.YtibmgcihpbofdaaW.PrintWords Go.Maps
set_option linter.unusedVariables false
set_option linter.unusedSimpArgs false
theorem Core.keepX {w0 W : World} {f : Nat} {d : Disk} {N : Nat} {T : Nat → Prop} {bn bs : Nat} {vl : Value} {fs : List Value} {vb : Nat → Value} (h : Core w0 W f d N T bn bs vl fs vb) {x : Nat} (hx : d.has x) :
    (f ≠ x ∧ some f ≠ (vb x).ownBlock) ∧ (bn ≠ x ∧ some bn ≠ (vb x).ownBlock) ∧ (bs ≠ x ∧ some bs ≠ (vb x).ownBlock) ∧ (∀ g, vl.ownBlock = some g → g ≠ x ∧ some g ≠ (vb x).ownBlock) ∧ (∀ k, IsBox W k → k ≠ x ∧ some k ≠ (vb x).ownBlock) ∧
    some x ≠ (vb x).ownBlock ∧ (∀ y, d.has y → y ≠ x → some y ≠ (vb x).ownBlock ∧ ∀ g, (vb y).ownBlock = some g → g ≠ x ∧ some g ≠ (vb x).ownBlock) := by
  obtain ⟨es, c, h1⟩ := map_obj h.now
  obtain ⟨es', c', h2⟩ := map_obj h.sure
  have ex := (h.file x hx).1
  have hrow : ∀ k o, W.heap[k]? = some o → (∀ cur, o ≠ .cells cur 5 (0, 0)) → some k ≠ (vb x).ownBlock := by
    intro k o hk ho e
    obtain ⟨cur, h3⟩ := own_cells (h.file x hx).2.1 e.symm
    rw [hk] at h3
    exact ho cur (Option.some.inj h3)
  refine ⟨⟨ne_of_obj h.head ex (by simp), hrow f _ h.head (by simp)⟩, ⟨ne_of_obj h1 ex (by simp), hrow bn _ h1 (by simp)⟩, ⟨ne_of_obj h2 ex (by simp), hrow bs _ h2 (by simp)⟩, fun g hg => ?_, fun k hB => ⟨?_, ?_⟩, hrow x _ ex (by simp), fun y hy hyx => ⟨hrow y _ (h.file y hy).1 (by simp), fun g hg => ⟨?_, fun e => ?_⟩⟩⟩
  · obtain ⟨cur, h3⟩ := own_cells h.row hg
    exact ⟨ne_of_obj h3 ex (by simp), hrow g _ h3 (by simp)⟩
  · obtain ⟨c, hk | hk⟩ := hB <;> exact ne_of_obj hk ex (by simp)
  · obtain ⟨c, hk | hk⟩ := hB <;> exact hrow k _ hk (by simp)
  · obtain ⟨cur, h3⟩ := own_cells (h.file y hy).2.1 hg
    exact ne_of_obj h3 ex (by simp)
  · exact hyx (h.apart y x hy hx g hg e.symm)
theorem Core.setFile {w0 W W4 : World} {f : Nat} {d : Disk} {N N' : Nat} {T : Nat → Prop} {bn bs : Nat} {vl : Value} {fs : List Value} {vb : Nat → Value} (h : Core w0 W f d N T bn bs vl fs vb) {x : Nat} (hx : d.has x) {v1 : Value} {b' : List UInt8} {m' : Nat}
    (hk : ∀ k, k < W.heap.size → k ≠ x → some k ≠ (vb x).ownBlock → W4.heap[k]? = W.heap[k]?) (hs : W.heap.size ≤ W4.heap.size) (hb : Below w0.heap.size w0 W4)
    (h4 : W4.heap[x]? = some (.cells #[v1, .int .i64 (m' : Int)] 69 (0, 0))) (hrow : W4.ownsRow w0.heap.size 5 1 v1 (B b').length (nums .u8 (B b'))) (hm : m' ≤ b'.length)
    (hat : v1.ownBlock = (vb x).ownBlock ∨ ∀ g, v1.ownBlock = some g → W.heap.size ≤ g) (hN : N ≤ N') (hl : b'.length ≤ N') :
    Core w0 W4 f { d with bytes := setAt d.bytes x b', firm := setAt d.firm x m' } N' (Wide T W W4) bn bs vl fs (setAt vb x v1) ∧ Turn T W (Wide T W W4) W4 := by
  obtain ⟨⟨f1, f2⟩, ⟨n1, n2⟩, ⟨s1, s2⟩, hvl, hbox, x2, hy⟩ := h.keepX hx
  have hkT : ∀ k, T k → k ≠ x → some k ≠ (vb x).ownBlock → W4.heap[k]? = W.heap[k]? := fun k hT => hk k (h.mine k hT).2
  have hvs : ∀ y, y ≠ x → setAt vb x v1 y = vb y := fun y hyx => setAt_other _ _ hyx
  have hown : ∀ g, v1.ownBlock = some g → Wide T W W4 g := by
    intro g hg
    rcases hat with e | e
    · exact .inl ((h.inX x hx).2 g (e ▸ hg))
    · exact .inr ⟨e g hg, own_lt hrow g hg⟩
  refine ⟨{ head := (hkT f h.inF f1 f2).trans h.head, now := ownsMap_move h.now (hkT bn h.inN n1 n2), sure := ownsMap_move h.sure (hkT bs h.inS s1 s2), ne := h.ne, row := own_move h.row (fun k hk' => hkT k (h.inL k hk') (hvl k hk').1 (hvl k hk').2), clo := h.clo.move (fun k hT hB => hkT k hT (hbox k hB).1 (hbox k hB).2) (fun k hT => .inl hT), file := ?_, apart := ?_, inF := .inl h.inF, inN := .inl h.inN, inS := .inl h.inS, inL := fun g hg => .inl (h.inL g hg), inX := ?_, mine := ?_, ok := h.ok, room := h.room, fuse := h.fuse, small := ⟨Nat.le_trans h.small.1 hN, ?_⟩, below := hb }, ?_⟩
  · intro y hy'
    have hyd : d.has y := hy'
    by_cases e : y = x
    · subst e
      simp only [setAt_same]
      exact ⟨h4, hrow, hm⟩
    · simp only [setAt_other _ _ e]
      obtain ⟨q1, q2, q3⟩ := h.file y hyd
      obtain ⟨r1, r2⟩ := hy y hyd e
      exact ⟨(hkT y (h.inX y hyd).1 e r1).trans q1, own_move q2 (fun k hk' => hkT k ((h.inX y hyd).2 k hk') (r2 k hk').1 (r2 k hk').2), q3⟩
  · intro y z hy' hz' g hgy hgz
    have hyd : d.has y := hy'
    have hzd : d.has z := hz'
    by_cases ey : y = x
    · by_cases ez : z = x
      · rw [ey, ez]
      · subst ey
        rw [setAt_same] at hgy
        rw [hvs z ez] at hgz
        exfalso
        rcases hat with e | e
        · exact ((hy z hzd ez).2 g hgz).2 (e ▸ hgy).symm
        · have := e g hgy
          have := (h.mine g ((h.inX z hzd).2 g hgz)).2
          omega
    · by_cases ez : z = x
      · subst ez
        rw [setAt_same] at hgz
        rw [hvs y ey] at hgy
        exfalso
        rcases hat with e | e
        · exact ((hy y hyd ey).2 g hgy).2 (e ▸ hgz).symm
        · have := e g hgz
          have := (h.mine g ((h.inX y hyd).2 g hgy)).2
          omega
      · rw [hvs y ey] at hgy
        rw [hvs z ez] at hgz
        exact h.apart y z hyd hzd g hgy hgz
  · intro y hy'
    have hyd : d.has y := hy'
    by_cases e : y = x
    · subst e
      rw [setAt_same]
      exact ⟨.inl (h.inX y hyd).1, hown⟩
    · rw [hvs y e]
      exact ⟨.inl (h.inX y hyd).1, fun g hg => .inl ((h.inX y hyd).2 g hg)⟩
  · rintro k (hT | ⟨q1, q2⟩)
    · exact ⟨(h.mine k hT).1, Nat.lt_of_lt_of_le (h.mine k hT).2 hs⟩
    · exact ⟨Nat.le_trans h.below.size q1, q2⟩
  · intro y hy'
    have hyd : d.has y := hy'
    by_cases e : y = x
    · subst e
      simp only [setAt_same]
      exact hl
    · simp only [setAt_other _ _ e]
      exact Nat.le_trans (h.small.2 y hyd) hN
  · exact ⟨fun k hk' => hk'.elim .inl (fun h => .inr h.1), fun k hT => .inl hT, fun k hk' hT => hk k hk' (fun e => hT (e ▸ (h.inX x hx).1)) (fun e => hT ((h.inX x hx).2 k e.symm)), hs⟩
/-- a file's two cells -/
theorem Core.fileCells {w0 W : World} {f : Nat} {d : Disk} {N : Nat} {T : Nat → Prop} {bn bs : Nat} {vl : Value} {fs : List Value} {vb : Nat → Value} (h : Core w0 W f d N T bn bs vl fs vb) {x : Nat} (hx : d.has x) :
    W.cell? ⟨x, 0, none⟩ = some (vb x) ∧ W.cell? ⟨x, 1, none⟩ = some (.int .i64 (d.firm x : Int)) ∧ (∀ o, W.frozen? ⟨x, o, none⟩ = false) ∧ ∃ A c, vb x = .slice A (d.bytes x).length c := by
  have e := (h.file x hx).1
  obtain ⟨A, c, hv⟩ := own_slice (h.file x hx).2.1
  rw [B_length] at hv
  exact ⟨by simp [World.cell?, e], by simp [World.cell?, e], fun o => by simp [World.frozen?, e], A, c, hv⟩
theorem setFirm_eq {W : World} {x : Nat} {v : Value} {m m' : Int} (h : W.heap[x]? = some (.cells #[v, .int .i64 m] 69 (0, 0))) : (W.setCell ⟨x, 1, none⟩ (.int .i64 m')).heap[x]? = some (.cells #[v, .int .i64 m'] 69 (0, 0)) := by
  simp [World.setCell, Array.getElem?_modify, h]
theorem setBytes_eq {W : World} {x : Nat} {v v' : Value} {m : Int} (h : W.heap[x]? = some (.cells #[v, .int .i64 m] 69 (0, 0))) : (W.setCell ⟨x, 0, none⟩ v').heap[x]? = some (.cells #[v', .int .i64 m] 69 (0, 0)) := by
  simp [World.setCell, Array.getElem?_modify, h]
theorem power_has {d : Disk} {x : Nat} : d.power.2.has x ↔ d.has x := by unfold Disk.power; split; exact Iff.rfl; split <;> exact Iff.rfl
theorem power_eq (d : Disk) : d.power.2.bytes = d.bytes ∧ d.power.2.firm = d.firm ∧ d.power.2.loose = d.loose ∧ d.power.2.sure = d.sure ∧ d.power.2.now = d.now := by unfold Disk.power; split; exact ⟨rfl, rfl, rfl, rfl, rfl⟩; split <;> exact ⟨rfl, rfl, rfl, rfl, rfl⟩
theorem setAt_id {α : Type} (g : Nat → α) (x : Nat) : setAt g x (g x) = g := by funext y; unfold setAt; split; rename_i e; rw [e]; rfl
set_option maxHeartbeats 1000000 in
set_option maxRecDepth 100000 in
theorem sync {w0 W : World} {f : Nat} {d : Disk} {N : Nat} {T : Nat → Prop} (h : FsAt w0 f d N T W) (hN : N ≤ 1000000) (n : Nm) (hn : n.length ≤ 140737488351232) :
    Calls Try.prog 17 #[.pointer (some ⟨f, 0, none⟩), .string (S n)] W fun e W' => e = .returned (.int .i64 (d.sync n).1) ∧ ∃ T', FsAt w0 f (d.sync n).2 (N + 1) T' W' ∧ Turn T W T' W' := by
  have hW2 : Below W.heap.size W (W.alloc (.cells #[.string (S n)] 9)) := below_alloc (Below.refl _ _) _
  have X := found (h.step hW2) (some ⟨W.heap.size, 0, none⟩) 1 n [] (names1 (W := W) n hn #[.string (S n)] 9 (0, 0) rfl) (by simp) (m := 1) rfl
  obtain ⟨bn, bs, vl, fs, vb, c0⟩ := h
  obtain ⟨p, hp⟩ : ∃ p, d.found [n] n = p := ⟨_, rfl⟩
  rw [hp] at X
  obtain ⟨v, r⟩ := p
  have HF := Aside0.mk hp
  have HC0 := Aside0.mk c0
  have HW2 := Aside0.mk hW2
  clear hp hW2 c0
  by_cases h0 : r = 0
  · subst h0
    obtain ⟨hr, x, hx, hv⟩ := found_ready (d := d) (ns := [n]) (n := n) (by rw [HF.out])
    rw [HF.out] at hv
    obtain rfl : v = .pointer (some ⟨x, 0, none⟩) := (Prod.mk.inj hv).1
    have HX := Aside0.mk hx
    have HR := Aside0.mk hr
    have e0 : d.sync n = if d.power.1 = 0 then (0, { d.power.2 with firm := setAt d.firm x (d.bytes x).length }) else d.power := by rw [Disk.sync, hr, if_neg (by omega), hx]
    have hPE := power_eq d
    have hPH := power_has (d := d) (x := x)
    have X4 := fun X (hX : Below W.heap.size W X) => power (HC0.out.step' hX)
    obtain ⟨pr, hpr⟩ : ∃ pr, d.power.1 = pr := ⟨_, rfl⟩
    obtain ⟨p2, hp2⟩ : ∃ p2, d.power.2 = p2 := ⟨_, rfl⟩
    have epw : d.power = (pr, p2) := by rw [← hpr, ← hp2]
    rw [hpr, hp2] at X4 e0
    rw [hp2] at hPE hPH
    have HPE := Aside0.mk hPE
    have HPH := Aside0.mk hPH
    have HX4 := Aside0.mk X4
    have HE0 := Aside0.mk e0
    have HEP := Aside0.mk epw
    clear hr hx hv e0 hPE hPH X4 hpr hp2 epw
    by_cases hp0 : pr = 0
    · subst hp0
      go_enter Try.func17, Try.ntmps17
      go_wp2_with (first
        | (go_at_call 36; refine X.mono ?_; rintro e W1 ⟨rfl, hB⟩; clear X; have HB := Aside0.mk (HW2.out.trans (hB.mono HW2.out.size)); clear hB)
        | (go_at_call 37; refine (HX4.out W1 HB.out).mono ?_; rintro e W2 ⟨rfl, hC, hb⟩; have HC := Aside0.mk hC; have HBT := Aside0.mk hb; obtain ⟨hc0, hc1, hf0, A1, k1, hv1⟩ := hC.fileCells (HPH.out.2 (has_get HX.out)); have hf1 := hf0 1; have HV1 := Aside0.mk hv1; rw [hv1] at hc0; clear hC hb hf0 hv1))
      go_ret
      have hx := HPH.out.2 (has_get HX.out)
      obtain ⟨k1', k2'⟩ := HC.out.setFile (N' := N + 1) (W4 := W2.setCell ⟨x, 1, none⟩ (.int .i64 ((p2.bytes x).length : Int))) hx (v1 := vb x) (b' := p2.bytes x) (m' := (p2.bytes x).length)
        (fun k _ k1 _ => Below.heap_setCell W2 ⟨x, 1, none⟩ _ k k1) (by simp [World.setCell]) (HC.out.below.setCell (HC.out.mine x (HC.out.inX x hx).1).1 _) (setFirm_eq (HC.out.file x hx).1)
        (own_move (HC.out.file x hx).2.1 (fun k hk => Below.heap_setCell W2 _ _ k (fun e => (HC.out.keepX hx).2.2.2.2.2.1 (by rw [hk, e])))) (Nat.le_refl _) (.inl rfl) (Nat.le_succ N) (Nat.le_succ_of_le (HC.out.small.2 x hx))
      have e : d.sync n = (0, { p2 with firm := setAt d.firm x (d.bytes x).length }) := by simpa using HE0.out
      rw [e, ← HPE.out.1, ← HPE.out.2.1]
      rw [setAt_id] at k1'
      exact ⟨rfl, _, ⟨_, _, _, _, _, k1'⟩, ((Turn.of_below HB.out).trans (HBT.out.turn HC.out.inF)).trans k2'⟩
    · have hp0' : (pr == 0) = false := by simpa using hp0
      go_enter Try.func17, Try.ntmps17
      go_wp2_with (first
        | (go_at_call 36; refine X.mono ?_; rintro e W1 ⟨rfl, hB⟩; clear X; have HB := Aside0.mk (HW2.out.trans (hB.mono HW2.out.size)); clear hB)
        | (go_at_call 37; refine (HX4.out W1 HB.out).mono ?_; rintro e W2 ⟨rfl, hC, hb⟩; have HC := Aside0.mk hC; have HBT := Aside0.mk hb; clear hC hb))
      go_ret
      have e : d.sync n = (pr, p2) := by rw [HE0.out, if_neg hp0, HEP.out]
      rw [e]
      exact ⟨rfl, T, ⟨_, _, _, _, _, HC.out.le (Nat.le_succ N)⟩, (Turn.of_below HB.out).trans (HBT.out.turn HC.out.inF)⟩
  · have h0' : (r == 0) = false := by simpa using h0
    have h0'' : (r != 0) = true := by simpa using h0
    go_enter Try.func17, Try.ntmps17
    go_wp2_with (go_at_call 36; refine X.mono ?_; rintro e W1 ⟨rfl, hB⟩; clear X)
    go_ret
    have e : d.sync n = (r, d) := by
      have h1 := HF.out
      unfold Disk.found at h1
      unfold Disk.sync
      by_cases h2 : d.ready [n] = 0
      · rw [if_neg (by omega)] at h1 ⊢
        cases hg : get d.now n with
        | none => rw [hg] at h1; cases h1; rfl
        | some x => rw [hg] at h1; cases h1; exact absurd rfl h0
      · rw [if_pos h2] at h1 ⊢
        cases h1
        rfl
    have hB' := HW2.out.trans (hB.mono HW2.out.size)
    rw [e]
    exact ⟨rfl, T, ⟨_, _, _, _, _, (HC0.out.step' hB').le (Nat.le_succ N)⟩, Turn.of_below hB'⟩
end Go.Proofs.Ytibmgcihpbofdaa.Fs
