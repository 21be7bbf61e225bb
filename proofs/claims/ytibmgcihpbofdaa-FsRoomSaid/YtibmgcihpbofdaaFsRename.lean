/- fs: Unlink, Rename: what they do. -/
import Derived.Test.YtibmgcihpbofdaaFsCreate
namespace Go.Proofs.Ytibmgcihpbofdaa.Fs
open Go.RowKit Go.Proofs.Ytibmgcihpbofdaa Go.Proofs.Ytibmgcihpbofdaa.Plain Go.Proofs.YtibmgcihpbofdaaW.PrintWords Go.Maps
set_option linter.unusedVariables false
set_option linter.unusedSimpArgs false
theorem found_ready {d : Disk} {ns : List Nm} {n : Nm} (h : (d.found ns n).2 = 0) : d.ready ns = 0 ∧ ∃ x, get d.now n = some x ∧ d.found ns n = (.pointer (some ⟨x, 0, none⟩), 0) := by
  unfold Disk.found at h ⊢
  by_cases h0 : d.ready ns = 0
  · refine ⟨h0, ?_⟩
    rw [if_neg (by omega)] at h ⊢
    cases hg : get d.now n with
    | none => rw [hg] at h; simp at h
    | some x => exact ⟨x, rfl, by rfl⟩
  · rw [if_pos h0] at h
    exact absurd h h0
set_option maxHeartbeats 1000000 in
set_option maxRecDepth 100000 in
theorem unlink {w0 W : World} {f : Nat} {d : Disk} {N : Nat} {T : Nat → Prop} (h : FsAt w0 f d N T W) (hN : N ≤ 1000000) (n : Nm) (hn : n.length ≤ 140737488351232) :
    Calls Try.prog 19 #[.pointer (some ⟨f, 0, none⟩), .string (S n)] W fun e W' => e = .returned (.int .i64 (d.unlink n).1) ∧ ∃ T', FsAt w0 f (d.unlink n).2 (N + 1) T' W' ∧ Turn T W T' W' := by
  have hW1 : Below W.heap.size W (W.alloc (.cells #[.string (S n)] 9)) := below_alloc (Below.refl _ _) _
  have hW2 := below_alloc hW1 (.cells #[.string (S n)] 9)
  have X := found (h.step hW2) (some ⟨W.heap.size + 1, 0, none⟩) 1 n [] (by have := names1 (W := W.alloc (.cells #[.string (S n)] 9)) n hn #[.string (S n)] 9 (0, 0) rfl; simpa using this) (by simp) (m := 1) rfl
  obtain ⟨bn, bs, vl, fs, vb, c0⟩ := h
  obtain ⟨p, hp⟩ : ∃ p, d.found [n] n = p := ⟨_, rfl⟩
  rw [hp] at X
  obtain ⟨v, r⟩ := p
  have HF := Aside0.mk hp
  have HC0 := Aside0.mk c0
  have HW2 := Aside0.mk hW2
  clear hp hW1 hW2 c0
  by_cases h0 : r = 0
  · subst h0
    go_enter Try.func19, Try.ntmps19
    go_wp2_with (go_at_call 36; refine X.mono ?_; rintro e W1 ⟨rfl, hB⟩; clear X; have HB := Aside0.mk (HW2.out.trans (hB.mono HW2.out.size)); have hbb : W1.heap[W.heap.size]? = some (.cells #[.string (S n)] 9 (0, 0)) := (hB.block W.heap.size (by simp; omega)).trans ((Below.heap_alloc _ _ _ (by simp)).trans (heap_alloc_new W _)); have HBB := Aside0.mk hbb; clear hB hbb)
    obtain ⟨hr, x, hx, _⟩ := found_ready (d := d) (ns := [n]) (n := n) (by rw [HF.out])
    have hlen : n.length ≤ 80 := ready_len hr (by simp)
    have HX := Aside0.mk hx
    have HR := Aside0.mk hr
    have X3 := change (HC0.out.wide HB.out) hN (c := .unlink n) (v := .func (.func 40) #[] #[.pointer (some ⟨W.heap.size, 0, none⟩)]) ⟨_, rfl, HBB.out, .inr ⟨by omega, (Array.getElem?_eq_some_iff.1 HBB.out).1⟩, hlen⟩ trivial (by intro n' x' e; cases e)
    have HX3 := Aside0.mk X3
    clear X3 hlen hx hr
    go_wp2_with (go_at_call 34; refine HX3.out.mono ?_; rintro e W6 ⟨rfl, hP⟩; have HP := Aside0.mk hP; clear hP)
    go_ret
    have e : d.unlink n = d.change (.unlink n) := by rw [Disk.unlink, HR.out, if_neg (by omega), HX.out]
    rw [e]
    obtain ⟨T', h1, h2⟩ := HP.out
    exact ⟨rfl, T', h1, (Turn.wide HB.out).trans h2⟩
  · have h0' : (r == 0) = false := by simpa using h0
    have h0'' : (r != 0) = true := by simpa using h0
    go_enter Try.func19, Try.ntmps19
    go_wp2_with (go_at_call 36; refine X.mono ?_; rintro e W1 ⟨rfl, hB⟩; clear X)
    go_ret
    have e : d.unlink n = (r, d) := by
      have h1 := HF.out
      unfold Disk.found at h1
      unfold Disk.unlink
      by_cases h2 : d.ready [n] = 0
      · rw [if_neg (by omega)] at h1 ⊢
        cases hg : get d.now n with
        | none => rw [hg] at h1; cases h1; rfl
        | some x => rw [hg] at h1; cases h1; exact absurd rfl h0
      · rw [if_pos h2] at h1 ⊢
        cases h1
        rfl
    have hB' := HW2.out.trans (hB.mono HW2.out.size)
    rw [e]
    exact ⟨rfl, T, ⟨_, _, _, _, _, (HC0.out.step' hB').le (Nat.le_succ N)⟩, Turn.of_below hB'⟩
theorem names2 {W : World} (n m : Nm) (hn : n.length ≤ 140737488351232) (hm : m.length ≤ 140737488351232) : NamesAt (W.alloc (.cells #[.string (S n), .string (S m)] 9)) (some ⟨W.heap.size, 0, none⟩) [n, m] := by
  intro j hj
  have e : (W.alloc (.cells #[.string (S n), .string (S m)] 9)).heap[W.heap.size]? = some (.cells #[.string (S n), .string (S m)] 9 (0, 0)) := heap_alloc_new W _
  match j, hj with
  | 0, _ =>
    refine ⟨_, rfl, ?_, hn⟩
    show World.cell? _ (Addr.add ⟨W.heap.size, 0, none⟩ 0) = _
    rw [show Addr.add ⟨W.heap.size, 0, none⟩ 0 = ⟨W.heap.size, 0, none⟩ from rfl]
    simp only [World.cell?, e]
    rfl
  | 1, _ =>
    refine ⟨_, rfl, ?_, hm⟩
    show World.cell? _ (Addr.add ⟨W.heap.size, 0, none⟩ 1) = _
    rw [show Addr.add ⟨W.heap.size, 0, none⟩ 1 = ⟨W.heap.size, 1, none⟩ from rfl]
    simp only [World.cell?, e]
    rfl
theorem renameBoxes {W W1 : World} {n m : Nm} (hB : Below (((W.alloc (.cells #[.string (S n)] 9)).alloc (.cells #[.string (S m)] 9)).alloc (.cells #[.string (S n), .string (S m)] 9)).heap.size (((W.alloc (.cells #[.string (S n)] 9)).alloc (.cells #[.string (S m)] 9)).alloc (.cells #[.string (S n), .string (S m)] 9)) W1) :
    W1.heap[W.heap.size]? = some (.cells #[.string (S n)] 9 (0, 0)) ∧ W1.heap[W.heap.size + 1]? = some (.cells #[.string (S m)] 9 (0, 0)) := by
  constructor
  · rw [hB.block W.heap.size (by simp <;> omega), Below.heap_alloc _ _ _ (by simp <;> omega), Below.heap_alloc _ _ _ (by simp <;> omega)]
    exact heap_alloc_new W _
  · rw [hB.block (W.heap.size + 1) (by simp <;> omega), Below.heap_alloc _ _ _ (by simp <;> omega)]
    have := heap_alloc_new (W.alloc (.cells #[.string (S n)] 9)) (.cells #[.string (S m)] 9)
    simpa using this
set_option maxHeartbeats 1000000 in
set_option maxRecDepth 100000 in
theorem rename {w0 W : World} {f : Nat} {d : Disk} {N : Nat} {T : Nat → Prop} (h : FsAt w0 f d N T W) (hN : N ≤ 1000000) (n m : Nm) (hn : n.length ≤ 140737488351232) (hm : m.length ≤ 140737488351232) :
    Calls Try.prog 22 #[.pointer (some ⟨f, 0, none⟩), .string (S n), .string (S m)] W fun e W' => e = .returned (.int .i64 (d.rename n m).1) ∧ ∃ T', FsAt w0 f (d.rename n m).2 (N + 1) T' W' ∧ Turn T W T' W' := by
  have hW1 : Below W.heap.size W (W.alloc (.cells #[.string (S n)] 9)) := below_alloc (Below.refl _ _) _
  have hW2 := below_alloc hW1 (.cells #[.string (S m)] 9)
  have hW3 := below_alloc hW2 (.cells #[.string (S n), .string (S m)] 9)
  have X := found (h.step hW3) (some ⟨W.heap.size + 1 + 1, 0, none⟩) 2 n [m] (by have := names2 (W := (W.alloc (.cells #[.string (S n)] 9)).alloc (.cells #[.string (S m)] 9)) n m hn hm; simpa using this) (by simp) (m := 2) rfl
  obtain ⟨bn, bs, vl, fs, vb, c0⟩ := h
  obtain ⟨p, hp⟩ : ∃ p, d.found [n, m] n = p := ⟨_, rfl⟩
  rw [hp] at X
  obtain ⟨v, r⟩ := p
  have HF := Aside0.mk hp
  have HC0 := Aside0.mk c0
  have HW2 := Aside0.mk hW3
  clear hp hW1 hW2 hW3 c0
  by_cases h0 : r = 0
  · subst h0
    obtain ⟨hr, x, hx, _⟩ := found_ready (d := d) (ns := [n, m]) (n := n) (by rw [HF.out])
    have hlen : n.length ≤ 80 := ready_len hr (by simp)
    have hlen2 : m.length ≤ 80 := ready_len hr (by simp)
    have HX := Aside0.mk hx
    have HR := Aside0.mk hr
    have HLN := Aside0.mk (And.intro hlen hlen2)
    clear hx hr hlen hlen2
    by_cases hnm : n = m
    · subst hnm
      go_enter Try.func22, Try.ntmps22
      go_wp2_with (go_at_call 36; refine X.mono ?_; rintro e W1 ⟨rfl, hB⟩; clear X; have HB := Aside0.mk (HW2.out.trans (hB.mono HW2.out.size)); obtain ⟨hba, hbb⟩ := renameBoxes hB; have HBA := Aside0.mk hba; have HBB := Aside0.mk hbb; have hca := (box_cell hba).1; have hcb := (box_cell hbb).1; clear hB hba hbb)
      have X4 := power (HC0.out.step' HB.out)
      go_wp2_with (go_at_call 37; refine X4.mono ?_; rintro e W6 ⟨rfl, hC, hb⟩; clear X4)
      go_ret
      have e : d.rename n n = d.power := by rw [Disk.rename, HR.out, if_neg (by omega), HX.out]; exact if_pos rfl
      rw [e]
      exact ⟨rfl, T, ⟨_, _, _, _, _, hC.le (Nat.le_succ N)⟩, (Turn.of_below HB.out).trans (hb.turn hC.inF)⟩
    · have hss : (n == m) = false := by simpa using hnm
      go_enter Try.func22, Try.ntmps22
      go_wp2_with (go_at_call 36; refine X.mono ?_; rintro e W1 ⟨rfl, hB⟩; clear X; have HB := Aside0.mk (HW2.out.trans (hB.mono HW2.out.size)); obtain ⟨hba, hbb⟩ := renameBoxes hB; have HBA := Aside0.mk hba; have HBB := Aside0.mk hbb; have hca := (box_cell hba).1; have hcb := (box_cell hbb).1; clear hB hba hbb)
      have X3 := change (HC0.out.wide HB.out) hN (c := .rename n m) (v := .func (.func 41) #[] #[.pointer (some ⟨W.heap.size, 0, none⟩), .pointer (some ⟨W.heap.size + 1, 0, none⟩)]) ⟨_, _, rfl, HBA.out, HBB.out, .inr ⟨by omega, (Array.getElem?_eq_some_iff.1 HBA.out).1⟩, .inr ⟨by omega, (Array.getElem?_eq_some_iff.1 HBB.out).1⟩, HLN.out.1, HLN.out.2⟩ (by simp only [Chg.ok, HX.out]; rfl) (by intro n' x' e; cases e)
      have HX3 := Aside0.mk X3
      clear X3
      go_wp2_with (go_at_call 34; refine HX3.out.mono ?_; rintro e W6 ⟨rfl, hP⟩; have HP := Aside0.mk hP; clear hP)
      go_ret
      have e : d.rename n m = d.change (.rename n m) := by rw [Disk.rename, HR.out, if_neg (by omega), HX.out]; exact if_neg hnm
      rw [e]
      obtain ⟨T', h1, h2⟩ := HP.out
      exact ⟨rfl, T', h1, (Turn.wide HB.out).trans h2⟩
  · have h0' : (r == 0) = false := by simpa using h0
    have h0'' : (r != 0) = true := by simpa using h0
    go_enter Try.func22, Try.ntmps22
    go_wp2_with (go_at_call 36; refine X.mono ?_; rintro e W1 ⟨rfl, hB⟩; clear X)
    go_ret
    have e : d.rename n m = (r, d) := by
      have h1 := HF.out
      unfold Disk.found at h1
      unfold Disk.rename
      by_cases h2 : d.ready [n, m] = 0
      · rw [if_neg (by omega)] at h1 ⊢
        cases hg : get d.now n with
        | none => rw [hg] at h1; cases h1; rfl
        | some x => rw [hg] at h1; cases h1; exact absurd rfl h0
      · rw [if_pos h2] at h1 ⊢
        cases h1
        rfl
    have hB' := HW2.out.trans (hB.mono HW2.out.size)
    rw [e]
    exact ⟨rfl, T, ⟨_, _, _, _, _, (HC0.out.step' hB').le (Nat.le_succ N)⟩, Turn.of_below hB'⟩
end Go.Proofs.Ytibmgcihpbofdaa.Fs
