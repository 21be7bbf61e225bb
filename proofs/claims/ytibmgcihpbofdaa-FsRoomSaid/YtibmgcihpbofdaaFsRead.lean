/- fs: Read, DirSync, New. -/
import Derived.Test.YtibmgcihpbofdaaFsSmall
import Derived.Shelf.SlMaps.Clone
namespace Go.Proofs.Ytibmgcihpbofdaa.Fs
open Go.RowKit Go.Proofs.Ytibmgcihpbofdaa Go.Proofs.Ytibmgcihpbofdaa.Plain Go.Proofs.YtibmgcihpbofdaaW.PrintWords Go.Maps
set_option linter.unusedVariables false
set_option linter.unusedSimpArgs false
set_option maxHeartbeats 1000000 in
set_option maxRecDepth 100000 in
theorem readNil (u : Nm) (W : World) : Calls Try.prog 16 #[.pointer none, .string (S u)] W fun e W' => e = .returned (.tuple #[.slice none 0 0, .int .i64 1]) ∧ Below W.heap.size W W' := by
  have X := foundNil (some ⟨W.heap.size, 0, none⟩) 1 1 (W.alloc (.cells #[.string (S u)] 9))
  go_enter Try.func16, Try.ntmps16
  go_wp2_with (go_at_call 36; refine X.mono ?_; rintro e W1 ⟨rfl, rfl⟩)
  go_ret2
  exact ⟨rfl, below_alloc (Below.refl _ _) _⟩
set_option maxHeartbeats 1000000 in
set_option maxRecDepth 100000 in
theorem read {w0 W : World} {f : Nat} {d : Disk} {N : Nat} {T : Nat → Prop} (h : FsAt w0 f d N T W) (hN : N ≤ 1000000) (n : Nm) (hn : n.length ≤ 140737488351232) :
    Calls Try.prog 16 #[.pointer (some ⟨f, 0, none⟩), .string (S n)] W fun e W' => ∃ v, e = .returned (.tuple #[v, .int .i64 (d.read n).2]) ∧ W'.ownsRow W.heap.size 5 1 v (B (d.read n).1).length (nums .u8 (B (d.read n).1)) ∧ Below W.heap.size W W' := by
  have hW2 : Below W.heap.size W (W.alloc (.cells #[.string (S n)] 9)) := below_alloc (Below.refl _ _) _
  have X := found (h.step hW2) (some ⟨W.heap.size, 0, none⟩) 1 n [] (names1 (W := W) n hn #[.string (S n)] 9 (0, 0) rfl) (by simp) (m := 1) rfl
  obtain ⟨bn, bs, vl, fs, vb, c0⟩ := h
  obtain ⟨p, hp⟩ : ∃ p, d.found [n] n = p := ⟨_, rfl⟩
  rw [hp] at X
  obtain ⟨v, r⟩ := p
  have HF := Aside0.mk hp
  have HC0 := Aside0.mk c0
  have HW2 := Aside0.mk hW2
  clear hp hW2 c0
  by_cases h0 : r = 0
  · subst h0
    obtain ⟨hr, x, hx, hv⟩ := found_ready (d := d) (ns := [n]) (n := n) (by rw [HF.out])
    rw [HF.out] at hv
    obtain rfl : v = .pointer (some ⟨x, 0, none⟩) := (Prod.mk.inj hv).1
    have e : d.read n = (d.bytes x, 0) := by rw [Disk.read, hr, if_neg (by omega), hx]
    obtain ⟨_, _, _, A1, k1, hv1⟩ := HC0.out.fileCells (has_get hx)
    have hc0 : ∀ Y, Below W.heap.size W Y → Y.cell? ⟨x, 0, none⟩ = some (.slice A1 (d.bytes x).length k1) := fun Y hY => by
      have := ((HC0.out.step' hY).fileCells (has_get hx)).1
      rw [hv1] at this
      exact this
    have hrd : ∀ Y, Below W.heap.size W Y → ReadsInt Y .u8 A1 (B (d.bytes x)).length (B (d.bytes x)) := fun Y hY => by
      have h1 := ((HC0.out.step' hY).file x (has_get hx)).2.1
      rw [hv1] at h1
      exact own_reads' (by rw [B_length] at h1 ⊢; exact h1)
    have hsm : (d.bytes x).length ≤ 10000000 := by have := HC0.out.small.2 x (has_get hx); omega
    have HCE := Aside0.mk hc0
    have HRD := Aside0.mk hrd
    rw [e]
    clear hr hx hv e hc0 hrd hv1
    go_enter Try.func16, Try.ntmps16
    go_wp2_with (first
      | (go_at_call 36; refine X.mono ?_; rintro e W1 ⟨rfl, hB⟩; clear X; have HB := Aside0.mk (HW2.out.trans (hB.mono HW2.out.size)); have hcc := HCE.out W1 HB.out; clear hB)
      | (go_at_call 38; refine (cloneAny A1 _ k1 (d.bytes x) W1 (HRD.out W1 HB.out) hsm rfl).mono ?_; rintro e W2 ⟨v2, rfl, hown, hB2⟩; have HO := Aside0.mk hown; have HB2 := Aside0.mk (HB.out.trans (hB2.mono HB.out.size)); clear hown hB2))
    go_ret2
    exact ⟨_, rfl, own_weaken HO.out HB.out.size, HB2.out⟩
  · have h0' : (r == 0) = false := by simpa using h0
    have h0'' : (r != 0) = true := by simpa using h0
    have e : d.read n = ([], r) := by
      have h1 := HF.out
      unfold Disk.found at h1
      unfold Disk.read
      by_cases h2 : d.ready [n] = 0
      · rw [if_neg (by omega)] at h1 ⊢
        cases hg : get d.now n with
        | none => rw [hg] at h1; cases h1; rfl
        | some x => rw [hg] at h1; cases h1; exact absurd rfl h0
      · rw [if_pos h2] at h1 ⊢
        cases h1
        rfl
    rw [e]
    clear e
    go_enter Try.func16, Try.ntmps16
    go_wp2_with (go_at_call 36; refine X.mono ?_; rintro e W1 ⟨rfl, hB⟩; clear X)
    go_ret2
    exact ⟨_, rfl, own_nil _ _ _ _, HW2.out.trans (hB.mono HW2.out.size)⟩
end Go.Proofs.Ytibmgcihpbofdaa.Fs
