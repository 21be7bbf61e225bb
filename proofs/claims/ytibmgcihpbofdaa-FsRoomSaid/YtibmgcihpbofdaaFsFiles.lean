/- fs: the files of a directory in memory, one of them changed (for Crash). -/
import Derived.Test.YtibmgcihpbofdaaFsBad
namespace Go.Proofs.Ytibmgcihpbofdaa.Fs
open Go.RowKit Go.Proofs.Ytibmgcihpbofdaa Go.Proofs.Ytibmgcihpbofdaa.Plain Go.Proofs.YtibmgcihpbofdaaW.PrintWords Go.Maps
set_option linter.unusedVariables false
set_option linter.unusedSimpArgs false
def InD (s : Dir) (x : Nat) : Prop := ∃ n, (n, x) ∈ s
structure Files (w0 W : World) (s : Dir) (bb : Nat → List UInt8) (ff : Nat → Nat) (N : Nat) (T : Nat → Prop) (vb : Nat → Value) : Prop where
  file : ∀ x, InD s x → W.heap[x]? = some (.cells #[vb x, .int .i64 (ff x : Int)] 69 (0, 0)) ∧ W.ownsRow w0.heap.size 5 1 (vb x) (B (bb x)).length (nums .u8 (B (bb x))) ∧ ff x ≤ (bb x).length
  apart : ∀ x y, InD s x → InD s y → ∀ g, (vb x).ownBlock = some g → (vb y).ownBlock = some g → x = y
  inX : ∀ x, InD s x → T x ∧ ∀ g, (vb x).ownBlock = some g → T g
  mine : ∀ k, T k → w0.heap.size ≤ k ∧ k < W.heap.size
  small : ∀ x, InD s x → (bb x).length ≤ N
  below : Below w0.heap.size w0 W
theorem Files.move {w0 W X : World} {s : Dir} {bb : Nat → List UInt8} {ff : Nat → Nat} {N : Nat} {T : Nat → Prop} {vb : Nat → Value} (h : Files w0 W s bb ff N T vb) (hk : ∀ k, T k → (∃ c t, W.heap[k]? = some (.cells c t (0, 0)) ∧ (t = 69 ∨ t = 5)) → X.heap[k]? = W.heap[k]?) (hs : W.heap.size ≤ X.heap.size) (hb : Below w0.heap.size w0 X) : Files w0 X s bb ff N T vb where
  file := fun x hx => ⟨(hk x (h.inX x hx).1 ⟨_, _, (h.file x hx).1, .inl rfl⟩).trans (h.file x hx).1, own_move (h.file x hx).2.1 (fun k hk' => by
    obtain ⟨c, hc⟩ := own_cells (h.file x hx).2.1 hk'
    exact hk k ((h.inX x hx).2 k hk') ⟨_, _, hc, .inr rfl⟩), (h.file x hx).2.2⟩
  apart := h.apart
  inX := h.inX
  mine := fun k hT => ⟨(h.mine k hT).1, Nat.lt_of_lt_of_le (h.mine k hT).2 hs⟩
  small := h.small
  below := hb
theorem Files.setFile {w0 W W4 : World} {s : Dir} {bb : Nat → List UInt8} {ff : Nat → Nat} {N : Nat} {T : Nat → Prop} {vb : Nat → Value} (h : Files w0 W s bb ff N T vb) {x : Nat} (hx : InD s x) {v1 : Value} {b' : List UInt8} {m' : Nat}
    (hk : ∀ k, k < W.heap.size → k ≠ x → W4.heap[k]? = W.heap[k]?) (hs : W.heap.size ≤ W4.heap.size) (hb : Below w0.heap.size w0 W4)
    (h4 : W4.heap[x]? = some (.cells #[v1, .int .i64 (m' : Int)] 69 (0, 0))) (hrow : W4.ownsRow w0.heap.size 5 1 v1 (B b').length (nums .u8 (B b'))) (hm : m' ≤ b'.length)
    (hat : ∀ g, v1.ownBlock = some g → W.heap.size ≤ g) (hl : b'.length ≤ N) :
    Files w0 W4 s (setAt bb x b') (setAt ff x m') N (Wide T W W4) (setAt vb x v1) := by
  have hne : ∀ y, InD s y → ∀ g, (vb y).ownBlock = some g → g ≠ x := fun y hy g hg => by
    obtain ⟨c, hc⟩ := own_cells (h.file y hy).2.1 hg
    exact ne_of_obj hc (h.file x hx).1 (by simp)
  have hold : ∀ y, InD s y → ∀ g, (vb y).ownBlock = some g → g < W.heap.size := fun y hy g hg => (h.mine g ((h.inX y hy).2 g hg)).2
  refine ⟨?_, ?_, ?_, ?_, ?_, hb⟩
  · intro y hy
    by_cases e : y = x
    · subst e
      simp only [setAt_same]
      exact ⟨h4, hrow, hm⟩
    · simp only [setAt_other _ _ e]
      obtain ⟨q1, q2, q3⟩ := h.file y hy
      exact ⟨(hk y (h.mine y (h.inX y hy).1).2 e).trans q1, own_move q2 (fun k hk' => hk k (hold y hy k hk') (hne y hy k hk')), q3⟩
  · intro y z hy hz g hgy hgz
    by_cases ey : y = x
    · by_cases ez : z = x
      · rw [ey, ez]
      · subst ey
        rw [setAt_same] at hgy
        rw [setAt_other _ _ ez] at hgz
        have := hat g hgy
        have := hold z hz g hgz
        omega
    · by_cases ez : z = x
      · subst ez
        rw [setAt_same] at hgz
        rw [setAt_other _ _ ey] at hgy
        have := hat g hgz
        have := hold y hy g hgy
        omega
      · rw [setAt_other _ _ ey] at hgy
        rw [setAt_other _ _ ez] at hgz
        exact h.apart y z hy hz g hgy hgz
  · intro y hy
    refine ⟨.inl (h.inX y hy).1, fun g hg => ?_⟩
    by_cases ey : y = x
    · subst ey
      rw [setAt_same] at hg
      exact .inr ⟨hat g hg, own_lt hrow g hg⟩
    · rw [setAt_other _ _ ey] at hg
      exact .inl ((h.inX y hy).2 g hg)
  · rintro k (hT | ⟨q1, q2⟩)
    · exact ⟨(h.mine k hT).1, Nat.lt_of_lt_of_le (h.mine k hT).2 hs⟩
    · exact ⟨Nat.le_trans h.below.size q1, q2⟩
  · intro y hy
    by_cases ey : y = x
    · subst ey; rw [setAt_same]; exact hl
    · rw [setAt_other _ _ ey]; exact h.small y hy
theorem Core.files {w0 W : World} {f : Nat} {d : Disk} {N : Nat} {T : Nat → Prop} {bn bs : Nat} {vl : Value} {fs : List Value} {vb : Nat → Value} (h : Core w0 W f d N T bn bs vl fs vb) (s : Dir) (hs : ∀ x, InD s x → d.has x) : Files w0 W s d.bytes d.firm N T vb :=
  ⟨fun x hx => h.file x (hs x hx), fun x y hx hy => h.apart x y (hs x hx) (hs y hy), fun x hx => h.inX x (hs x hx), h.mine, fun x hx => h.small.2 x (hs x hx), h.below⟩
end Go.Proofs.Ytibmgcihpbofdaa.Fs
