/- words used by the laws of law04. -/
import Derived.Test.YtibmgcihpbofdaaFsCrash
namespace Go.Proofs.Ytibmgcihpbofdaa.Fs
open Go.RowKit Go.Proofs.Ytibmgcihpbofdaa Go.Proofs.Ytibmgcihpbofdaa.Plain Go.Proofs.YtibmgcihpbofdaaW.PrintWords Go.Maps
set_option linter.unusedVariables false
set_option linter.unusedSimpArgs false
theorem chain' {W W1 W2 : World} (h : Below W.heap.size W W1) (h' : Below W1.heap.size W1 W2) : Below W.heap.size W W2 := h.trans (h'.mono h.size)
theorem convAny {w : World} {AA : Option Addr} {a : List UInt8} {n c : Nat} (h : ReadsInt w .u8 AA (B a).length (B a)) (hn : n = a.length) : (convert 22 9 (.slice AA n c)).run Try.prog w = .ok (.string (S a)) w := by
  subst hn
  have hC : Kd.C (Kd.int .u8) w AA (B a).length (B a) := Kd.C_of_reads (d := (0 : Int)) (h1 := fun _ => rfl) h
  have := Kd.C_string (P := Try.prog) (c := c) Try.underlying22 Try.underlying5 Try.underlying9 hC
  rw [B_length, strOfNums_B] at this
  exact this
theorem wfSmall {k : Int} (h : 0 ≤ k) (h' : k ≤ 255) : (Lit.int .i64 k).wf = true := by
  have e1 : IntKind.i64.min = -9223372036854775808 := rfl
  have e2 : IntKind.i64.max = 9223372036854775807 := rfl
  simp only [Lit.wf, e1, e2, Bool.and_eq_true, decide_eq_true_eq]
  omega
theorem FsAt.le' {w0 W : World} {f : Nat} {d : Disk} {N N' : Nat} {T : Nat → Prop} (h : FsAt w0 f d N T W) (hN : N ≤ N') : FsAt w0 f d N' T W := by
  obtain ⟨bn, bs, vl, fs, vb, c⟩ := h
  exact ⟨bn, bs, vl, fs, vb, c.le hN⟩
def FsAny (w0 : World) (f : Nat) (d : Disk) (N : Nat) (W : World) : Prop := ∃ T, FsAt w0 f d N T W
theorem fsAny_step {w0 W : World} {f i : Nat} {d : Disk} {T : Nat → Prop} (h : FsAt w0 f d (1 + 2 * i + [(1 : UInt8)].length + 1) T W) : FsAny w0 f d (1 + 2 * (i + 1)) W := by
  have e : 1 + 2 * (i + 1) = 1 + 2 * i + [(1 : UInt8)].length + 1 := by simp; omega
  rw [e]
  exact ⟨T, h⟩
theorem fsAny_le {w0 W : World} {f N N' : Nat} {d : Disk} (h : FsAny w0 f d N W) (hN : N ≤ N') : FsAny w0 f d N' W := by
  obtain ⟨T, h⟩ := h
  exact ⟨T, h.le' hN⟩
end Go.Proofs.Ytibmgcihpbofdaa.Fs
