/- What package-level variables hold: nothing is asked of them here. -/
import Derived.Test.YtibmgcihpbofdaaRows
import Derived.Test.YtibmgcihpbofdaaWWords
import Derived.Below
namespace Go.Proofs.Ytibmgcihpbofdaa
open Go.RowKit
set_option linter.unusedVariables false
structure Glob (w : World) : Prop where
  mk :: (out : True)
theorem Glob.of (w : World) : Glob w := ⟨trivial⟩
theorem Glob.step {w w' : World} (h : Glob w) (hs : w.heap.size ≤ w'.heap.size) (hk : ∀ k, k < w.heap.size → w'.heap[k]? = w.heap[k]?) : Glob w' := ⟨trivial⟩
theorem Glob.below {w w' : World} (h : Glob w) (hb : Below w.heap.size w w') : Glob w' := ⟨trivial⟩
theorem Glob.drewN {w : World} {n : Nat} (h : Glob w) : Glob (w.drewN n) := ⟨trivial⟩
theorem Glob.drew {w : World} (h : Glob w) : Glob w.drew := ⟨trivial⟩
theorem Glob.alloc {w : World} (h : Glob w) (o : Obj) : Glob (w.alloc o) := ⟨trivial⟩
end Go.Proofs.Ytibmgcihpbofdaa
