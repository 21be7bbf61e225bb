/- fs.right, and the asking of all names: what they answer. -/
import Derived.Test.YtkcdlfkicopmoaaDoorProg
import Derived.Below
import Derived.Deep.Draws
import Derived.Deep.AppendLies
import Derived.Maps.AppendAt
import Derived.OwnWalk
import Derived.Laws.BytesArg
import Derived.Laws.MakeOwn
import Derived.Laws.OwnMore
import Derived.Deep.OwnRows
import Derived.Tactics
import Derived.Lib.ConvBytes
import Derived.Laws.Slices
import Derived.WalkKit
import Derived.KernelRfl
import Derived.RowKit3
import Derived.Deep.LoopGhost
import Derived.Deep.QuietTactic
import Derived.BigQuiet
import Derived.WideLaws
import Derived.Deep.DeepCutAuto
import Derived.Deep.CutBlock
import Derived.Deep.RegionHeld3
import Derived.Laws.Rows
import Derived.Lib.AppendStr
import Derived.ArgAppend
import Derived.Laws.IdiomCopy
import Derived.OrdersHeld
import Derived.Laws.BitsLemmas
import Derived.RowKit
import Derived.Test.YtkcdlfkicopmoaaDoorWWords
import Derived.Test.YtkcdlfkicopmoaaDoorWLast
import Derived.Test.YtkcdlfkicopmoaaDoorWTab
import Derived.Test.YtkcdlfkicopmoaaDoorWFour
import Derived.Test.YtkcdlfkicopmoaaDoorWQPut
import Derived.Test.YtkcdlfkicopmoaaDoorWApart
import Derived.Test.YtkcdlfkicopmoaaDoorWArr
import Derived.Test.YtkcdlfkicopmoaaDoorWZeros
import Derived.Test.YtkcdlfkicopmoaaDoorWFoot
import Derived.Test.YtkcdlfkicopmoaaDoorWKept
import Derived.Test.YtkcdlfkicopmoaaDoorWShare
import Derived.Test.YtkcdlfkicopmoaaDoorWN
import Derived.Test.YtkcdlfkicopmoaaDoorWFootNe
import Derived.Test.YtkcdlfkicopmoaaDoorWAt
import Derived.Test.YtkcdlfkicopmoaaDoorWEqStruct
import Derived.Test.YtkcdlfkicopmoaaDoorWRepsOne
import Derived.Test.YtkcdlfkicopmoaaDoorWInv
import Derived.Test.YtkcdlfkicopmoaaDoorWInvWords
import Derived.Test.YtkcdlfkicopmoaaDoorWGuard
import Derived.Test.YtkcdlfkicopmoaaDoorWNEv
import Derived.Test.YtkcdlfkicopmoaaDoorWMore
import Derived.Test.YtkcdlfkicopmoaaDoorFsPure
import Derived.Deep.DeepMust
namespace Go.Proofs.YtkcdlfkicopmoaaDoor.Fs
open Go.RowKit Go.Proofs.YtkcdlfkicopmoaaDoor Go.Proofs.YtkcdlfkicopmoaaDoor.Plain Go.Proofs.YtkcdlfkicopmoaaDoorW.PrintWords Go.Proofs.YtkcdlfkicopmoaaDoorW.PrintLast Go.Proofs.YtkcdlfkicopmoaaDoorW.PrintMore
set_option linter.unusedVariables false
set_option linter.unusedSimpArgs false
/-- a slice of names -/
def NamesAt (W : World) (A : Option Addr) (ns : List Nm) : Prop := ∀ j (hj : j < ns.length), ∃ ad, A = some ad ∧ W.cell? (ad.add j) = some (.string (S ns[j])) ∧ ns[j].length ≤ 140737488351232
theorem NamesAt.below {W X : World} {A : Option Addr} {ns : List Nm} (h : NamesAt W A ns) (hb : Below W.heap.size W X) : NamesAt X A ns := fun j hj => by
  obtain ⟨ad, e, hc, hl⟩ := h j hj
  exact ⟨ad, e, (World.cell?_of_block (hb.block _ (World.block_lt_of_cell? _ _ hc))).trans hc, hl⟩
end Go.Proofs.YtkcdlfkicopmoaaDoor.Fs
