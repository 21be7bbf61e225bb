/- fs.right, and the asking of all names: what they answer. -/
import Derived.Test.YthdjeikfbbdehaaDoorProg
import Derived.Below
import Derived.Deep.Draws
import Derived.Deep.AppendLies
import Derived.Maps.AppendAt
import Derived.OwnWalk
import Derived.Laws.BytesArg
import Derived.Laws.MakeOwn
import Derived.Laws.OwnMore
import Derived.Deep.OwnRows
import Derived.Tactics
import Derived.Lib.ConvBytes
import Derived.Laws.Slices
import Derived.WalkKit
import Derived.KernelRfl
import Derived.RowKit3
import Derived.Deep.LoopGhost
import Derived.Deep.QuietTactic
import Derived.BigQuiet
import Derived.WideLaws
import Derived.Deep.DeepCutAuto
import Derived.Deep.CutBlock
import Derived.Deep.RegionHeld3
import Derived.Laws.Rows
import Derived.Lib.AppendStr
import Derived.ArgAppend
import Derived.Laws.IdiomCopy
import Derived.OrdersHeld
import Derived.Laws.BitsLemmas
import Derived.RowKit
import Derived.Test.YthdjeikfbbdehaaDoorWWords
import Derived.Test.YthdjeikfbbdehaaDoorWLast
import Derived.Test.YthdjeikfbbdehaaDoorWTab
import Derived.Test.YthdjeikfbbdehaaDoorWFour
import Derived.Test.YthdjeikfbbdehaaDoorWQPut
import Derived.Test.YthdjeikfbbdehaaDoorWApart
import Derived.Test.YthdjeikfbbdehaaDoorWArr
import Derived.Test.YthdjeikfbbdehaaDoorWZeros
import Derived.Test.YthdjeikfbbdehaaDoorWFoot
import Derived.Test.YthdjeikfbbdehaaDoorWKept
import Derived.Test.YthdjeikfbbdehaaDoorWShare
import Derived.Test.YthdjeikfbbdehaaDoorWN
import Derived.Test.YthdjeikfbbdehaaDoorWFootNe
import Derived.Test.YthdjeikfbbdehaaDoorWAt
import Derived.Test.YthdjeikfbbdehaaDoorWEqStruct
import Derived.Test.YthdjeikfbbdehaaDoorWRepsOne
import Derived.Test.YthdjeikfbbdehaaDoorWInv
import Derived.Test.YthdjeikfbbdehaaDoorWInvWords
import Derived.Test.YthdjeikfbbdehaaDoorWGuard
import Derived.Test.YthdjeikfbbdehaaDoorWNEv
import Derived.Test.YthdjeikfbbdehaaDoorWMore
import Derived.Test.YthdjeikfbbdehaaDoorFsPure
import Derived.Deep.DeepMust
namespace Go.Proofs.YthdjeikfbbdehaaDoor.Fs
open Go.RowKit Go.Proofs.YthdjeikfbbdehaaDoor Go.Proofs.YthdjeikfbbdehaaDoor.Plain Go.Proofs.YthdjeikfbbdehaaDoorW.PrintWords Go.Proofs.YthdjeikfbbdehaaDoorW.PrintLast Go.Proofs.YthdjeikfbbdehaaDoorW.PrintMore
set_option linter.unusedVariables false
set_option linter.unusedSimpArgs false
/-- a slice of names -/
def NamesAt (W : World) (A : Option Addr) (ns : List Nm) : Prop := ∀ j (hj : j < ns.length), ∃ ad, A = some ad ∧ W.cell? (ad.add j) = some (.string (S ns[j])) ∧ ns[j].length ≤ 140737488351232
theorem NamesAt.below {W X : World} {A : Option Addr} {ns : List Nm} (h : NamesAt W A ns) (hb : Below W.heap.size W X) : NamesAt X A ns := fun j hj => by
  obtain ⟨ad, e, hc, hl⟩ := h j hj
  exact ⟨ad, e, (World.cell?_of_block (hb.block _ (World.block_lt_of_cell? _ _ hc))).trans hc, hl⟩
end Go.Proofs.YthdjeikfbbdehaaDoor.Fs
