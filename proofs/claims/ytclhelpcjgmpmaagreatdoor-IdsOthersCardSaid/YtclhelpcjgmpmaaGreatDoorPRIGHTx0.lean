-- printed by a program of this session out of the translation. Not trusted: Lean checks it.
import Derived.Test.YtclhelpcjgmpmaaGreatDoorProg
import Derived.Below
import Derived.Deep.Draws
import Derived.Deep.AppendLies
import Derived.Maps.AppendAt
import Derived.OwnWalk
import Derived.Laws.BytesArg
import Derived.Laws.MakeOwn
import Derived.Laws.OwnMore
import Derived.Deep.OwnRows
import Derived.Tactics
import Derived.Lib.ConvBytes
import Derived.Laws.Slices
import Derived.WalkKit
import Derived.KernelRfl
import Derived.RowKit3
import Derived.Deep.LoopGhost
import Derived.Deep.QuietTactic
import Derived.BigQuiet
import Derived.WideLaws
import Derived.Deep.DeepCutAuto
import Derived.Deep.CutBlock
import Derived.Deep.RegionHeld3
import Derived.Laws.Rows
import Derived.Lib.AppendStr
import Derived.ArgAppend
import Derived.Laws.IdiomCopy
import Derived.OrdersHeld
import Derived.Laws.BitsLemmas
import Derived.RowKit
import Derived.Test.YtclhelpcjgmpmaaGreatDoorGlobNone
import Derived.Test.YtclhelpcjgmpmaaGreatDoorConv
import Derived.Test.YtclhelpcjgmpmaaGreatDoorWWords
import Derived.Test.YtclhelpcjgmpmaaGreatDoorWLast
import Derived.Test.YtclhelpcjgmpmaaGreatDoorWTab
import Derived.Test.YtclhelpcjgmpmaaGreatDoorWFour
import Derived.Test.YtclhelpcjgmpmaaGreatDoorWQPut
import Derived.Test.YtclhelpcjgmpmaaGreatDoorWApart
import Derived.Test.YtclhelpcjgmpmaaGreatDoorWArr
import Derived.Test.YtclhelpcjgmpmaaGreatDoorWZeros
import Derived.Test.YtclhelpcjgmpmaaGreatDoorWFoot
import Derived.Test.YtclhelpcjgmpmaaGreatDoorWKept
import Derived.Test.YtclhelpcjgmpmaaGreatDoorWShare
import Derived.Test.YtclhelpcjgmpmaaGreatDoorWN
import Derived.Test.YtclhelpcjgmpmaaGreatDoorWFootNe
import Derived.Test.YtclhelpcjgmpmaaGreatDoorWAt
import Derived.Test.YtclhelpcjgmpmaaGreatDoorWEqStruct
import Derived.Test.YtclhelpcjgmpmaaGreatDoorWRepsOne
import Derived.Test.YtclhelpcjgmpmaaGreatDoorWInv
import Derived.Test.YtclhelpcjgmpmaaGreatDoorWInvWords
import Derived.Test.YtclhelpcjgmpmaaGreatDoorWGuard
import Derived.Test.YtclhelpcjgmpmaaGreatDoorWNEv
import Derived.Test.YtclhelpcjgmpmaaGreatDoorWMore
namespace Go.Proofs.YtclhelpcjgmpmaaGreatDoor.PRIGHT
open Go.RowKit Go.Proofs.YtclhelpcjgmpmaaGreatDoorW.PrintWords Go.Proofs.YtclhelpcjgmpmaaGreatDoorW.PrintLast Go.Proofs.YtclhelpcjgmpmaaGreatDoorW.PrintMore
attribute [local go_sem] max2_int min2_int max_two min_two max_three min_three max_four min_four   -- for this text's walks alone
set_option linter.unusedVariables false
set_option linter.unusedSimpArgs false



def errW : Option Int → Value
  | none => .nilIface
  | some c => .iface 0 (.int .i64 c)
theorem errW_none : errW none = .nilIface := rfl
theorem errW_some (c : Int) : errW (some c) = .iface 0 (.int .i64 c) := rfl

theorem info5 : (Tryz.prog.info? 5).map (fun i => (i.zero, i.size, i.bytes)) = some (some (.int .u8 0), 1, 1) := by kernel_rfl
-- the values' own types

end Go.Proofs.YtclhelpcjgmpmaaGreatDoor.PRIGHT
