-- printed by a program of this session out of the translation. Not trusted: Lean checks it.
import Derived.Test.YthdjeikfbbdehaaDoorProg
import Derived.Below
import Derived.Deep.Draws
import Derived.Deep.AppendLies
import Derived.Maps.AppendAt
import Derived.OwnWalk
import Derived.Laws.BytesArg
import Derived.Laws.MakeOwn
import Derived.Laws.OwnMore
import Derived.Deep.OwnRows
import Derived.Tactics
import Derived.Lib.ConvBytes
import Derived.Laws.Slices
import Derived.WalkKit
import Derived.KernelRfl
import Derived.RowKit3
import Derived.Deep.LoopGhost
import Derived.Deep.QuietTactic
import Derived.BigQuiet
import Derived.WideLaws
import Derived.Deep.DeepCutAuto
import Derived.Deep.CutBlock
import Derived.Deep.RegionHeld3
import Derived.Laws.Rows
import Derived.Lib.AppendStr
import Derived.ArgAppend
import Derived.Laws.IdiomCopy
import Derived.OrdersHeld
import Derived.Laws.BitsLemmas
import Derived.RowKit
import Derived.Test.YthdjeikfbbdehaaDoorGlobNone
import Derived.Test.YthdjeikfbbdehaaDoorConv
import Derived.Test.YthdjeikfbbdehaaDoorPlain
import Derived.Test.YthdjeikfbbdehaaDoorWWords
import Derived.Test.YthdjeikfbbdehaaDoorWLast
import Derived.Test.YthdjeikfbbdehaaDoorWTab
import Derived.Test.YthdjeikfbbdehaaDoorWFour
import Derived.Test.YthdjeikfbbdehaaDoorWQPut
import Derived.Test.YthdjeikfbbdehaaDoorWApart
import Derived.Test.YthdjeikfbbdehaaDoorWArr
import Derived.Test.YthdjeikfbbdehaaDoorWZeros
import Derived.Test.YthdjeikfbbdehaaDoorWFoot
import Derived.Test.YthdjeikfbbdehaaDoorWKept
import Derived.Test.YthdjeikfbbdehaaDoorWShare
import Derived.Test.YthdjeikfbbdehaaDoorWN
import Derived.Test.YthdjeikfbbdehaaDoorWFootNe
import Derived.Test.YthdjeikfbbdehaaDoorWAt
import Derived.Test.YthdjeikfbbdehaaDoorWEqStruct
import Derived.Test.YthdjeikfbbdehaaDoorWRepsOne
import Derived.Test.YthdjeikfbbdehaaDoorWInv
import Derived.Test.YthdjeikfbbdehaaDoorWInvWords
import Derived.Test.YthdjeikfbbdehaaDoorWGuard
import Derived.Test.YthdjeikfbbdehaaDoorWNEv
import Derived.Test.YthdjeikfbbdehaaDoorWMore
namespace Go.Proofs.YthdjeikfbbdehaaDoor.PBOX
open Go.RowKit Go.Proofs.YthdjeikfbbdehaaDoorW.PrintWords Go.Proofs.YthdjeikfbbdehaaDoorW.PrintLast Go.Proofs.YthdjeikfbbdehaaDoorW.PrintMore
attribute [local go_sem] max2_int min2_int max_two min_two max_three min_three max_four min_four   -- for this text's walks alone
set_option linter.unusedVariables false
set_option linter.unusedSimpArgs false



def errW : Option Int → Value
  | none => .nilIface
  | some c => .iface 0 (.int .i64 c)
theorem errW_none : errW none = .nilIface := rfl
theorem errW_some (c : Int) : errW (some c) = .iface 0 (.int .i64 c) := rfl

theorem info9 : (Tryd.prog.info? 9).map (fun i => (i.zero, i.size, i.bytes)) = some (some (.string ⟨#[]⟩), 1, 16) := by kernel_rfl
-- the values' own types

end Go.Proofs.YthdjeikfbbdehaaDoor.PBOX
