-- printed by a program of this session out of the translation. Not trusted: Lean checks it.
import Derived.Test.YtilgfpljjjbgdaaGreatDoorProg
import Derived.Below
import Derived.Deep.Draws
import Derived.Deep.AppendLies
import Derived.Maps.AppendAt
import Derived.OwnWalk
import Derived.Laws.BytesArg
import Derived.Laws.MakeOwn
import Derived.Laws.OwnMore
import Derived.Deep.OwnRows
import Derived.Tactics
import Derived.Lib.ConvBytes
import Derived.Laws.Slices
import Derived.WalkKit
import Derived.KernelRfl
import Derived.RowKit3
import Derived.Deep.LoopGhost
import Derived.Deep.QuietTactic
import Derived.BigQuiet
import Derived.WideLaws
import Derived.Deep.DeepCutAuto
import Derived.Deep.CutBlock
import Derived.Deep.RegionHeld3
import Derived.Laws.Rows
import Derived.Lib.AppendStr
import Derived.ArgAppend
import Derived.Laws.IdiomCopy
import Derived.OrdersHeld
import Derived.Laws.BitsLemmas
import Derived.RowKit
import Derived.Test.YtilgfpljjjbgdaaGreatDoorShelf
import Derived.Test.YtilgfpljjjbgdaaGreatDoorGlobM
import Derived.Test.YtilgfpljjjbgdaaGreatDoorConv
import Derived.Lib.SplitLaws
import Derived.Test.YtilgfpljjjbgdaaGreatDoorPlain
import Derived.Lib.OthersKept
import Derived.Laws.RangeAny
import Derived.Laws.Runes
import Derived.WalkMore
import Derived.Lib.IndexAny
import Derived.Deep.DeepMust
import Derived.Test.YtilgfpljjjbgdaaGreatDoorWWords
import Derived.Test.YtilgfpljjjbgdaaGreatDoorWLast
import Derived.Test.YtilgfpljjjbgdaaGreatDoorWTab
import Derived.Test.YtilgfpljjjbgdaaGreatDoorWFour
import Derived.Test.YtilgfpljjjbgdaaGreatDoorWQPut
import Derived.Test.YtilgfpljjjbgdaaGreatDoorWApart
import Derived.Test.YtilgfpljjjbgdaaGreatDoorWArr
import Derived.Test.YtilgfpljjjbgdaaGreatDoorWZeros
import Derived.Test.YtilgfpljjjbgdaaGreatDoorWFoot
import Derived.Test.YtilgfpljjjbgdaaGreatDoorWKept
import Derived.Test.YtilgfpljjjbgdaaGreatDoorWShare
import Derived.Test.YtilgfpljjjbgdaaGreatDoorWN
import Derived.Test.YtilgfpljjjbgdaaGreatDoorWFootNe
import Derived.Test.YtilgfpljjjbgdaaGreatDoorWAt
import Derived.Test.YtilgfpljjjbgdaaGreatDoorWEqStruct
import Derived.Test.YtilgfpljjjbgdaaGreatDoorWRepsOne
import Derived.Test.YtilgfpljjjbgdaaGreatDoorWInv
import Derived.Test.YtilgfpljjjbgdaaGreatDoorWInvWords
import Derived.Test.YtilgfpljjjbgdaaGreatDoorWGuard
import Derived.Test.YtilgfpljjjbgdaaGreatDoorWNEv
import Derived.Test.YtilgfpljjjbgdaaGreatDoorWMore
namespace Go.Proofs.YtilgfpljjjbgdaaGreatDoor.PALL
open Go.RowKit Go.Proofs.YtilgfpljjjbgdaaGreatDoorW.PrintWords Go.Proofs.YtilgfpljjjbgdaaGreatDoorW.PrintLast Go.Proofs.YtilgfpljjjbgdaaGreatDoorW.PrintMore
attribute [local go_sem] max2_int min2_int max_two min_two max_three min_three max_four min_four   -- for this text's walks alone
set_option linter.unusedVariables false
set_option linter.unusedSimpArgs false



def errW : Option Int → Value
  | none => .nilIface
  | some c => .iface 0 (.int .i64 c)
theorem errW_none : errW none = .nilIface := rfl
theorem errW_some (c : Int) : errW (some c) = .iface 0 (.int .i64 c) := rfl

theorem info9 : (Tryz.prog.info? 9).map (fun i => (i.zero, i.size, i.bytes)) = some (some (.string ⟨#[]⟩), 1, 16) := by kernel_rfl
-- the values' own types
def rd_L4 (xs : List (List ByteArray)) (i : Int) : (List ByteArray) := xs.getD i.toNat ([] : List ByteArray)
theorem at_L4 {w : World} {A : Option Addr} {n : Nat} {xs : List (List ByteArray)} (h : Kd.C (Kd.slice 9 Kd.string) w A n xs) (i : Int) (h0 : 0 ≤ i) (h1 : i < n) : ∃ ad A0 c0, A = some ad ∧ w.cell? (ad.add i.toNat) = some (.slice A0 (rd_L4 xs i).length c0) ∧ (rd_L4 xs i).length ≤ c0 ∧ Kd.string.C w A0 (rd_L4 xs i).length (rd_L4 xs i) := by
  obtain ⟨ad, c, e, _, hK, hc0⟩ := Kd.C_get h ([] : List ByteArray) i h0 h1
  have hc : ∀ j u, c[j]? = some u → w.cell? (ad.add (i.toNat * 1 + j)) = some u := hc0
  obtain ⟨A0, c0, rfl, l0, g0⟩ := hK
  exact ⟨ad, A0, c0, e, by have hq := hc 0 _ rfl; rwa [Nat.mul_one, Nat.add_zero] at hq, l0, g0⟩

end Go.Proofs.YtilgfpljjjbgdaaGreatDoor.PALL
