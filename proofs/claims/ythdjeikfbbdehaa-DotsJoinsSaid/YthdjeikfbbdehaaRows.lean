/-
  No cell of these rows narrows 'for every input' (looked for: loops, veiled, ifaces, maps, wideKeys, modest, calm, conditions, laid).
  DERIVED. THE GIVEN ROWS OF THIS SEAT. 4 by the template 'for every input the law returns true; each argument reads behind the call as it read before'; 0 by the template 'total and deterministic' (their statements: YthdjeikfbbdehaaTotals.lean).
  GIVEN WITH THE SEED: the statements are not yours to turn. If you find one false, say at which input.
  Laid BY PROGRAM, IN A SANDBOX (cutbox-rows.mjs): the forced cells as the released guide's own fill.sh prints them over the translation b8f35ef6d7de05d8… (all of the seat's roots in one cut). By AI agents, Wed Nov 11 2026. No macro, syntax, notation, axiom, sorry.
-/
import Derived.Test.YthdjeikfbbdehaaChecked
import GoSem.Claim
import GoSem.ClaimJoined
import GoSem.ClaimMapViews
import Derived.JoinedTies
import Derived.KernelRfl
namespace Go.Proofs.Ythdjeikfbbdehaa
/- THE CELL 'sum', in the pinned program and in every row, IS THE sha256 OF THE DUMP (.gsa) THAT YthdjeikfbbdehaaProg.lean LOADS. Nothing in Lean hashes anything: it is a label: what it is worth is what the hold of that sum in a sandbox is worth. -/
noncomputable def Try.pinned : Pinned := { name := "ythdjeikfbbdehaa", sum := "b8f35ef6d7de05d82166a5891d6defd9690b077bb024888b007c731f0b001668", checked := Try.checked }
namespace Rows
def none {H : Type} : Left H := { results := [], args := [] }

/-- 'pillarboxlaw08.DotsStuffs': WHATEVER THE INPUT: true; the input reads as it did. -/
def dotsStuffsSpec : ChangeSpec := { name := "dotsStuffs", fn := fun _ => fun
  | [d] => { results := [.lit (.bool true)], args := [d] }
  | _ => none }
def dotsStuffsRow : OpenClaim := { program := "ythdjeikfbbdehaa", sum := "b8f35ef6d7de05d82166a5891d6defd9690b077bb024888b007c731f0b001668", func := "pillarbox/pillarboxlaw08.DotsStuffs", spec := "dotsStuffs", inPlace := ["internal/bytealg.IndexByteString", "internal/bytealg.IndexString", "internal/abi.NoEscape"], named := ["internal/bytealg.MaxLen"], apart := false }
def DotsStuffsSaid : Prop := dotsStuffsRow.holds Try.pinned (OpenSpec.ofChange dotsStuffsSpec)

/-- ITS FALSE NEIGHBOUR: 'it returns false'. Refute it at one input. -/
def dotsStuffsWrong : ChangeSpec := { name := "dotsStuffs", fn := fun _ => fun
  | [d] => { results := [.lit (.bool false)], args := [d] }
  | _ => none }
def DotsStuffsWrongFalsely : Prop := dotsStuffsRow.holds Try.pinned (OpenSpec.ofChange dotsStuffsWrong)

/-- 'pillarboxlaw08.DotsUnstuffs': WHATEVER THE INPUT: true; the input reads as it did. -/
def dotsUnstuffsSpec : ChangeSpec := { name := "dotsUnstuffs", fn := fun _ => fun
  | [d] => { results := [.lit (.bool true)], args := [d] }
  | _ => none }
def dotsUnstuffsRow : OpenClaim := { program := "ythdjeikfbbdehaa", sum := "b8f35ef6d7de05d82166a5891d6defd9690b077bb024888b007c731f0b001668", func := "pillarbox/pillarboxlaw08.DotsUnstuffs", spec := "dotsUnstuffs", inPlace := ["internal/bytealg.IndexByteString", "internal/bytealg.IndexString", "internal/abi.NoEscape"], named := ["internal/bytealg.MaxLen"], apart := false }
def DotsUnstuffsSaid : Prop := dotsUnstuffsRow.holds Try.pinned (OpenSpec.ofChange dotsUnstuffsSpec)

/-- ITS FALSE NEIGHBOUR: 'it returns false'. Refute it at one input. -/
def dotsUnstuffsWrong : ChangeSpec := { name := "dotsUnstuffs", fn := fun _ => fun
  | [d] => { results := [.lit (.bool false)], args := [d] }
  | _ => none }
def DotsUnstuffsWrongFalsely : Prop := dotsUnstuffsRow.holds Try.pinned (OpenSpec.ofChange dotsUnstuffsWrong)

/-- 'pillarboxlaw08.DotsBack': WHATEVER THE INPUT: true; the input reads as it did. -/
def dotsBackSpec : ChangeSpec := { name := "dotsBack", fn := fun _ => fun
  | [d] => { results := [.lit (.bool true)], args := [d] }
  | _ => none }
def dotsBackRow : OpenClaim := { program := "ythdjeikfbbdehaa", sum := "b8f35ef6d7de05d82166a5891d6defd9690b077bb024888b007c731f0b001668", func := "pillarbox/pillarboxlaw08.DotsBack", spec := "dotsBack", inPlace := ["internal/bytealg.IndexByteString", "internal/bytealg.IndexString", "internal/abi.NoEscape"], named := ["internal/bytealg.MaxLen"], apart := false }
def DotsBackSaid : Prop := dotsBackRow.holds Try.pinned (OpenSpec.ofChange dotsBackSpec)

/-- ITS FALSE NEIGHBOUR: 'it returns false'. Refute it at one input. -/
def dotsBackWrong : ChangeSpec := { name := "dotsBack", fn := fun _ => fun
  | [d] => { results := [.lit (.bool false)], args := [d] }
  | _ => none }
def DotsBackWrongFalsely : Prop := dotsBackRow.holds Try.pinned (OpenSpec.ofChange dotsBackWrong)

/-- 'pillarboxlaw08.DotsJoins': WHATEVER THE INPUT: true; the input reads as it did. -/
def dotsJoinsSpec : ChangeSpec := { name := "dotsJoins", fn := fun _ => fun
  | [d1, d2] => { results := [.lit (.bool true)], args := [d1, d2] }
  | _ => none }
def dotsJoinsRow : OpenClaim := { program := "ythdjeikfbbdehaa", sum := "b8f35ef6d7de05d82166a5891d6defd9690b077bb024888b007c731f0b001668", func := "pillarbox/pillarboxlaw08.DotsJoins", spec := "dotsJoins", inPlace := ["internal/bytealg.IndexByteString", "internal/bytealg.IndexString", "internal/abi.NoEscape"], named := ["internal/bytealg.MaxLen"], apart := false }
def DotsJoinsSaid : Prop := dotsJoinsRow.holds Try.pinned (OpenSpec.ofChange dotsJoinsSpec)

/-- ITS FALSE NEIGHBOUR: 'it returns false'. Refute it at one input. -/
def dotsJoinsWrong : ChangeSpec := { name := "dotsJoins", fn := fun _ => fun
  | [d1, d2] => { results := [.lit (.bool false)], args := [d1, d2] }
  | _ => none }
def DotsJoinsWrongFalsely : Prop := dotsJoinsRow.holds Try.pinned (OpenSpec.ofChange dotsJoinsWrong)

/- THE SECOND FORM. 'bulk': how many values and letters a reading holds, each counted each time it is reached (what is shared counts as often as it is met; a slice's spare places count too). A statement '..UptoSaid' is the law's where the arguments, and the package variables that the reading takes, are together of bulk at most 1048576: NARROWER than '..Said'. Prove '..Said' where nothing that the law and all that it calls make is longer than what came in: it says more and counts as full. Else prove '..UptoSaid'. A law counts once. -/
mutual
def uptoBulk {H : Type} : DataW H → Nat
  | .lit (.string bytes) => bytes.length + 1
  | .lit _ => 1
  | .nil => 1
  | .ptr d => uptoBulk d + 1
  | .slice elems spare => uptoBulkAll elems + uptoBulkAll spare + 1
  | .agg parts => uptoBulkAll parts + 1
  | .iface _ d => uptoBulk d + 1
  | .map entries => uptoBulkEntries entries + 1
  | .held _ => 1
def uptoBulkAll {H : Type} : List (DataW H) → Nat
  | [] => 0
  | d :: r => uptoBulk d + uptoBulkAll r
def uptoBulkEntries {H : Type} : List (Lit × DataW H) → Nat
  | [] => 0
  | x :: r => uptoBulkEntry x + uptoBulkEntries r
def uptoBulkEntry {H : Type} : Lit × DataW H → Nat
  | (.string bytes, d) => bytes.length + uptoBulk d + 1
  | (_, d) => uptoBulk d + 1
 end
def uptoSmall : (H : Type) → List (DataW H) → Bool := fun _ ds => decide (uptoBulkAll ds ≤ 1048576)
def OpenSpec.upto (s : _root_.Go.ChangeSpec) : _root_.Go.OpenSpec := { _root_.Go.OpenSpec.ofChange s with cond := some uptoSmall }

/-- 'pillarboxlaw08.DotsStuffs', WHERE WHAT IT READS IS OF BULK AT MOST 1048576: true; the input reads as it did. -/
def dotsStuffsUptoRow : OpenClaim := { program := "ythdjeikfbbdehaa", sum := "b8f35ef6d7de05d82166a5891d6defd9690b077bb024888b007c731f0b001668", func := "pillarbox/pillarboxlaw08.DotsStuffs", spec := "dotsStuffs", inPlace := ["internal/bytealg.IndexByteString", "internal/bytealg.IndexString", "internal/abi.NoEscape"], named := ["internal/bytealg.MaxLen"], apart := false, narrowed := true }
def DotsStuffsUptoSaid : Prop := dotsStuffsUptoRow.holds Try.pinned (OpenSpec.upto dotsStuffsSpec)

/-- 'pillarboxlaw08.DotsUnstuffs', WHERE WHAT IT READS IS OF BULK AT MOST 1048576: true; the input reads as it did. -/
def dotsUnstuffsUptoRow : OpenClaim := { program := "ythdjeikfbbdehaa", sum := "b8f35ef6d7de05d82166a5891d6defd9690b077bb024888b007c731f0b001668", func := "pillarbox/pillarboxlaw08.DotsUnstuffs", spec := "dotsUnstuffs", inPlace := ["internal/bytealg.IndexByteString", "internal/bytealg.IndexString", "internal/abi.NoEscape"], named := ["internal/bytealg.MaxLen"], apart := false, narrowed := true }
def DotsUnstuffsUptoSaid : Prop := dotsUnstuffsUptoRow.holds Try.pinned (OpenSpec.upto dotsUnstuffsSpec)

/-- 'pillarboxlaw08.DotsBack', WHERE WHAT IT READS IS OF BULK AT MOST 1048576: true; the input reads as it did. -/
def dotsBackUptoRow : OpenClaim := { program := "ythdjeikfbbdehaa", sum := "b8f35ef6d7de05d82166a5891d6defd9690b077bb024888b007c731f0b001668", func := "pillarbox/pillarboxlaw08.DotsBack", spec := "dotsBack", inPlace := ["internal/bytealg.IndexByteString", "internal/bytealg.IndexString", "internal/abi.NoEscape"], named := ["internal/bytealg.MaxLen"], apart := false, narrowed := true }
def DotsBackUptoSaid : Prop := dotsBackUptoRow.holds Try.pinned (OpenSpec.upto dotsBackSpec)

/-- 'pillarboxlaw08.DotsJoins', WHERE WHAT IT READS IS OF BULK AT MOST 1048576: true; the input reads as it did. -/
def dotsJoinsUptoRow : OpenClaim := { program := "ythdjeikfbbdehaa", sum := "b8f35ef6d7de05d82166a5891d6defd9690b077bb024888b007c731f0b001668", func := "pillarbox/pillarboxlaw08.DotsJoins", spec := "dotsJoins", inPlace := ["internal/bytealg.IndexByteString", "internal/bytealg.IndexString", "internal/abi.NoEscape"], named := ["internal/bytealg.MaxLen"], apart := false, narrowed := true }
def DotsJoinsUptoSaid : Prop := dotsJoinsUptoRow.holds Try.pinned (OpenSpec.upto dotsJoinsSpec)

end Rows
end Go.Proofs.Ythdjeikfbbdehaa
