/-
  No cell of these rows narrows 'for every input' (looked for: loops, veiled, ifaces, maps, wideKeys, modest, calm, conditions, laid).
  DERIVED. THE GIVEN ROWS OF THIS SEAT. 7 by the template 'for every input the law returns true; each argument reads behind the call as it read before'; 0 by the template 'total and deterministic' (their statements: YtibmgcihpbofdaaTotals.lean).
  GIVEN WITH THE SEED: the statements are not yours to turn. If you find one false, say at which input.
  Laid BY PROGRAM, IN A SANDBOX (cutbox-rows.mjs): the forced cells as the released guide's own fill.sh prints them over the translation bd5277f0a60b8d4e… (all of the seat's roots in one cut). By AI agents, Wed Nov 11 2026. No macro, syntax, notation, axiom, sorry.
-/
import Derived.Test.YtibmgcihpbofdaaChecked
import GoSem.Claim
import GoSem.ClaimJoined
import GoSem.ClaimMapViews
import Derived.JoinedTies
import Derived.KernelRfl
namespace Go.Proofs.Ytibmgcihpbofdaa
/- THE CELL 'sum', in the pinned program and in every row, IS THE sha256 OF THE DUMP (.gsa) THAT YtibmgcihpbofdaaProg.lean LOADS. Nothing in Lean hashes anything: it is a label: what it is worth is what the hold of that sum in a sandbox is worth. -/
noncomputable def Try.pinned : Pinned := { name := "ytibmgcihpbofdaa", sum := "bd5277f0a60b8d4e4b713d7cf8c4d19c0d6d41e8f8f2e8d88cc8290028babc9e", checked := Try.checked }
namespace Rows
def none {H : Type} : Left H := { results := [], args := [] }

/-- 'pillarboxlaw04.FsApart': WHATEVER THE INPUT: true; the input reads as it did. -/
def fsApartSpec : ChangeSpec := { name := "fsApart", fn := fun _ => fun
  | [d1, d2, d3] => { results := [.lit (.bool true)], args := [d1, d2, d3] }
  | _ => none }
def fsApartRow : OpenClaim := { program := "ytibmgcihpbofdaa", sum := "bd5277f0a60b8d4e4b713d7cf8c4d19c0d6d41e8f8f2e8d88cc8290028babc9e", func := "pillarbox/pillarboxlaw04.FsApart", spec := "fsApart", inPlace := ["maps.clone"], unfollowed := true, recurses := true, apart := false }
def FsApartSaid : Prop := fsApartRow.holds Try.pinned (OpenSpec.ofChange fsApartSpec)

/-- ITS FALSE NEIGHBOUR: 'it returns false'. Refute it at one input. -/
def fsApartWrong : ChangeSpec := { name := "fsApart", fn := fun _ => fun
  | [d1, d2, d3] => { results := [.lit (.bool false)], args := [d1, d2, d3] }
  | _ => none }
def FsApartWrongFalsely : Prop := fsApartRow.holds Try.pinned (OpenSpec.ofChange fsApartWrong)

/-- 'pillarboxlaw04.FsSure': WHATEVER THE INPUT: true; the input reads as it did. -/
def fsSureSpec : ChangeSpec := { name := "fsSure", fn := fun _ => fun
  | [d1, d2, d3, d4, d5, d6] => { results := [.lit (.bool true)], args := [d1, d2, d3, d4, d5, d6] }
  | _ => none }
def fsSureRow : OpenClaim := { program := "ytibmgcihpbofdaa", sum := "bd5277f0a60b8d4e4b713d7cf8c4d19c0d6d41e8f8f2e8d88cc8290028babc9e", func := "pillarbox/pillarboxlaw04.FsSure", spec := "fsSure", inPlace := ["maps.clone"], unfollowed := true, recurses := true, apart := false }
def FsSureSaid : Prop := fsSureRow.holds Try.pinned (OpenSpec.ofChange fsSureSpec)

/-- ITS FALSE NEIGHBOUR: 'it returns false'. Refute it at one input. -/
def fsSureWrong : ChangeSpec := { name := "fsSure", fn := fun _ => fun
  | [d1, d2, d3, d4, d5, d6] => { results := [.lit (.bool false)], args := [d1, d2, d3, d4, d5, d6] }
  | _ => none }
def FsSureWrongFalsely : Prop := fsSureRow.holds Try.pinned (OpenSpec.ofChange fsSureWrong)

/-- 'pillarboxlaw04.FsAtomic': WHATEVER THE INPUT: true; the input reads as it did. -/
def fsAtomicSpec : ChangeSpec := { name := "fsAtomic", fn := fun _ => fun
  | [d1, d2, d3, d4, d5, d6, d7] => { results := [.lit (.bool true)], args := [d1, d2, d3, d4, d5, d6, d7] }
  | _ => none }
def fsAtomicRow : OpenClaim := { program := "ytibmgcihpbofdaa", sum := "bd5277f0a60b8d4e4b713d7cf8c4d19c0d6d41e8f8f2e8d88cc8290028babc9e", func := "pillarbox/pillarboxlaw04.FsAtomic", spec := "fsAtomic", inPlace := ["maps.clone"], unfollowed := true, recurses := true, apart := false }
def FsAtomicSaid : Prop := fsAtomicRow.holds Try.pinned (OpenSpec.ofChange fsAtomicSpec)

/-- ITS FALSE NEIGHBOUR: 'it returns false'. Refute it at one input. -/
def fsAtomicWrong : ChangeSpec := { name := "fsAtomic", fn := fun _ => fun
  | [d1, d2, d3, d4, d5, d6, d7] => { results := [.lit (.bool false)], args := [d1, d2, d3, d4, d5, d6, d7] }
  | _ => none }
def FsAtomicWrongFalsely : Prop := fsAtomicRow.holds Try.pinned (OpenSpec.ofChange fsAtomicWrong)

/-- 'pillarboxlaw04.FsFuse': WHATEVER THE INPUT: true; the input reads as it did. -/
def fsFuseSpec : ChangeSpec := { name := "fsFuse", fn := fun _ => fun
  | [d1, d2] => { results := [.lit (.bool true)], args := [d1, d2] }
  | _ => none }
def fsFuseRow : OpenClaim := { program := "ytibmgcihpbofdaa", sum := "bd5277f0a60b8d4e4b713d7cf8c4d19c0d6d41e8f8f2e8d88cc8290028babc9e", func := "pillarbox/pillarboxlaw04.FsFuse", spec := "fsFuse", inPlace := ["maps.clone"], unfollowed := true, recurses := true, apart := false }
def FsFuseSaid : Prop := fsFuseRow.holds Try.pinned (OpenSpec.ofChange fsFuseSpec)

/-- ITS FALSE NEIGHBOUR: 'it returns false'. Refute it at one input. -/
def fsFuseWrong : ChangeSpec := { name := "fsFuse", fn := fun _ => fun
  | [d1, d2] => { results := [.lit (.bool false)], args := [d1, d2] }
  | _ => none }
def FsFuseWrongFalsely : Prop := fsFuseRow.holds Try.pinned (OpenSpec.ofChange fsFuseWrong)

/-- 'pillarboxlaw04.FsRoom': WHATEVER THE INPUT: true; the input reads as it did. -/
def fsRoomSpec : ChangeSpec := { name := "fsRoom", fn := fun _ => fun
  | [d1, d2] => { results := [.lit (.bool true)], args := [d1, d2] }
  | _ => none }
def fsRoomRow : OpenClaim := { program := "ytibmgcihpbofdaa", sum := "bd5277f0a60b8d4e4b713d7cf8c4d19c0d6d41e8f8f2e8d88cc8290028babc9e", func := "pillarbox/pillarboxlaw04.FsRoom", spec := "fsRoom", inPlace := ["maps.clone"], unfollowed := true, recurses := true, apart := false }
def FsRoomSaid : Prop := fsRoomRow.holds Try.pinned (OpenSpec.ofChange fsRoomSpec)

/-- ITS FALSE NEIGHBOUR: 'it returns false'. Refute it at one input. -/
def fsRoomWrong : ChangeSpec := { name := "fsRoom", fn := fun _ => fun
  | [d1, d2] => { results := [.lit (.bool false)], args := [d1, d2] }
  | _ => none }
def FsRoomWrongFalsely : Prop := fsRoomRow.holds Try.pinned (OpenSpec.ofChange fsRoomWrong)

/-- 'pillarboxlaw04.FsPlays': WHATEVER THE INPUT: true; the input reads as it did. -/
def fsPlaysSpec : ChangeSpec := { name := "fsPlays", fn := fun _ => fun
  | [d1, d2] => { results := [.lit (.bool true)], args := [d1, d2] }
  | _ => none }
def fsPlaysRow : OpenClaim := { program := "ytibmgcihpbofdaa", sum := "bd5277f0a60b8d4e4b713d7cf8c4d19c0d6d41e8f8f2e8d88cc8290028babc9e", func := "pillarbox/pillarboxlaw04.FsPlays", spec := "fsPlays", inPlace := ["maps.clone"], unfollowed := true, recurses := true, apart := false }
def FsPlaysSaid : Prop := fsPlaysRow.holds Try.pinned (OpenSpec.ofChange fsPlaysSpec)

/-- ITS FALSE NEIGHBOUR: 'it returns false'. Refute it at one input. -/
def fsPlaysWrong : ChangeSpec := { name := "fsPlays", fn := fun _ => fun
  | [d1, d2] => { results := [.lit (.bool false)], args := [d1, d2] }
  | _ => none }
def FsPlaysWrongFalsely : Prop := fsPlaysRow.holds Try.pinned (OpenSpec.ofChange fsPlaysWrong)

/-- 'pillarboxlaw04.FsNone': WHATEVER THE INPUT: true; the input reads as it did. -/
def fsNoneSpec : ChangeSpec := { name := "fsNone", fn := fun _ => fun
  | [d1, d2, d3] => { results := [.lit (.bool true)], args := [d1, d2, d3] }
  | _ => none }
def fsNoneRow : OpenClaim := { program := "ytibmgcihpbofdaa", sum := "bd5277f0a60b8d4e4b713d7cf8c4d19c0d6d41e8f8f2e8d88cc8290028babc9e", func := "pillarbox/pillarboxlaw04.FsNone", spec := "fsNone", inPlace := ["maps.clone"], unfollowed := true, recurses := true, apart := false }
def FsNoneSaid : Prop := fsNoneRow.holds Try.pinned (OpenSpec.ofChange fsNoneSpec)

/-- ITS FALSE NEIGHBOUR: 'it returns false'. Refute it at one input. -/
def fsNoneWrong : ChangeSpec := { name := "fsNone", fn := fun _ => fun
  | [d1, d2, d3] => { results := [.lit (.bool false)], args := [d1, d2, d3] }
  | _ => none }
def FsNoneWrongFalsely : Prop := fsNoneRow.holds Try.pinned (OpenSpec.ofChange fsNoneWrong)

/- THE SECOND FORM. 'bulk': how many values and letters a reading holds, each counted each time it is reached (what is shared counts as often as it is met; a slice's spare places count too). A statement '..UptoSaid' is the law's where the arguments, and the package variables that the reading takes, are together of bulk at most 1048576: NARROWER than '..Said'. Prove '..Said' where nothing that the law and all that it calls make is longer than what came in: it says more and counts as full. Else prove '..UptoSaid'. A law counts once. -/
mutual
def uptoBulk {H : Type} : DataW H → Nat
  | .lit (.string bytes) => bytes.length + 1
  | .lit _ => 1
  | .nil => 1
  | .ptr d => uptoBulk d + 1
  | .slice elems spare => uptoBulkAll elems + uptoBulkAll spare + 1
  | .agg parts => uptoBulkAll parts + 1
  | .iface _ d => uptoBulk d + 1
  | .map entries => uptoBulkEntries entries + 1
  | .held _ => 1
def uptoBulkAll {H : Type} : List (DataW H) → Nat
  | [] => 0
  | d :: r => uptoBulk d + uptoBulkAll r
def uptoBulkEntries {H : Type} : List (Lit × DataW H) → Nat
  | [] => 0
  | x :: r => uptoBulkEntry x + uptoBulkEntries r
def uptoBulkEntry {H : Type} : Lit × DataW H → Nat
  | (.string bytes, d) => bytes.length + uptoBulk d + 1
  | (_, d) => uptoBulk d + 1
 end
def uptoSmall : (H : Type) → List (DataW H) → Bool := fun _ ds => decide (uptoBulkAll ds ≤ 1048576)
def OpenSpec.upto (s : _root_.Go.ChangeSpec) : _root_.Go.OpenSpec := { _root_.Go.OpenSpec.ofChange s with cond := some uptoSmall }

/-- 'pillarboxlaw04.FsApart', WHERE WHAT IT READS IS OF BULK AT MOST 1048576: true; the input reads as it did. -/
def fsApartUptoRow : OpenClaim := { program := "ytibmgcihpbofdaa", sum := "bd5277f0a60b8d4e4b713d7cf8c4d19c0d6d41e8f8f2e8d88cc8290028babc9e", func := "pillarbox/pillarboxlaw04.FsApart", spec := "fsApart", inPlace := ["maps.clone"], unfollowed := true, recurses := true, apart := false, narrowed := true }
def FsApartUptoSaid : Prop := fsApartUptoRow.holds Try.pinned (OpenSpec.upto fsApartSpec)

/-- 'pillarboxlaw04.FsSure', WHERE WHAT IT READS IS OF BULK AT MOST 1048576: true; the input reads as it did. -/
def fsSureUptoRow : OpenClaim := { program := "ytibmgcihpbofdaa", sum := "bd5277f0a60b8d4e4b713d7cf8c4d19c0d6d41e8f8f2e8d88cc8290028babc9e", func := "pillarbox/pillarboxlaw04.FsSure", spec := "fsSure", inPlace := ["maps.clone"], unfollowed := true, recurses := true, apart := false, narrowed := true }
def FsSureUptoSaid : Prop := fsSureUptoRow.holds Try.pinned (OpenSpec.upto fsSureSpec)

/-- 'pillarboxlaw04.FsAtomic', WHERE WHAT IT READS IS OF BULK AT MOST 1048576: true; the input reads as it did. -/
def fsAtomicUptoRow : OpenClaim := { program := "ytibmgcihpbofdaa", sum := "bd5277f0a60b8d4e4b713d7cf8c4d19c0d6d41e8f8f2e8d88cc8290028babc9e", func := "pillarbox/pillarboxlaw04.FsAtomic", spec := "fsAtomic", inPlace := ["maps.clone"], unfollowed := true, recurses := true, apart := false, narrowed := true }
def FsAtomicUptoSaid : Prop := fsAtomicUptoRow.holds Try.pinned (OpenSpec.upto fsAtomicSpec)

/-- 'pillarboxlaw04.FsFuse', WHERE WHAT IT READS IS OF BULK AT MOST 1048576: true; the input reads as it did. -/
def fsFuseUptoRow : OpenClaim := { program := "ytibmgcihpbofdaa", sum := "bd5277f0a60b8d4e4b713d7cf8c4d19c0d6d41e8f8f2e8d88cc8290028babc9e", func := "pillarbox/pillarboxlaw04.FsFuse", spec := "fsFuse", inPlace := ["maps.clone"], unfollowed := true, recurses := true, apart := false, narrowed := true }
def FsFuseUptoSaid : Prop := fsFuseUptoRow.holds Try.pinned (OpenSpec.upto fsFuseSpec)

/-- 'pillarboxlaw04.FsRoom', WHERE WHAT IT READS IS OF BULK AT MOST 1048576: true; the input reads as it did. -/
def fsRoomUptoRow : OpenClaim := { program := "ytibmgcihpbofdaa", sum := "bd5277f0a60b8d4e4b713d7cf8c4d19c0d6d41e8f8f2e8d88cc8290028babc9e", func := "pillarbox/pillarboxlaw04.FsRoom", spec := "fsRoom", inPlace := ["maps.clone"], unfollowed := true, recurses := true, apart := false, narrowed := true }
def FsRoomUptoSaid : Prop := fsRoomUptoRow.holds Try.pinned (OpenSpec.upto fsRoomSpec)

/-- 'pillarboxlaw04.FsPlays', WHERE WHAT IT READS IS OF BULK AT MOST 1048576: true; the input reads as it did. -/
def fsPlaysUptoRow : OpenClaim := { program := "ytibmgcihpbofdaa", sum := "bd5277f0a60b8d4e4b713d7cf8c4d19c0d6d41e8f8f2e8d88cc8290028babc9e", func := "pillarbox/pillarboxlaw04.FsPlays", spec := "fsPlays", inPlace := ["maps.clone"], unfollowed := true, recurses := true, apart := false, narrowed := true }
def FsPlaysUptoSaid : Prop := fsPlaysUptoRow.holds Try.pinned (OpenSpec.upto fsPlaysSpec)

/-- 'pillarboxlaw04.FsNone', WHERE WHAT IT READS IS OF BULK AT MOST 1048576: true; the input reads as it did. -/
def fsNoneUptoRow : OpenClaim := { program := "ytibmgcihpbofdaa", sum := "bd5277f0a60b8d4e4b713d7cf8c4d19c0d6d41e8f8f2e8d88cc8290028babc9e", func := "pillarbox/pillarboxlaw04.FsNone", spec := "fsNone", inPlace := ["maps.clone"], unfollowed := true, recurses := true, apart := false, narrowed := true }
def FsNoneUptoSaid : Prop := fsNoneUptoRow.holds Try.pinned (OpenSpec.upto fsNoneSpec)

end Rows
end Go.Proofs.Ytibmgcihpbofdaa
