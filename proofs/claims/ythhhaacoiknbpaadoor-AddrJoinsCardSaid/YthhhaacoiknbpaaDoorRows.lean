/-
  NARROWER THAN 'FOR EVERY INPUT', by the rows' own cells (each row's printed sentence says how): AddrParses: laid · AddrFixed: laid · AddrJoins: laid · AddrCases: laid · AddrPaths: laid.
  DERIVED. THE GIVEN ROWS OF THIS SEAT. 5 by the template 'for every input the law returns true; each argument reads behind the call as it read before'; 0 by the template 'total and deterministic' (their statements: YthhhaacoiknbpaaDoorTotals.lean).
  GIVEN WITH THE SEED: the statements are not yours to turn. If you find one false, say at which input.
  Laid BY PROGRAM, IN A SANDBOX (cutbox-rows.mjs): the forced cells as the released guide's own fill.sh prints them over the translation 7667f85f671c4cef… (all of the seat's roots in one cut). By AI agents, Wed Nov 11 2026. No macro, syntax, notation, axiom, sorry.
-/
import Derived.Test.YthhhaacoiknbpaaDoorChecked
import GoSem.PinnedTables
import GoSem.Claim
import GoSem.ClaimJoined
import GoSem.ClaimMapViews
import Derived.JoinedTies
import Derived.KernelRfl
namespace Go.Proofs.YthhhaacoiknbpaaDoor
/- THE CELL 'sum', in the pinned program and in every row, IS THE sha256 OF THE DUMP (.gsa) THAT YthhhaacoiknbpaaDoorProg.lean LOADS. Nothing in Lean hashes anything: it is a label: what it is worth is what the hold of that sum in a sandbox is worth. -/
noncomputable def Tryd.pinned : Pinned := { name := "ythhhaacoiknbpaadoor", sum := "7667f85f671c4cef68d16ba4075237d822783b33ddcb1e6cdcfc24a6a51ceabe", checked := Tryd.checked }
namespace Rows
def none {H : Type} : Left H := { results := [], args := [] }

/- WHAT THE LISTED PACKAGE-LEVEL VARIABLES READ AS WHEN THE CALL BEGINS. Each datum BY PROGRAM (the guide's laid-datum.mjs) off the statement by which the dump's own 'gosem.cut.vars' lays the variable. In a bare row this is a premise. The card (YthhhaacoiknbpaaDoorCards.lean) ties it to the program's text. -/
def laid_unicode_utf8_acceptRanges {H : Type} : DataW H := .agg [.agg [.lit (.int .u8 128), .lit (.int .u8 191)], .agg [.lit (.int .u8 160), .lit (.int .u8 191)], .agg [.lit (.int .u8 128), .lit (.int .u8 159)], .agg [.lit (.int .u8 144), .lit (.int .u8 191)], .agg [.lit (.int .u8 128), .lit (.int .u8 143)], .agg [.lit (.int .u8 0), .lit (.int .u8 0)], .agg [.lit (.int .u8 0), .lit (.int .u8 0)], .agg [.lit (.int .u8 0), .lit (.int .u8 0)], .agg [.lit (.int .u8 0), .lit (.int .u8 0)], .agg [.lit (.int .u8 0), .lit (.int .u8 0)], .agg [.lit (.int .u8 0), .lit (.int .u8 0)], .agg [.lit (.int .u8 0), .lit (.int .u8 0)], .agg [.lit (.int .u8 0), .lit (.int .u8 0)], .agg [.lit (.int .u8 0), .lit (.int .u8 0)], .agg [.lit (.int .u8 0), .lit (.int .u8 0)], .agg [.lit (.int .u8 0), .lit (.int .u8 0)]]
/-- One of Go's own tables, pinned by name: the form's constant. -/
def laid_unicode_CaseRanges : DataW Unit := Go.Pinned.caseRanges
/-- One of Go's own tables, pinned by name: the form's constant. -/
def laid_unicode_utf8_first : DataW Unit := Go.Pinned.utf8First

/-- 'pillarboxlaw05.AddrParses': WHATEVER THE INPUT: true; the input reads as it did. -/
def addrParsesSpec : ChangeSpec := { name := "addrParses", fn := fun _ => fun
  | [d] => { results := [.lit (.bool true)], args := [d] }
  | _ => none }
def addrParsesRow : OpenClaim := { program := "ythhhaacoiknbpaadoor", sum := "7667f85f671c4cef68d16ba4075237d822783b33ddcb1e6cdcfc24a6a51ceabe", func := "pillarbox/pillarboxlaw05.AddrParses", spec := "addrParses", inPlace := ["internal/bytealg.IndexByteString", "internal/bytealg.IndexString", "internal/bytealg.CountString", "internal/abi.NoEscape", "internal/bytealg.MakeNoZero"], unfollowed := true, recurses := true, named := ["internal/bytealg.MaxLen", "unicode/utf8.first", "unicode/utf8.acceptRanges", "unicode.CaseRanges"], apart := false, laid := [("unicode/utf8.acceptRanges", laid_unicode_utf8_acceptRanges), ("unicode.CaseRanges", laid_unicode_CaseRanges), ("unicode/utf8.first", laid_unicode_utf8_first)] }
def AddrParsesSaid : Prop := addrParsesRow.holds Tryd.pinned (OpenSpec.ofChange addrParsesSpec)

/-- ITS FALSE NEIGHBOUR: 'it returns false'. Refute it at one input. -/
def addrParsesWrong : ChangeSpec := { name := "addrParses", fn := fun _ => fun
  | [d] => { results := [.lit (.bool false)], args := [d] }
  | _ => none }
def AddrParsesWrongFalsely : Prop := addrParsesRow.holds Tryd.pinned (OpenSpec.ofChange addrParsesWrong)

/-- 'pillarboxlaw05.AddrFixed': WHATEVER THE INPUT: true; the input reads as it did. -/
def addrFixedSpec : ChangeSpec := { name := "addrFixed", fn := fun _ => fun
  | [d] => { results := [.lit (.bool true)], args := [d] }
  | _ => none }
def addrFixedRow : OpenClaim := { program := "ythhhaacoiknbpaadoor", sum := "7667f85f671c4cef68d16ba4075237d822783b33ddcb1e6cdcfc24a6a51ceabe", func := "pillarbox/pillarboxlaw05.AddrFixed", spec := "addrFixed", inPlace := ["internal/bytealg.IndexByteString", "internal/bytealg.IndexString", "internal/bytealg.CountString", "internal/abi.NoEscape", "internal/bytealg.MakeNoZero"], unfollowed := true, recurses := true, named := ["internal/bytealg.MaxLen", "unicode/utf8.first", "unicode/utf8.acceptRanges", "unicode.CaseRanges"], apart := false, laid := [("unicode/utf8.acceptRanges", laid_unicode_utf8_acceptRanges), ("unicode.CaseRanges", laid_unicode_CaseRanges), ("unicode/utf8.first", laid_unicode_utf8_first)] }
def AddrFixedSaid : Prop := addrFixedRow.holds Tryd.pinned (OpenSpec.ofChange addrFixedSpec)

/-- ITS FALSE NEIGHBOUR: 'it returns false'. Refute it at one input. -/
def addrFixedWrong : ChangeSpec := { name := "addrFixed", fn := fun _ => fun
  | [d] => { results := [.lit (.bool false)], args := [d] }
  | _ => none }
def AddrFixedWrongFalsely : Prop := addrFixedRow.holds Tryd.pinned (OpenSpec.ofChange addrFixedWrong)

/-- 'pillarboxlaw05.AddrJoins': WHATEVER THE INPUT: true; the input reads as it did. -/
def addrJoinsSpec : ChangeSpec := { name := "addrJoins", fn := fun _ => fun
  | [d1, d2] => { results := [.lit (.bool true)], args := [d1, d2] }
  | _ => none }
def addrJoinsRow : OpenClaim := { program := "ythhhaacoiknbpaadoor", sum := "7667f85f671c4cef68d16ba4075237d822783b33ddcb1e6cdcfc24a6a51ceabe", func := "pillarbox/pillarboxlaw05.AddrJoins", spec := "addrJoins", inPlace := ["internal/bytealg.IndexByteString", "internal/bytealg.IndexString", "internal/bytealg.CountString", "internal/abi.NoEscape", "internal/bytealg.MakeNoZero"], unfollowed := true, recurses := true, named := ["internal/bytealg.MaxLen", "unicode/utf8.first", "unicode/utf8.acceptRanges", "unicode.CaseRanges"], apart := false, laid := [("unicode/utf8.acceptRanges", laid_unicode_utf8_acceptRanges), ("unicode.CaseRanges", laid_unicode_CaseRanges), ("unicode/utf8.first", laid_unicode_utf8_first)] }
def AddrJoinsSaid : Prop := addrJoinsRow.holds Tryd.pinned (OpenSpec.ofChange addrJoinsSpec)

/-- ITS FALSE NEIGHBOUR: 'it returns false'. Refute it at one input. -/
def addrJoinsWrong : ChangeSpec := { name := "addrJoins", fn := fun _ => fun
  | [d1, d2] => { results := [.lit (.bool false)], args := [d1, d2] }
  | _ => none }
def AddrJoinsWrongFalsely : Prop := addrJoinsRow.holds Tryd.pinned (OpenSpec.ofChange addrJoinsWrong)

/-- 'pillarboxlaw05.AddrCases': WHATEVER THE INPUT: true; the input reads as it did. -/
def addrCasesSpec : ChangeSpec := { name := "addrCases", fn := fun _ => fun
  | [d] => { results := [.lit (.bool true)], args := [d] }
  | _ => none }
def addrCasesRow : OpenClaim := { program := "ythhhaacoiknbpaadoor", sum := "7667f85f671c4cef68d16ba4075237d822783b33ddcb1e6cdcfc24a6a51ceabe", func := "pillarbox/pillarboxlaw05.AddrCases", spec := "addrCases", inPlace := ["internal/bytealg.IndexByteString", "internal/bytealg.IndexString", "internal/bytealg.CountString", "internal/abi.NoEscape", "internal/bytealg.MakeNoZero"], unfollowed := true, recurses := true, named := ["internal/bytealg.MaxLen", "unicode/utf8.first", "unicode/utf8.acceptRanges", "unicode.CaseRanges"], apart := false, laid := [("unicode/utf8.acceptRanges", laid_unicode_utf8_acceptRanges), ("unicode.CaseRanges", laid_unicode_CaseRanges), ("unicode/utf8.first", laid_unicode_utf8_first)] }
def AddrCasesSaid : Prop := addrCasesRow.holds Tryd.pinned (OpenSpec.ofChange addrCasesSpec)

/-- ITS FALSE NEIGHBOUR: 'it returns false'. Refute it at one input. -/
def addrCasesWrong : ChangeSpec := { name := "addrCases", fn := fun _ => fun
  | [d] => { results := [.lit (.bool false)], args := [d] }
  | _ => none }
def AddrCasesWrongFalsely : Prop := addrCasesRow.holds Tryd.pinned (OpenSpec.ofChange addrCasesWrong)

/-- 'pillarboxlaw05.AddrPaths': WHATEVER THE INPUT: true; the input reads as it did. -/
def addrPathsSpec : ChangeSpec := { name := "addrPaths", fn := fun _ => fun
  | [d] => { results := [.lit (.bool true)], args := [d] }
  | _ => none }
def addrPathsRow : OpenClaim := { program := "ythhhaacoiknbpaadoor", sum := "7667f85f671c4cef68d16ba4075237d822783b33ddcb1e6cdcfc24a6a51ceabe", func := "pillarbox/pillarboxlaw05.AddrPaths", spec := "addrPaths", inPlace := ["internal/bytealg.IndexByteString", "internal/bytealg.IndexString", "internal/bytealg.CountString", "internal/abi.NoEscape", "internal/bytealg.MakeNoZero"], unfollowed := true, recurses := true, named := ["internal/bytealg.MaxLen", "unicode/utf8.first", "unicode/utf8.acceptRanges", "unicode.CaseRanges"], apart := false, laid := [("unicode/utf8.acceptRanges", laid_unicode_utf8_acceptRanges), ("unicode.CaseRanges", laid_unicode_CaseRanges), ("unicode/utf8.first", laid_unicode_utf8_first)] }
def AddrPathsSaid : Prop := addrPathsRow.holds Tryd.pinned (OpenSpec.ofChange addrPathsSpec)

/-- ITS FALSE NEIGHBOUR: 'it returns false'. Refute it at one input. -/
def addrPathsWrong : ChangeSpec := { name := "addrPaths", fn := fun _ => fun
  | [d] => { results := [.lit (.bool false)], args := [d] }
  | _ => none }
def AddrPathsWrongFalsely : Prop := addrPathsRow.holds Tryd.pinned (OpenSpec.ofChange addrPathsWrong)

/- THE SECOND FORM. 'bulk': how many values and letters a reading holds, each counted each time it is reached (what is shared counts as often as it is met; a slice's spare places count too). A statement '..UptoSaid' is the law's where the arguments, and the package variables that the reading takes, are together of bulk at most 1048576: NARROWER than '..Said'. Prove '..Said' where nothing that the law and all that it calls make is longer than what came in: it says more and counts as full. Else prove '..UptoSaid'. A law counts once. -/
mutual
def uptoBulk {H : Type} : DataW H → Nat
  | .lit (.string bytes) => bytes.length + 1
  | .lit _ => 1
  | .nil => 1
  | .ptr d => uptoBulk d + 1
  | .slice elems spare => uptoBulkAll elems + uptoBulkAll spare + 1
  | .agg parts => uptoBulkAll parts + 1
  | .iface _ d => uptoBulk d + 1
  | .map entries => uptoBulkEntries entries + 1
  | .held _ => 1
def uptoBulkAll {H : Type} : List (DataW H) → Nat
  | [] => 0
  | d :: r => uptoBulk d + uptoBulkAll r
def uptoBulkEntries {H : Type} : List (Lit × DataW H) → Nat
  | [] => 0
  | x :: r => uptoBulkEntry x + uptoBulkEntries r
def uptoBulkEntry {H : Type} : Lit × DataW H → Nat
  | (.string bytes, d) => bytes.length + uptoBulk d + 1
  | (_, d) => uptoBulk d + 1
 end
def uptoSmall : (H : Type) → List (DataW H) → Bool := fun _ ds => decide (uptoBulkAll ds ≤ 1048576)
def OpenSpec.upto (s : _root_.Go.ChangeSpec) : _root_.Go.OpenSpec := { _root_.Go.OpenSpec.ofChange s with cond := some uptoSmall }

/-- 'pillarboxlaw05.AddrParses', WHERE WHAT IT READS IS OF BULK AT MOST 1048576: true; the input reads as it did. -/
def addrParsesUptoRow : OpenClaim := { program := "ythhhaacoiknbpaadoor", sum := "7667f85f671c4cef68d16ba4075237d822783b33ddcb1e6cdcfc24a6a51ceabe", func := "pillarbox/pillarboxlaw05.AddrParses", spec := "addrParses", inPlace := ["internal/bytealg.IndexByteString", "internal/bytealg.IndexString", "internal/bytealg.CountString", "internal/abi.NoEscape", "internal/bytealg.MakeNoZero"], unfollowed := true, recurses := true, named := ["internal/bytealg.MaxLen", "unicode/utf8.first", "unicode/utf8.acceptRanges", "unicode.CaseRanges"], apart := false, laid := [("unicode/utf8.acceptRanges", laid_unicode_utf8_acceptRanges), ("unicode.CaseRanges", laid_unicode_CaseRanges), ("unicode/utf8.first", laid_unicode_utf8_first)], narrowed := true }
def AddrParsesUptoSaid : Prop := addrParsesUptoRow.holds Tryd.pinned (OpenSpec.upto addrParsesSpec)

/-- 'pillarboxlaw05.AddrFixed', WHERE WHAT IT READS IS OF BULK AT MOST 1048576: true; the input reads as it did. -/
def addrFixedUptoRow : OpenClaim := { program := "ythhhaacoiknbpaadoor", sum := "7667f85f671c4cef68d16ba4075237d822783b33ddcb1e6cdcfc24a6a51ceabe", func := "pillarbox/pillarboxlaw05.AddrFixed", spec := "addrFixed", inPlace := ["internal/bytealg.IndexByteString", "internal/bytealg.IndexString", "internal/bytealg.CountString", "internal/abi.NoEscape", "internal/bytealg.MakeNoZero"], unfollowed := true, recurses := true, named := ["internal/bytealg.MaxLen", "unicode/utf8.first", "unicode/utf8.acceptRanges", "unicode.CaseRanges"], apart := false, laid := [("unicode/utf8.acceptRanges", laid_unicode_utf8_acceptRanges), ("unicode.CaseRanges", laid_unicode_CaseRanges), ("unicode/utf8.first", laid_unicode_utf8_first)], narrowed := true }
def AddrFixedUptoSaid : Prop := addrFixedUptoRow.holds Tryd.pinned (OpenSpec.upto addrFixedSpec)

/-- 'pillarboxlaw05.AddrJoins', WHERE WHAT IT READS IS OF BULK AT MOST 1048576: true; the input reads as it did. -/
def addrJoinsUptoRow : OpenClaim := { program := "ythhhaacoiknbpaadoor", sum := "7667f85f671c4cef68d16ba4075237d822783b33ddcb1e6cdcfc24a6a51ceabe", func := "pillarbox/pillarboxlaw05.AddrJoins", spec := "addrJoins", inPlace := ["internal/bytealg.IndexByteString", "internal/bytealg.IndexString", "internal/bytealg.CountString", "internal/abi.NoEscape", "internal/bytealg.MakeNoZero"], unfollowed := true, recurses := true, named := ["internal/bytealg.MaxLen", "unicode/utf8.first", "unicode/utf8.acceptRanges", "unicode.CaseRanges"], apart := false, laid := [("unicode/utf8.acceptRanges", laid_unicode_utf8_acceptRanges), ("unicode.CaseRanges", laid_unicode_CaseRanges), ("unicode/utf8.first", laid_unicode_utf8_first)], narrowed := true }
def AddrJoinsUptoSaid : Prop := addrJoinsUptoRow.holds Tryd.pinned (OpenSpec.upto addrJoinsSpec)

/-- 'pillarboxlaw05.AddrCases', WHERE WHAT IT READS IS OF BULK AT MOST 1048576: true; the input reads as it did. -/
def addrCasesUptoRow : OpenClaim := { program := "ythhhaacoiknbpaadoor", sum := "7667f85f671c4cef68d16ba4075237d822783b33ddcb1e6cdcfc24a6a51ceabe", func := "pillarbox/pillarboxlaw05.AddrCases", spec := "addrCases", inPlace := ["internal/bytealg.IndexByteString", "internal/bytealg.IndexString", "internal/bytealg.CountString", "internal/abi.NoEscape", "internal/bytealg.MakeNoZero"], unfollowed := true, recurses := true, named := ["internal/bytealg.MaxLen", "unicode/utf8.first", "unicode/utf8.acceptRanges", "unicode.CaseRanges"], apart := false, laid := [("unicode/utf8.acceptRanges", laid_unicode_utf8_acceptRanges), ("unicode.CaseRanges", laid_unicode_CaseRanges), ("unicode/utf8.first", laid_unicode_utf8_first)], narrowed := true }
def AddrCasesUptoSaid : Prop := addrCasesUptoRow.holds Tryd.pinned (OpenSpec.upto addrCasesSpec)

/-- 'pillarboxlaw05.AddrPaths', WHERE WHAT IT READS IS OF BULK AT MOST 1048576: true; the input reads as it did. -/
def addrPathsUptoRow : OpenClaim := { program := "ythhhaacoiknbpaadoor", sum := "7667f85f671c4cef68d16ba4075237d822783b33ddcb1e6cdcfc24a6a51ceabe", func := "pillarbox/pillarboxlaw05.AddrPaths", spec := "addrPaths", inPlace := ["internal/bytealg.IndexByteString", "internal/bytealg.IndexString", "internal/bytealg.CountString", "internal/abi.NoEscape", "internal/bytealg.MakeNoZero"], unfollowed := true, recurses := true, named := ["internal/bytealg.MaxLen", "unicode/utf8.first", "unicode/utf8.acceptRanges", "unicode.CaseRanges"], apart := false, laid := [("unicode/utf8.acceptRanges", laid_unicode_utf8_acceptRanges), ("unicode.CaseRanges", laid_unicode_CaseRanges), ("unicode/utf8.first", laid_unicode_utf8_first)], narrowed := true }
def AddrPathsUptoSaid : Prop := addrPathsUptoRow.holds Tryd.pinned (OpenSpec.upto addrPathsSpec)

end Rows
end Go.Proofs.YthhhaacoiknbpaaDoor
