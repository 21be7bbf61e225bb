/-
  DERIVED. GIVEN WITH THE SEED: THE CARDS: each row of YtilgfpljjjbgdaaGreatDoorRows.lean that lists a variable, with what it lists TIED to the program's text (the seventh form; the later family's looks); each row that meets fmt, with fmt's text TOLD by the authors' own Lean function (tested against real Go, not proved from fmt's source: count such statements apart). THE CARD IS WHAT COUNTS. Prove the row's statement (the work); the ties are given (YtilgfpljjjbgdaaGreatDoorTie.lean); close each card by the builder's one call (the guide's Derived/Test/ToyasCard.lean, 'card_holds'). Laid BY PROGRAM, IN A SANDBOX (cutbox-door.mjs). By AI agents, Wed Nov 11 2026. No macro, syntax, notation, axiom, sorry.
-/
import Derived.Test.YtilgfpljjjbgdaaGreatDoorRows
import GoSem.ClaimSeven
namespace Go.Proofs.YtilgfpljjjbgdaaGreatDoor
namespace Rows

/-- THE TIED CARD OF 'pillarboxlaw15.BoxQuota'. -/
def boxQuotaCard : Claim7 := { stood := { row := boxQuotaRow, standIns := [], harness := (true, "0149841175f89fd18b4fa4bd608762c0c9098e8fc25203052361fe8de0698d37"), looks := true }, kinds := [], alts := [], laidByText := true, laidKinds := [.data, .data, .data, .data, .sentinel, .sentinel, .pinned, .pinned], laidTests := true, laidLooks := .later }
def BoxQuotaCardSaid : Prop := Claim7.holds Tryz.pinned (.plain (OpenSpec.ofChange boxQuotaSpec)) boxQuotaCard

/-- THE TIED CARD OF 'pillarboxlaw15.BoxNames'. -/
def boxNamesCard : Claim7 := { stood := { row := boxNamesRow, standIns := [], harness := (true, "0149841175f89fd18b4fa4bd608762c0c9098e8fc25203052361fe8de0698d37"), looks := true }, kinds := [], alts := [], laidByText := true, laidKinds := [.data, .data, .data, .data, .sentinel, .sentinel, .pinned, .pinned], laidTests := true, laidLooks := .later }
def BoxNamesCardSaid : Prop := Claim7.holds Tryz.pinned (.plain (OpenSpec.ofChange boxNamesSpec)) boxNamesCard

/-- THE TIED CARD OF 'pillarboxlaw15.BoxNone'. -/
def boxNoneCard : Claim7 := { stood := { row := boxNoneRow, standIns := [], harness := (true, "0149841175f89fd18b4fa4bd608762c0c9098e8fc25203052361fe8de0698d37"), looks := true }, kinds := [], alts := [], laidByText := true, laidKinds := [.data, .data, .data, .data, .sentinel, .sentinel, .pinned, .pinned], laidTests := true, laidLooks := .later }
def BoxNoneCardSaid : Prop := Claim7.holds Tryz.pinned (.plain (OpenSpec.ofChange boxNoneSpec)) boxNoneCard

/-- THE SECOND FORM's CARD OF 'pillarboxlaw15.BoxQuota'. -/
def boxQuotaUptoCard : Claim7 := { stood := { row := boxQuotaUptoRow, standIns := [], harness := (true, "0149841175f89fd18b4fa4bd608762c0c9098e8fc25203052361fe8de0698d37"), looks := true }, kinds := [], alts := [], laidByText := true, laidKinds := [.data, .data, .data, .data, .sentinel, .sentinel, .pinned, .pinned], laidTests := true, laidLooks := .later }
def BoxQuotaUptoCardSaid : Prop := Claim7.holds Tryz.pinned (.plain (OpenSpec.upto boxQuotaSpec)) boxQuotaUptoCard

/-- THE SECOND FORM's CARD OF 'pillarboxlaw15.BoxNames'. -/
def boxNamesUptoCard : Claim7 := { stood := { row := boxNamesUptoRow, standIns := [], harness := (true, "0149841175f89fd18b4fa4bd608762c0c9098e8fc25203052361fe8de0698d37"), looks := true }, kinds := [], alts := [], laidByText := true, laidKinds := [.data, .data, .data, .data, .sentinel, .sentinel, .pinned, .pinned], laidTests := true, laidLooks := .later }
def BoxNamesUptoCardSaid : Prop := Claim7.holds Tryz.pinned (.plain (OpenSpec.upto boxNamesSpec)) boxNamesUptoCard

/-- THE SECOND FORM's CARD OF 'pillarboxlaw15.BoxNone'. -/
def boxNoneUptoCard : Claim7 := { stood := { row := boxNoneUptoRow, standIns := [], harness := (true, "0149841175f89fd18b4fa4bd608762c0c9098e8fc25203052361fe8de0698d37"), looks := true }, kinds := [], alts := [], laidByText := true, laidKinds := [.data, .data, .data, .data, .sentinel, .sentinel, .pinned, .pinned], laidTests := true, laidLooks := .later }
def BoxNoneUptoCardSaid : Prop := Claim7.holds Tryz.pinned (.plain (OpenSpec.upto boxNoneSpec)) boxNoneUptoCard
end Rows
end Go.Proofs.YtilgfpljjjbgdaaGreatDoor
