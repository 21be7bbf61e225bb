/-
  DERIVED. GIVEN WITH THE SEED: THE CARDS: each row of YtclhelpcjgmpmaaGreatDoorRows.lean that lists a variable, with what it lists TIED to the program's text (the seventh form; the later family's looks); each row that meets fmt, with fmt's text TOLD by the authors' own Lean function (tested against real Go, not proved from fmt's source: count such statements apart). THE CARD IS WHAT COUNTS. Prove the row's statement (the work); the ties are given (YtclhelpcjgmpmaaGreatDoorTie.lean); close each card by the builder's one call (the guide's Derived/Test/ToyasCard.lean, 'card_holds'). Laid BY PROGRAM, IN A SANDBOX (cutbox-door.mjs). By AI agents, Wed Nov 11 2026. No macro, syntax, notation, axiom, sorry.
-/
import Derived.Test.YtclhelpcjgmpmaaGreatDoorRows
import GoSem.ClaimSeven
namespace Go.Proofs.YtclhelpcjgmpmaaGreatDoor
namespace Rows

/-- THE TIED CARD OF 'pillarboxlaw13.IdsNames'. -/
def idsNamesCard : Claim7 := { stood := { row := idsNamesRow, standIns := [], harness := (true, "00dfaccd93f44d7201bcb96705abc893f03f81cdf1933a31618c47e0ae3909da"), looks := true }, kinds := [], alts := [], laidByText := true, laidKinds := [.data, .data, .data, .sentinel, .sentinel], laidTests := true, laidLooks := .later }
def IdsNamesCardSaid : Prop := Claim7.holds Tryz.pinned (.plain (OpenSpec.ofChange idsNamesSpec)) idsNamesCard

/-- THE TIED CARD OF 'pillarboxlaw13.IdsRow'. -/
def idsRowCard : Claim7 := { stood := { row := idsRowRow, standIns := [], harness := (true, "00dfaccd93f44d7201bcb96705abc893f03f81cdf1933a31618c47e0ae3909da"), looks := true }, kinds := [], alts := [], laidByText := true, laidKinds := [.data, .data, .data, .sentinel, .sentinel], laidTests := true, laidLooks := .later }
def IdsRowCardSaid : Prop := Claim7.holds Tryz.pinned (.plain (OpenSpec.ofChange idsRowSpec)) idsRowCard

/-- THE TIED CARD OF 'pillarboxlaw13.IdsOthers'. -/
def idsOthersCard : Claim7 := { stood := { row := idsOthersRow, standIns := [], harness := (true, "00dfaccd93f44d7201bcb96705abc893f03f81cdf1933a31618c47e0ae3909da"), looks := true }, kinds := [], alts := [], laidByText := true, laidKinds := [.data, .data, .data, .sentinel, .sentinel], laidTests := true, laidLooks := .later }
def IdsOthersCardSaid : Prop := Claim7.holds Tryz.pinned (.plain (OpenSpec.ofChange idsOthersSpec)) idsOthersCard

/-- THE TIED CARD OF 'pillarboxlaw13.IdsNone'. -/
def idsNoneCard : Claim7 := { stood := { row := idsNoneRow, standIns := [], harness := (true, "00dfaccd93f44d7201bcb96705abc893f03f81cdf1933a31618c47e0ae3909da"), looks := true }, kinds := [], alts := [], laidByText := true, laidKinds := [.data, .data, .data, .sentinel, .sentinel], laidTests := true, laidLooks := .later }
def IdsNoneCardSaid : Prop := Claim7.holds Tryz.pinned (.plain (OpenSpec.ofChange idsNoneSpec)) idsNoneCard

/-- THE TIED CARD OF 'pillarboxlaw13.IdsNever'. -/
def idsNeverCard : Claim7 := { stood := { row := idsNeverRow, standIns := [], harness := (true, "00dfaccd93f44d7201bcb96705abc893f03f81cdf1933a31618c47e0ae3909da"), looks := true }, kinds := [], alts := [], laidByText := true, laidKinds := [.data, .data, .data, .sentinel, .sentinel], laidTests := true, laidLooks := .later }
def IdsNeverCardSaid : Prop := Claim7.holds Tryz.pinned (.plain (OpenSpec.ofChange idsNeverSpec)) idsNeverCard

/-- THE SECOND FORM's CARD OF 'pillarboxlaw13.IdsNames'. -/
def idsNamesUptoCard : Claim7 := { stood := { row := idsNamesUptoRow, standIns := [], harness := (true, "00dfaccd93f44d7201bcb96705abc893f03f81cdf1933a31618c47e0ae3909da"), looks := true }, kinds := [], alts := [], laidByText := true, laidKinds := [.data, .data, .data, .sentinel, .sentinel], laidTests := true, laidLooks := .later }
def IdsNamesUptoCardSaid : Prop := Claim7.holds Tryz.pinned (.plain (OpenSpec.upto idsNamesSpec)) idsNamesUptoCard

/-- THE SECOND FORM's CARD OF 'pillarboxlaw13.IdsRow'. -/
def idsRowUptoCard : Claim7 := { stood := { row := idsRowUptoRow, standIns := [], harness := (true, "00dfaccd93f44d7201bcb96705abc893f03f81cdf1933a31618c47e0ae3909da"), looks := true }, kinds := [], alts := [], laidByText := true, laidKinds := [.data, .data, .data, .sentinel, .sentinel], laidTests := true, laidLooks := .later }
def IdsRowUptoCardSaid : Prop := Claim7.holds Tryz.pinned (.plain (OpenSpec.upto idsRowSpec)) idsRowUptoCard

/-- THE SECOND FORM's CARD OF 'pillarboxlaw13.IdsOthers'. -/
def idsOthersUptoCard : Claim7 := { stood := { row := idsOthersUptoRow, standIns := [], harness := (true, "00dfaccd93f44d7201bcb96705abc893f03f81cdf1933a31618c47e0ae3909da"), looks := true }, kinds := [], alts := [], laidByText := true, laidKinds := [.data, .data, .data, .sentinel, .sentinel], laidTests := true, laidLooks := .later }
def IdsOthersUptoCardSaid : Prop := Claim7.holds Tryz.pinned (.plain (OpenSpec.upto idsOthersSpec)) idsOthersUptoCard

/-- THE SECOND FORM's CARD OF 'pillarboxlaw13.IdsNone'. -/
def idsNoneUptoCard : Claim7 := { stood := { row := idsNoneUptoRow, standIns := [], harness := (true, "00dfaccd93f44d7201bcb96705abc893f03f81cdf1933a31618c47e0ae3909da"), looks := true }, kinds := [], alts := [], laidByText := true, laidKinds := [.data, .data, .data, .sentinel, .sentinel], laidTests := true, laidLooks := .later }
def IdsNoneUptoCardSaid : Prop := Claim7.holds Tryz.pinned (.plain (OpenSpec.upto idsNoneSpec)) idsNoneUptoCard

/-- THE SECOND FORM's CARD OF 'pillarboxlaw13.IdsNever'. -/
def idsNeverUptoCard : Claim7 := { stood := { row := idsNeverUptoRow, standIns := [], harness := (true, "00dfaccd93f44d7201bcb96705abc893f03f81cdf1933a31618c47e0ae3909da"), looks := true }, kinds := [], alts := [], laidByText := true, laidKinds := [.data, .data, .data, .sentinel, .sentinel], laidTests := true, laidLooks := .later }
def IdsNeverUptoCardSaid : Prop := Claim7.holds Tryz.pinned (.plain (OpenSpec.upto idsNeverSpec)) idsNeverUptoCard
end Rows
end Go.Proofs.YtclhelpcjgmpmaaGreatDoor
