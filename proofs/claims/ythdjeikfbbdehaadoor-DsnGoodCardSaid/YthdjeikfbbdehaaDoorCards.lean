/-
  DERIVED. GIVEN WITH THE SEED: THE CARDS: each row of YthdjeikfbbdehaaDoorRows.lean that lists a variable, with what it lists TIED to the program's text (the seventh form; the later family's looks); each row that meets fmt, with fmt's text TOLD by the authors' own Lean function (tested against real Go, not proved from fmt's source: count such statements apart). THE CARD IS WHAT COUNTS. Prove the row's statement (the work); the ties are given (YthdjeikfbbdehaaDoorTie.lean); close each card by the builder's one call (the guide's Derived/Test/ToyasCard.lean, 'card_holds'). Laid BY PROGRAM, IN A SANDBOX (cutbox-door.mjs). By AI agents, Wed Nov 11 2026. No macro, syntax, notation, axiom, sorry.
-/
import Derived.Test.YthdjeikfbbdehaaDoorRows
import GoSem.ClaimSeven
namespace Go.Proofs.YthdjeikfbbdehaaDoor
namespace Rows

/-- THE TIED CARD OF 'pillarboxlaw06.LineNext'. -/
def lineNextCard : Claim7 := { stood := { row := lineNextRow, standIns := [], harness := (true, "0ec14f2a173748532d2c75fa60d043ce6294b5d6394d7b2fa34df5e5d228f6c0"), looks := false }, kinds := [], alts := [], laidByText := true, laidKinds := [.widerDeep], laidTests := true, laidLooks := .later }
def LineNextCardSaid : Prop := Claim7.holds Tryd.pinned (.plain (OpenSpec.ofChange lineNextSpec)) lineNextCard

/-- THE TIED CARD OF 'pillarboxlaw06.LineParts'. -/
def linePartsCard : Claim7 := { stood := { row := linePartsRow, standIns := [], harness := (true, "0ec14f2a173748532d2c75fa60d043ce6294b5d6394d7b2fa34df5e5d228f6c0"), looks := false }, kinds := [], alts := [], laidByText := true, laidKinds := [.widerDeep], laidTests := true, laidLooks := .later }
def LinePartsCardSaid : Prop := Claim7.holds Tryd.pinned (.plain (OpenSpec.ofChange linePartsSpec)) linePartsCard

/-- THE TIED CARD OF 'pillarboxlaw06.LineNone'. -/
def lineNoneCard : Claim7 := { stood := { row := lineNoneRow, standIns := [], harness := (true, "0ec14f2a173748532d2c75fa60d043ce6294b5d6394d7b2fa34df5e5d228f6c0"), looks := false }, kinds := [], alts := [], laidByText := true, laidKinds := [.widerDeep], laidTests := true, laidLooks := .later }
def LineNoneCardSaid : Prop := Claim7.holds Tryd.pinned (.plain (OpenSpec.ofChange lineNoneSpec)) lineNoneCard

/-- THE TIED CARD OF 'pillarboxlaw06.LineOne'. -/
def lineOneCard : Claim7 := { stood := { row := lineOneRow, standIns := [], harness := (true, "0ec14f2a173748532d2c75fa60d043ce6294b5d6394d7b2fa34df5e5d228f6c0"), looks := false }, kinds := [], alts := [], laidByText := true, laidKinds := [.widerDeep], laidTests := true, laidLooks := .later }
def LineOneCardSaid : Prop := Claim7.holds Tryd.pinned (.plain (OpenSpec.ofChange lineOneSpec)) lineOneCard

/-- THE TIED CARD OF 'pillarboxlaw23.DsnMakes'. -/
def dsnMakesCard : Claim7 := { stood := { row := dsnMakesRow, standIns := [], harness := (true, "0ec14f2a173748532d2c75fa60d043ce6294b5d6394d7b2fa34df5e5d228f6c0"), looks := false }, kinds := [], alts := [], laidByText := true, laidKinds := [.data, .data, .data], laidTests := true, laidLooks := .later }
def DsnMakesCardSaid : Prop := Claim7.holds Tryd.pinned (.plain (OpenSpec.ofChange dsnMakesSpec)) dsnMakesCard

/-- THE TIED CARD OF 'pillarboxlaw23.DsnGood'. -/
def dsnGoodCard : Claim7 := { stood := { row := dsnGoodRow, standIns := [], harness := (true, "0ec14f2a173748532d2c75fa60d043ce6294b5d6394d7b2fa34df5e5d228f6c0"), looks := false }, kinds := [], alts := [], laidByText := true, laidKinds := [.data, .data, .data], laidTests := true, laidLooks := .later }
def DsnGoodCardSaid : Prop := Claim7.holds Tryd.pinned (.plain (OpenSpec.ofChange dsnGoodSpec)) dsnGoodCard

/-- THE SECOND FORM's CARD OF 'pillarboxlaw06.LineNext'. -/
def lineNextUptoCard : Claim7 := { stood := { row := lineNextUptoRow, standIns := [], harness := (true, "0ec14f2a173748532d2c75fa60d043ce6294b5d6394d7b2fa34df5e5d228f6c0"), looks := false }, kinds := [], alts := [], laidByText := true, laidKinds := [.widerDeep], laidTests := true, laidLooks := .later }
def LineNextUptoCardSaid : Prop := Claim7.holds Tryd.pinned (.plain (OpenSpec.upto lineNextSpec)) lineNextUptoCard

/-- THE SECOND FORM's CARD OF 'pillarboxlaw06.LineParts'. -/
def linePartsUptoCard : Claim7 := { stood := { row := linePartsUptoRow, standIns := [], harness := (true, "0ec14f2a173748532d2c75fa60d043ce6294b5d6394d7b2fa34df5e5d228f6c0"), looks := false }, kinds := [], alts := [], laidByText := true, laidKinds := [.widerDeep], laidTests := true, laidLooks := .later }
def LinePartsUptoCardSaid : Prop := Claim7.holds Tryd.pinned (.plain (OpenSpec.upto linePartsSpec)) linePartsUptoCard

/-- THE SECOND FORM's CARD OF 'pillarboxlaw06.LineNone'. -/
def lineNoneUptoCard : Claim7 := { stood := { row := lineNoneUptoRow, standIns := [], harness := (true, "0ec14f2a173748532d2c75fa60d043ce6294b5d6394d7b2fa34df5e5d228f6c0"), looks := false }, kinds := [], alts := [], laidByText := true, laidKinds := [.widerDeep], laidTests := true, laidLooks := .later }
def LineNoneUptoCardSaid : Prop := Claim7.holds Tryd.pinned (.plain (OpenSpec.upto lineNoneSpec)) lineNoneUptoCard

/-- THE SECOND FORM's CARD OF 'pillarboxlaw06.LineOne'. -/
def lineOneUptoCard : Claim7 := { stood := { row := lineOneUptoRow, standIns := [], harness := (true, "0ec14f2a173748532d2c75fa60d043ce6294b5d6394d7b2fa34df5e5d228f6c0"), looks := false }, kinds := [], alts := [], laidByText := true, laidKinds := [.widerDeep], laidTests := true, laidLooks := .later }
def LineOneUptoCardSaid : Prop := Claim7.holds Tryd.pinned (.plain (OpenSpec.upto lineOneSpec)) lineOneUptoCard

/-- THE SECOND FORM's CARD OF 'pillarboxlaw23.DsnMakes'. -/
def dsnMakesUptoCard : Claim7 := { stood := { row := dsnMakesUptoRow, standIns := [], harness := (true, "0ec14f2a173748532d2c75fa60d043ce6294b5d6394d7b2fa34df5e5d228f6c0"), looks := false }, kinds := [], alts := [], laidByText := true, laidKinds := [.data, .data, .data], laidTests := true, laidLooks := .later }
def DsnMakesUptoCardSaid : Prop := Claim7.holds Tryd.pinned (.plain (OpenSpec.upto dsnMakesSpec)) dsnMakesUptoCard

/-- THE SECOND FORM's CARD OF 'pillarboxlaw23.DsnGood'. -/
def dsnGoodUptoCard : Claim7 := { stood := { row := dsnGoodUptoRow, standIns := [], harness := (true, "0ec14f2a173748532d2c75fa60d043ce6294b5d6394d7b2fa34df5e5d228f6c0"), looks := false }, kinds := [], alts := [], laidByText := true, laidKinds := [.data, .data, .data], laidTests := true, laidLooks := .later }
def DsnGoodUptoCardSaid : Prop := Claim7.holds Tryd.pinned (.plain (OpenSpec.upto dsnGoodSpec)) dsnGoodUptoCard
end Rows
end Go.Proofs.YthdjeikfbbdehaaDoor
