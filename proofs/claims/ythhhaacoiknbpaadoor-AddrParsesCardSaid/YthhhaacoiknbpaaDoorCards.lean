/-
  DERIVED. GIVEN WITH THE SEED: THE CARDS: each row of YthhhaacoiknbpaaDoorRows.lean that lists a variable, with what it lists TIED to the program's text (the seventh form; the later family's looks); each row that meets fmt, with fmt's text TOLD by the authors' own Lean function (tested against real Go, not proved from fmt's source: count such statements apart). THE CARD IS WHAT COUNTS. Prove the row's statement (the work); the ties are given (YthhhaacoiknbpaaDoorTie.lean); close each card by the builder's one call (the guide's Derived/Test/ToyasCard.lean, 'card_holds'). Laid BY PROGRAM, IN A SANDBOX (cutbox-door.mjs). By AI agents, Wed Nov 11 2026. No macro, syntax, notation, axiom, sorry.
-/
import Derived.Test.YthhhaacoiknbpaaDoorRows
import GoSem.ClaimSeven
namespace Go.Proofs.YthhhaacoiknbpaaDoor
namespace Rows

/-- THE TIED CARD OF 'pillarboxlaw05.AddrParses'. -/
def addrParsesCard : Claim7 := { stood := { row := addrParsesRow, standIns := [], harness := (true, "ffb3fc19c9fce7a0b47bc3bbc03cbcfecaff169aaef20c5db47768a65c810f2c"), looks := false }, kinds := [], alts := [], laidByText := true, laidKinds := [.data, .pinned, .pinned], laidTests := true, laidLooks := .later }
def AddrParsesCardSaid : Prop := Claim7.holds Tryd.pinned (.plain (OpenSpec.ofChange addrParsesSpec)) addrParsesCard

/-- THE TIED CARD OF 'pillarboxlaw05.AddrFixed'. -/
def addrFixedCard : Claim7 := { stood := { row := addrFixedRow, standIns := [], harness := (true, "ffb3fc19c9fce7a0b47bc3bbc03cbcfecaff169aaef20c5db47768a65c810f2c"), looks := false }, kinds := [], alts := [], laidByText := true, laidKinds := [.data, .pinned, .pinned], laidTests := true, laidLooks := .later }
def AddrFixedCardSaid : Prop := Claim7.holds Tryd.pinned (.plain (OpenSpec.ofChange addrFixedSpec)) addrFixedCard

/-- THE TIED CARD OF 'pillarboxlaw05.AddrJoins'. -/
def addrJoinsCard : Claim7 := { stood := { row := addrJoinsRow, standIns := [], harness := (true, "ffb3fc19c9fce7a0b47bc3bbc03cbcfecaff169aaef20c5db47768a65c810f2c"), looks := false }, kinds := [], alts := [], laidByText := true, laidKinds := [.data, .pinned, .pinned], laidTests := true, laidLooks := .later }
def AddrJoinsCardSaid : Prop := Claim7.holds Tryd.pinned (.plain (OpenSpec.ofChange addrJoinsSpec)) addrJoinsCard

/-- THE TIED CARD OF 'pillarboxlaw05.AddrCases'. -/
def addrCasesCard : Claim7 := { stood := { row := addrCasesRow, standIns := [], harness := (true, "ffb3fc19c9fce7a0b47bc3bbc03cbcfecaff169aaef20c5db47768a65c810f2c"), looks := false }, kinds := [], alts := [], laidByText := true, laidKinds := [.data, .pinned, .pinned], laidTests := true, laidLooks := .later }
def AddrCasesCardSaid : Prop := Claim7.holds Tryd.pinned (.plain (OpenSpec.ofChange addrCasesSpec)) addrCasesCard

/-- THE TIED CARD OF 'pillarboxlaw05.AddrPaths'. -/
def addrPathsCard : Claim7 := { stood := { row := addrPathsRow, standIns := [], harness := (true, "ffb3fc19c9fce7a0b47bc3bbc03cbcfecaff169aaef20c5db47768a65c810f2c"), looks := false }, kinds := [], alts := [], laidByText := true, laidKinds := [.data, .pinned, .pinned], laidTests := true, laidLooks := .later }
def AddrPathsCardSaid : Prop := Claim7.holds Tryd.pinned (.plain (OpenSpec.ofChange addrPathsSpec)) addrPathsCard

/-- THE SECOND FORM's CARD OF 'pillarboxlaw05.AddrParses'. -/
def addrParsesUptoCard : Claim7 := { stood := { row := addrParsesUptoRow, standIns := [], harness := (true, "ffb3fc19c9fce7a0b47bc3bbc03cbcfecaff169aaef20c5db47768a65c810f2c"), looks := false }, kinds := [], alts := [], laidByText := true, laidKinds := [.data, .pinned, .pinned], laidTests := true, laidLooks := .later }
def AddrParsesUptoCardSaid : Prop := Claim7.holds Tryd.pinned (.plain (OpenSpec.upto addrParsesSpec)) addrParsesUptoCard

/-- THE SECOND FORM's CARD OF 'pillarboxlaw05.AddrFixed'. -/
def addrFixedUptoCard : Claim7 := { stood := { row := addrFixedUptoRow, standIns := [], harness := (true, "ffb3fc19c9fce7a0b47bc3bbc03cbcfecaff169aaef20c5db47768a65c810f2c"), looks := false }, kinds := [], alts := [], laidByText := true, laidKinds := [.data, .pinned, .pinned], laidTests := true, laidLooks := .later }
def AddrFixedUptoCardSaid : Prop := Claim7.holds Tryd.pinned (.plain (OpenSpec.upto addrFixedSpec)) addrFixedUptoCard

/-- THE SECOND FORM's CARD OF 'pillarboxlaw05.AddrJoins'. -/
def addrJoinsUptoCard : Claim7 := { stood := { row := addrJoinsUptoRow, standIns := [], harness := (true, "ffb3fc19c9fce7a0b47bc3bbc03cbcfecaff169aaef20c5db47768a65c810f2c"), looks := false }, kinds := [], alts := [], laidByText := true, laidKinds := [.data, .pinned, .pinned], laidTests := true, laidLooks := .later }
def AddrJoinsUptoCardSaid : Prop := Claim7.holds Tryd.pinned (.plain (OpenSpec.upto addrJoinsSpec)) addrJoinsUptoCard

/-- THE SECOND FORM's CARD OF 'pillarboxlaw05.AddrCases'. -/
def addrCasesUptoCard : Claim7 := { stood := { row := addrCasesUptoRow, standIns := [], harness := (true, "ffb3fc19c9fce7a0b47bc3bbc03cbcfecaff169aaef20c5db47768a65c810f2c"), looks := false }, kinds := [], alts := [], laidByText := true, laidKinds := [.data, .pinned, .pinned], laidTests := true, laidLooks := .later }
def AddrCasesUptoCardSaid : Prop := Claim7.holds Tryd.pinned (.plain (OpenSpec.upto addrCasesSpec)) addrCasesUptoCard

/-- THE SECOND FORM's CARD OF 'pillarboxlaw05.AddrPaths'. -/
def addrPathsUptoCard : Claim7 := { stood := { row := addrPathsUptoRow, standIns := [], harness := (true, "ffb3fc19c9fce7a0b47bc3bbc03cbcfecaff169aaef20c5db47768a65c810f2c"), looks := false }, kinds := [], alts := [], laidByText := true, laidKinds := [.data, .pinned, .pinned], laidTests := true, laidLooks := .later }
def AddrPathsUptoCardSaid : Prop := Claim7.holds Tryd.pinned (.plain (OpenSpec.upto addrPathsSpec)) addrPathsUptoCard
end Rows
end Go.Proofs.YthhhaacoiknbpaaDoor
