/-
  DERIVED. GIVEN WITH THE SEED: THE CARDS: each row of YthhnhbpmpdminaaGreatDoorRows.lean that lists a variable, with what it lists TIED to the program's text (the seventh form; the later family's looks); each row that meets fmt, with fmt's text TOLD by the authors' own Lean function (tested against real Go, not proved from fmt's source: count such statements apart). THE CARD IS WHAT COUNTS. Prove the row's statement (the work); the ties are given (YthhnhbpmpdminaaGreatDoorTie.lean); close each card by the builder's one call (the guide's Derived/Test/ToyasCard.lean, 'card_holds'). Laid BY PROGRAM, IN A SANDBOX (cutbox-door.mjs). By AI agents, Wed Nov 11 2026. No macro, syntax, notation, axiom, sorry.
-/
import Derived.Test.YthhnhbpmpdminaaGreatDoorRows
import GoSem.ClaimSeven
namespace Go.Proofs.YthhnhbpmpdminaaGreatDoor
namespace Rows

/-- THE TIED CARD OF 'plaitlaw19.DimacsParse'. -/
def dimacsParseCard : Claim7 := { stood := { row := dimacsParseRow, standIns := [], harness := (true, "6fd15b69167aceba847cfc2b1fd3d633e9b2f182d600dd04e3c3551af8e5c480"), looks := true }, kinds := [], alts := [], laidByText := true, laidKinds := [.data, .data, .data, .data, .handle, .pinned], laidTests := true, laidLooks := .later }
def DimacsParseCardSaid : Prop := Claim7.holds Tryz.pinned (.plain (OpenSpec.ofChange dimacsParseSpec)) dimacsParseCard

/-- THE TIED CARD OF 'plaitlaw19.DimacsPrint'. -/
def dimacsPrintCard : Claim7 := { stood := { row := dimacsPrintRow, standIns := [], harness := (true, "6fd15b69167aceba847cfc2b1fd3d633e9b2f182d600dd04e3c3551af8e5c480"), looks := true }, kinds := [], alts := [], laidByText := true, laidKinds := [.data, .data, .data, .data, .handle, .pinned], laidTests := true, laidLooks := .later }
def DimacsPrintCardSaid : Prop := Claim7.holds Tryz.pinned (.plain (OpenSpec.ofChange dimacsPrintSpec)) dimacsPrintCard

/-- THE TIED CARD OF 'plaitlaw19.DimacsSolve'. -/
def dimacsSolveCard : Claim7 := { stood := { row := dimacsSolveRow, standIns := [], harness := (true, "6fd15b69167aceba847cfc2b1fd3d633e9b2f182d600dd04e3c3551af8e5c480"), looks := true }, kinds := [], alts := [], laidByText := true, laidKinds := [.data, .data, .data, .data, .handle, .pinned], laidTests := true, laidLooks := .later }
def DimacsSolveCardSaid : Prop := Claim7.holds Tryz.pinned (.plain (OpenSpec.ofChange dimacsSolveSpec)) dimacsSolveCard

/-- THE TIED CARD OF 'plaitlaw19.DimacsBlanks'. -/
def dimacsBlanksCard : Claim7 := { stood := { row := dimacsBlanksRow, standIns := [], harness := (true, "6fd15b69167aceba847cfc2b1fd3d633e9b2f182d600dd04e3c3551af8e5c480"), looks := true }, kinds := [], alts := [], laidByText := true, laidKinds := [.data, .data, .data, .data, .handle, .pinned], laidTests := true, laidLooks := .later }
def DimacsBlanksCardSaid : Prop := Claim7.holds Tryz.pinned (.plain (OpenSpec.ofChange dimacsBlanksSpec)) dimacsBlanksCard

/-- THE TIED CARD OF 'plaitlaw5.ReadNames'. -/
def readNamesCard : Claim7 := { stood := { row := readNamesRow, standIns := [], harness := (true, "6fd15b69167aceba847cfc2b1fd3d633e9b2f182d600dd04e3c3551af8e5c480"), looks := true }, kinds := [], alts := [], laidByText := true, laidKinds := [.data, .data, .data, .data, .sentinel, .sentinel, .pinned], laidTests := true, laidLooks := .later }
def ReadNamesCardSaid : Prop := Claim7.holds Tryz.pinned (.plain (OpenSpec.ofChange readNamesSpec)) readNamesCard

/-- THE TIED CARD OF 'plaitlaw5.ReadTwice'. -/
def readTwiceCard : Claim7 := { stood := { row := readTwiceRow, standIns := [], harness := (true, "6fd15b69167aceba847cfc2b1fd3d633e9b2f182d600dd04e3c3551af8e5c480"), looks := true }, kinds := [], alts := [], laidByText := true, laidKinds := [.data, .data, .data, .data, .sentinel, .sentinel, .pinned], laidTests := true, laidLooks := .later }
def ReadTwiceCardSaid : Prop := Claim7.holds Tryz.pinned (.plain (OpenSpec.ofChange readTwiceSpec)) readTwiceCard

/-- THE TIED CARD OF 'plaitlaw5.ReadMany'. -/
def readManyCard : Claim7 := { stood := { row := readManyRow, standIns := [], harness := (true, "6fd15b69167aceba847cfc2b1fd3d633e9b2f182d600dd04e3c3551af8e5c480"), looks := true }, kinds := [], alts := [], laidByText := true, laidKinds := [.data, .data, .data, .data, .sentinel, .sentinel, .pinned], laidTests := true, laidLooks := .later }
def ReadManyCardSaid : Prop := Claim7.holds Tryz.pinned (.plain (OpenSpec.ofChange readManySpec)) readManyCard

/-- THE TIED CARD OF 'plaitlaw5.ReadNumbers'. -/
def readNumbersCard : Claim7 := { stood := { row := readNumbersRow, standIns := [], harness := (true, "6fd15b69167aceba847cfc2b1fd3d633e9b2f182d600dd04e3c3551af8e5c480"), looks := true }, kinds := [], alts := [], laidByText := true, laidKinds := [.data, .data, .data, .data, .sentinel, .sentinel, .pinned], laidTests := true, laidLooks := .later }
def ReadNumbersCardSaid : Prop := Claim7.holds Tryz.pinned (.plain (OpenSpec.ofChange readNumbersSpec)) readNumbersCard

/-- THE TIED CARD OF 'plaitlaw5.ReadHides'. -/
def readHidesCard : Claim7 := { stood := { row := readHidesRow, standIns := [], harness := (true, "6fd15b69167aceba847cfc2b1fd3d633e9b2f182d600dd04e3c3551af8e5c480"), looks := true }, kinds := [], alts := [], laidByText := true, laidKinds := [.data, .data, .data, .data, .sentinel, .sentinel, .pinned], laidTests := true, laidLooks := .later }
def ReadHidesCardSaid : Prop := Claim7.holds Tryz.pinned (.plain (OpenSpec.ofChange readHidesSpec)) readHidesCard

/-- THE SECOND FORM's CARD OF 'plaitlaw19.DimacsParse'. -/
def dimacsParseUptoCard : Claim7 := { stood := { row := dimacsParseUptoRow, standIns := [], harness := (true, "6fd15b69167aceba847cfc2b1fd3d633e9b2f182d600dd04e3c3551af8e5c480"), looks := true }, kinds := [], alts := [], laidByText := true, laidKinds := [.data, .data, .data, .data, .handle, .pinned], laidTests := true, laidLooks := .later }
def DimacsParseUptoCardSaid : Prop := Claim7.holds Tryz.pinned (.plain (OpenSpec.upto dimacsParseSpec)) dimacsParseUptoCard

/-- THE SECOND FORM's CARD OF 'plaitlaw19.DimacsPrint'. -/
def dimacsPrintUptoCard : Claim7 := { stood := { row := dimacsPrintUptoRow, standIns := [], harness := (true, "6fd15b69167aceba847cfc2b1fd3d633e9b2f182d600dd04e3c3551af8e5c480"), looks := true }, kinds := [], alts := [], laidByText := true, laidKinds := [.data, .data, .data, .data, .handle, .pinned], laidTests := true, laidLooks := .later }
def DimacsPrintUptoCardSaid : Prop := Claim7.holds Tryz.pinned (.plain (OpenSpec.upto dimacsPrintSpec)) dimacsPrintUptoCard

/-- THE SECOND FORM's CARD OF 'plaitlaw19.DimacsSolve'. -/
def dimacsSolveUptoCard : Claim7 := { stood := { row := dimacsSolveUptoRow, standIns := [], harness := (true, "6fd15b69167aceba847cfc2b1fd3d633e9b2f182d600dd04e3c3551af8e5c480"), looks := true }, kinds := [], alts := [], laidByText := true, laidKinds := [.data, .data, .data, .data, .handle, .pinned], laidTests := true, laidLooks := .later }
def DimacsSolveUptoCardSaid : Prop := Claim7.holds Tryz.pinned (.plain (OpenSpec.upto dimacsSolveSpec)) dimacsSolveUptoCard

/-- THE SECOND FORM's CARD OF 'plaitlaw19.DimacsBlanks'. -/
def dimacsBlanksUptoCard : Claim7 := { stood := { row := dimacsBlanksUptoRow, standIns := [], harness := (true, "6fd15b69167aceba847cfc2b1fd3d633e9b2f182d600dd04e3c3551af8e5c480"), looks := true }, kinds := [], alts := [], laidByText := true, laidKinds := [.data, .data, .data, .data, .handle, .pinned], laidTests := true, laidLooks := .later }
def DimacsBlanksUptoCardSaid : Prop := Claim7.holds Tryz.pinned (.plain (OpenSpec.upto dimacsBlanksSpec)) dimacsBlanksUptoCard

/-- THE SECOND FORM's CARD OF 'plaitlaw5.ReadNames'. -/
def readNamesUptoCard : Claim7 := { stood := { row := readNamesUptoRow, standIns := [], harness := (true, "6fd15b69167aceba847cfc2b1fd3d633e9b2f182d600dd04e3c3551af8e5c480"), looks := true }, kinds := [], alts := [], laidByText := true, laidKinds := [.data, .data, .data, .data, .sentinel, .sentinel, .pinned], laidTests := true, laidLooks := .later }
def ReadNamesUptoCardSaid : Prop := Claim7.holds Tryz.pinned (.plain (OpenSpec.upto readNamesSpec)) readNamesUptoCard

/-- THE SECOND FORM's CARD OF 'plaitlaw5.ReadTwice'. -/
def readTwiceUptoCard : Claim7 := { stood := { row := readTwiceUptoRow, standIns := [], harness := (true, "6fd15b69167aceba847cfc2b1fd3d633e9b2f182d600dd04e3c3551af8e5c480"), looks := true }, kinds := [], alts := [], laidByText := true, laidKinds := [.data, .data, .data, .data, .sentinel, .sentinel, .pinned], laidTests := true, laidLooks := .later }
def ReadTwiceUptoCardSaid : Prop := Claim7.holds Tryz.pinned (.plain (OpenSpec.upto readTwiceSpec)) readTwiceUptoCard

/-- THE SECOND FORM's CARD OF 'plaitlaw5.ReadMany'. -/
def readManyUptoCard : Claim7 := { stood := { row := readManyUptoRow, standIns := [], harness := (true, "6fd15b69167aceba847cfc2b1fd3d633e9b2f182d600dd04e3c3551af8e5c480"), looks := true }, kinds := [], alts := [], laidByText := true, laidKinds := [.data, .data, .data, .data, .sentinel, .sentinel, .pinned], laidTests := true, laidLooks := .later }
def ReadManyUptoCardSaid : Prop := Claim7.holds Tryz.pinned (.plain (OpenSpec.upto readManySpec)) readManyUptoCard

/-- THE SECOND FORM's CARD OF 'plaitlaw5.ReadNumbers'. -/
def readNumbersUptoCard : Claim7 := { stood := { row := readNumbersUptoRow, standIns := [], harness := (true, "6fd15b69167aceba847cfc2b1fd3d633e9b2f182d600dd04e3c3551af8e5c480"), looks := true }, kinds := [], alts := [], laidByText := true, laidKinds := [.data, .data, .data, .data, .sentinel, .sentinel, .pinned], laidTests := true, laidLooks := .later }
def ReadNumbersUptoCardSaid : Prop := Claim7.holds Tryz.pinned (.plain (OpenSpec.upto readNumbersSpec)) readNumbersUptoCard

/-- THE SECOND FORM's CARD OF 'plaitlaw5.ReadHides'. -/
def readHidesUptoCard : Claim7 := { stood := { row := readHidesUptoRow, standIns := [], harness := (true, "6fd15b69167aceba847cfc2b1fd3d633e9b2f182d600dd04e3c3551af8e5c480"), looks := true }, kinds := [], alts := [], laidByText := true, laidKinds := [.data, .data, .data, .data, .sentinel, .sentinel, .pinned], laidTests := true, laidLooks := .later }
def ReadHidesUptoCardSaid : Prop := Claim7.holds Tryz.pinned (.plain (OpenSpec.upto readHidesSpec)) readHidesUptoCard
end Rows
end Go.Proofs.YthhnhbpmpdminaaGreatDoor
