/-
  DERIVED. GIVEN WITH THE SEED: THE CARDS: each row of YtdhfjaekhibaaaaDoorRows.lean that lists a variable, with what it lists TIED to the program's text (the seventh form; the later family's looks); each row that meets fmt, with fmt's text TOLD by the authors' own Lean function (tested against real Go, not proved from fmt's source: count such statements apart). THE CARD IS WHAT COUNTS. Prove the row's statement (the work); the ties are given (YtdhfjaekhibaaaaDoorTie.lean); close each card by the builder's one call (the guide's Derived/Test/ToyasCard.lean, 'card_holds'). Laid BY PROGRAM, IN A SANDBOX (cutbox-door.mjs). By AI agents, Wed Nov 11 2026. No macro, syntax, notation, axiom, sorry.
-/
import Derived.Test.YtdhfjaekhibaaaaDoorRows
import GoSem.ClaimSeven
namespace Go.Proofs.YtdhfjaekhibaaaaDoor
namespace Rows

/-- THE TIED CARD OF 'plaitlaw2.SexpParse'. -/
def sexpParseCard : Claim7 := { stood := { row := sexpParseRow, standIns := [], harness := (true, "dba8753287c15b3f193015f965e056d23f8f559edab030cf80aa6a873d6756cb"), looks := true }, kinds := [], alts := [], laidByText := true, laidKinds := [.handle], laidTests := true, laidLooks := .later }
def SexpParseCardSaid : Prop := Claim7.holds Tryd.pinned (.plain (OpenSpec.ofChange sexpParseSpec)) sexpParseCard

/-- THE TIED CARD OF 'plaitlaw2.SexpPrint'. -/
def sexpPrintCard : Claim7 := { stood := { row := sexpPrintRow, standIns := [], harness := (true, "dba8753287c15b3f193015f965e056d23f8f559edab030cf80aa6a873d6756cb"), looks := true }, kinds := [], alts := [], laidByText := true, laidKinds := [.handle], laidTests := true, laidLooks := .later }
def SexpPrintCardSaid : Prop := Claim7.holds Tryd.pinned (.plain (OpenSpec.ofChange sexpPrintSpec)) sexpPrintCard

/-- THE TIED CARD OF 'plaitlaw2.SexpBack'. -/
def sexpBackCard : Claim7 := { stood := { row := sexpBackRow, standIns := [], harness := (true, "dba8753287c15b3f193015f965e056d23f8f559edab030cf80aa6a873d6756cb"), looks := true }, kinds := [], alts := [], laidByText := true, laidKinds := [.handle], laidTests := true, laidLooks := .later }
def SexpBackCardSaid : Prop := Claim7.holds Tryd.pinned (.plain (OpenSpec.ofChange sexpBackSpec)) sexpBackCard

/-- THE TIED CARD OF 'plaitlaw2.SexpBlanks'. -/
def sexpBlanksCard : Claim7 := { stood := { row := sexpBlanksRow, standIns := [], harness := (true, "dba8753287c15b3f193015f965e056d23f8f559edab030cf80aa6a873d6756cb"), looks := true }, kinds := [], alts := [], laidByText := true, laidKinds := [.handle], laidTests := true, laidLooks := .later }
def SexpBlanksCardSaid : Prop := Claim7.holds Tryd.pinned (.plain (OpenSpec.ofChange sexpBlanksSpec)) sexpBlanksCard

/-- THE TIED CARD OF 'plaitlaw2.SexpDepth'. -/
def sexpDepthCard : Claim7 := { stood := { row := sexpDepthRow, standIns := [], harness := (true, "dba8753287c15b3f193015f965e056d23f8f559edab030cf80aa6a873d6756cb"), looks := true }, kinds := [], alts := [], laidByText := true, laidKinds := [.handle], laidTests := true, laidLooks := .later }
def SexpDepthCardSaid : Prop := Claim7.holds Tryd.pinned (.plain (OpenSpec.ofChange sexpDepthSpec)) sexpDepthCard

/-- THE TIED CARD OF 'plaitlaw2.SexpPrefix'. -/
def sexpPrefixCard : Claim7 := { stood := { row := sexpPrefixRow, standIns := [], harness := (true, "dba8753287c15b3f193015f965e056d23f8f559edab030cf80aa6a873d6756cb"), looks := true }, kinds := [], alts := [], laidByText := true, laidKinds := [.handle], laidTests := true, laidLooks := .later }
def SexpPrefixCardSaid : Prop := Claim7.holds Tryd.pinned (.plain (OpenSpec.ofChange sexpPrefixSpec)) sexpPrefixCard

/-- THE SECOND FORM's CARD OF 'plaitlaw2.SexpParse'. -/
def sexpParseUptoCard : Claim7 := { stood := { row := sexpParseUptoRow, standIns := [], harness := (true, "dba8753287c15b3f193015f965e056d23f8f559edab030cf80aa6a873d6756cb"), looks := true }, kinds := [], alts := [], laidByText := true, laidKinds := [.handle], laidTests := true, laidLooks := .later }
def SexpParseUptoCardSaid : Prop := Claim7.holds Tryd.pinned (.plain (OpenSpec.upto sexpParseSpec)) sexpParseUptoCard

/-- THE SECOND FORM's CARD OF 'plaitlaw2.SexpPrint'. -/
def sexpPrintUptoCard : Claim7 := { stood := { row := sexpPrintUptoRow, standIns := [], harness := (true, "dba8753287c15b3f193015f965e056d23f8f559edab030cf80aa6a873d6756cb"), looks := true }, kinds := [], alts := [], laidByText := true, laidKinds := [.handle], laidTests := true, laidLooks := .later }
def SexpPrintUptoCardSaid : Prop := Claim7.holds Tryd.pinned (.plain (OpenSpec.upto sexpPrintSpec)) sexpPrintUptoCard

/-- THE SECOND FORM's CARD OF 'plaitlaw2.SexpBack'. -/
def sexpBackUptoCard : Claim7 := { stood := { row := sexpBackUptoRow, standIns := [], harness := (true, "dba8753287c15b3f193015f965e056d23f8f559edab030cf80aa6a873d6756cb"), looks := true }, kinds := [], alts := [], laidByText := true, laidKinds := [.handle], laidTests := true, laidLooks := .later }
def SexpBackUptoCardSaid : Prop := Claim7.holds Tryd.pinned (.plain (OpenSpec.upto sexpBackSpec)) sexpBackUptoCard

/-- THE SECOND FORM's CARD OF 'plaitlaw2.SexpBlanks'. -/
def sexpBlanksUptoCard : Claim7 := { stood := { row := sexpBlanksUptoRow, standIns := [], harness := (true, "dba8753287c15b3f193015f965e056d23f8f559edab030cf80aa6a873d6756cb"), looks := true }, kinds := [], alts := [], laidByText := true, laidKinds := [.handle], laidTests := true, laidLooks := .later }
def SexpBlanksUptoCardSaid : Prop := Claim7.holds Tryd.pinned (.plain (OpenSpec.upto sexpBlanksSpec)) sexpBlanksUptoCard

/-- THE SECOND FORM's CARD OF 'plaitlaw2.SexpDepth'. -/
def sexpDepthUptoCard : Claim7 := { stood := { row := sexpDepthUptoRow, standIns := [], harness := (true, "dba8753287c15b3f193015f965e056d23f8f559edab030cf80aa6a873d6756cb"), looks := true }, kinds := [], alts := [], laidByText := true, laidKinds := [.handle], laidTests := true, laidLooks := .later }
def SexpDepthUptoCardSaid : Prop := Claim7.holds Tryd.pinned (.plain (OpenSpec.upto sexpDepthSpec)) sexpDepthUptoCard

/-- THE SECOND FORM's CARD OF 'plaitlaw2.SexpPrefix'. -/
def sexpPrefixUptoCard : Claim7 := { stood := { row := sexpPrefixUptoRow, standIns := [], harness := (true, "dba8753287c15b3f193015f965e056d23f8f559edab030cf80aa6a873d6756cb"), looks := true }, kinds := [], alts := [], laidByText := true, laidKinds := [.handle], laidTests := true, laidLooks := .later }
def SexpPrefixUptoCardSaid : Prop := Claim7.holds Tryd.pinned (.plain (OpenSpec.upto sexpPrefixSpec)) sexpPrefixUptoCard
end Rows
end Go.Proofs.YtdhfjaekhibaaaaDoor
