/-
  DERIVED. GIVEN WITH THE SEED: THE CARDS: each row of YtjopblbpnedjoaaGreatDoorRows.lean that lists a variable, with what it lists TIED to the program's text (the seventh form; the later family's looks); each row that meets fmt, with fmt's text TOLD by the authors' own Lean function (tested against real Go, not proved from fmt's source: count such statements apart). THE CARD IS WHAT COUNTS. Prove the row's statement (the work); the ties are given (YtjopblbpnedjoaaGreatDoorTie.lean); close each card by the builder's one call (the guide's Derived/Test/ToyasCard.lean, 'card_holds'). Laid BY PROGRAM, IN A SANDBOX (cutbox-door.mjs). By AI agents, Wed Nov 11 2026. No macro, syntax, notation, axiom, sorry.
-/
import Derived.Test.YtjopblbpnedjoaaGreatDoorRows
import GoSem.ClaimSeven
namespace Go.Proofs.YtjopblbpnedjoaaGreatDoor
namespace Rows

/-- THE TIED CARD OF 'vestrylaw09.ParseBlanks'. -/
def parseBlanksCard : Claim7 := { stood := { row := parseBlanksRow, standIns := [], harness := (true, "0c596d36f3bcc987b2ed52c0d67274fdccefa8b0c6d31535f4997b1103b53b3d"), looks := false }, kinds := [], alts := [], laidByText := true, laidKinds := [.data, .data, .data, .data, .pinned], laidTests := true, laidLooks := .later }
def ParseBlanksCardSaid : Prop := Claim7.holds Tryz.pinned (.plain (OpenSpec.ofChange parseBlanksSpec)) parseBlanksCard

/-- THE TIED CARD OF 'vestrylaw10.PrintExprs'. -/
def printExprsCard : Claim7 := { stood := { row := printExprsRow, standIns := [], harness := (true, "0c596d36f3bcc987b2ed52c0d67274fdccefa8b0c6d31535f4997b1103b53b3d"), looks := false }, kinds := [], alts := [], laidByText := true, laidKinds := [.data, .data, .data, .data, .pinned], laidTests := true, laidLooks := .later }
def PrintExprsCardSaid : Prop := Claim7.holds Tryz.pinned (.plain (OpenSpec.ofChange printExprsSpec)) printExprsCard

/-- THE TIED CARD OF 'vestrylaw10.PrintScripts'. -/
def printScriptsCard : Claim7 := { stood := { row := printScriptsRow, standIns := [], harness := (true, "0c596d36f3bcc987b2ed52c0d67274fdccefa8b0c6d31535f4997b1103b53b3d"), looks := false }, kinds := [], alts := [], laidByText := true, laidKinds := [.data, .data, .data, .data, .pinned], laidTests := true, laidLooks := .later }
def PrintScriptsCardSaid : Prop := Claim7.holds Tryz.pinned (.plain (OpenSpec.ofChange printScriptsSpec)) printScriptsCard

/-- THE TIED CARD OF 'vestrylaw10.PrintOnes'. -/
def printOnesCard : Claim7 := { stood := { row := printOnesRow, standIns := [], harness := (true, "0c596d36f3bcc987b2ed52c0d67274fdccefa8b0c6d31535f4997b1103b53b3d"), looks := false }, kinds := [], alts := [], laidByText := true, laidKinds := [.data, .data, .data, .data, .pinned], laidTests := true, laidLooks := .later }
def PrintOnesCardSaid : Prop := Claim7.holds Tryz.pinned (.plain (OpenSpec.ofChange printOnesSpec)) printOnesCard

/-- THE TIED CARD OF 'vestrylaw10.PrintReads'. -/
def printReadsCard : Claim7 := { stood := { row := printReadsRow, standIns := [], harness := (true, "0c596d36f3bcc987b2ed52c0d67274fdccefa8b0c6d31535f4997b1103b53b3d"), looks := false }, kinds := [], alts := [], laidByText := true, laidKinds := [.data, .data, .data, .data, .pinned], laidTests := true, laidLooks := .later }
def PrintReadsCardSaid : Prop := Claim7.holds Tryz.pinned (.plain (OpenSpec.ofChange printReadsSpec)) printReadsCard

/-- THE TIED CARD OF 'vestrylaw10.PrintBack'. -/
def printBackCard : Claim7 := { stood := { row := printBackRow, standIns := [], harness := (true, "0c596d36f3bcc987b2ed52c0d67274fdccefa8b0c6d31535f4997b1103b53b3d"), looks := false }, kinds := [], alts := [], laidByText := true, laidKinds := [.data, .data, .data, .data, .pinned], laidTests := true, laidLooks := .later }
def PrintBackCardSaid : Prop := Claim7.holds Tryz.pinned (.plain (OpenSpec.ofChange printBackSpec)) printBackCard

/-- THE TIED CARD OF 'vestrylaw12.CheckStatements'. -/
def checkStatementsCard : Claim7 := { stood := { row := checkStatementsRow, standIns := [], harness := (true, "0c596d36f3bcc987b2ed52c0d67274fdccefa8b0c6d31535f4997b1103b53b3d"), looks := false }, kinds := [], alts := [], laidByText := true, laidKinds := [.data, .data, .data, .data, .pinned], laidTests := true, laidLooks := .later }
def CheckStatementsCardSaid : Prop := Claim7.holds Tryz.pinned (.plain (OpenSpec.ofChange checkStatementsSpec)) checkStatementsCard

/-- THE TIED CARD OF 'vestrylaw12.CheckReads'. -/
def checkReadsCard : Claim7 := { stood := { row := checkReadsRow, standIns := [], harness := (true, "0c596d36f3bcc987b2ed52c0d67274fdccefa8b0c6d31535f4997b1103b53b3d"), looks := false }, kinds := [], alts := [], laidByText := true, laidKinds := [.data, .data, .data, .data, .pinned], laidTests := true, laidLooks := .later }
def CheckReadsCardSaid : Prop := Claim7.holds Tryz.pinned (.plain (OpenSpec.ofChange checkReadsSpec)) checkReadsCard

/-- THE TIED CARD OF 'vestrylaw11.CatalogMakes'. -/
def catalogMakesCard : Claim7 := { stood := { row := catalogMakesRow, standIns := [], harness := (true, "0c596d36f3bcc987b2ed52c0d67274fdccefa8b0c6d31535f4997b1103b53b3d"), looks := false }, kinds := [], alts := [], laidByText := true, laidKinds := [.data, .data, .data, .data, .pinned], laidTests := true, laidLooks := .later }
def CatalogMakesCardSaid : Prop := Claim7.holds Tryz.pinned (.plain (OpenSpec.ofChange catalogMakesSpec)) catalogMakesCard

/-- THE TIED CARD OF 'vestrylaw11.CatalogSources'. -/
def catalogSourcesCard : Claim7 := { stood := { row := catalogSourcesRow, standIns := [], harness := (true, "0c596d36f3bcc987b2ed52c0d67274fdccefa8b0c6d31535f4997b1103b53b3d"), looks := false }, kinds := [], alts := [], laidByText := true, laidKinds := [.data, .data, .data, .data, .pinned], laidTests := true, laidLooks := .later }
def CatalogSourcesCardSaid : Prop := Claim7.holds Tryz.pinned (.plain (OpenSpec.ofChange catalogSourcesSpec)) catalogSourcesCard

/-- THE TIED CARD OF 'vestrylaw11.CatalogBack'. -/
def catalogBackCard : Claim7 := { stood := { row := catalogBackRow, standIns := [], harness := (true, "0c596d36f3bcc987b2ed52c0d67274fdccefa8b0c6d31535f4997b1103b53b3d"), looks := false }, kinds := [], alts := [], laidByText := true, laidKinds := [.data, .data, .data, .data, .pinned], laidTests := true, laidLooks := .later }
def CatalogBackCardSaid : Prop := Claim7.holds Tryz.pinned (.plain (OpenSpec.ofChange catalogBackSpec)) catalogBackCard

/-- THE TIED CARD OF 'vestrylaw11.CatalogPrimary'. -/
def catalogPrimaryCard : Claim7 := { stood := { row := catalogPrimaryRow, standIns := [], harness := (true, "0c596d36f3bcc987b2ed52c0d67274fdccefa8b0c6d31535f4997b1103b53b3d"), looks := false }, kinds := [], alts := [], laidByText := true, laidKinds := [.data, .data, .data, .data, .pinned], laidTests := true, laidLooks := .later }
def CatalogPrimaryCardSaid : Prop := Claim7.holds Tryz.pinned (.plain (OpenSpec.ofChange catalogPrimarySpec)) catalogPrimaryCard

/-- THE SECOND FORM's CARD OF 'vestrylaw09.ParseBlanks'. -/
def parseBlanksUptoCard : Claim7 := { stood := { row := parseBlanksUptoRow, standIns := [], harness := (true, "0c596d36f3bcc987b2ed52c0d67274fdccefa8b0c6d31535f4997b1103b53b3d"), looks := false }, kinds := [], alts := [], laidByText := true, laidKinds := [.data, .data, .data, .data, .pinned], laidTests := true, laidLooks := .later }
def ParseBlanksUptoCardSaid : Prop := Claim7.holds Tryz.pinned (.plain (OpenSpec.upto parseBlanksSpec)) parseBlanksUptoCard

/-- THE SECOND FORM's CARD OF 'vestrylaw10.PrintExprs'. -/
def printExprsUptoCard : Claim7 := { stood := { row := printExprsUptoRow, standIns := [], harness := (true, "0c596d36f3bcc987b2ed52c0d67274fdccefa8b0c6d31535f4997b1103b53b3d"), looks := false }, kinds := [], alts := [], laidByText := true, laidKinds := [.data, .data, .data, .data, .pinned], laidTests := true, laidLooks := .later }
def PrintExprsUptoCardSaid : Prop := Claim7.holds Tryz.pinned (.plain (OpenSpec.upto printExprsSpec)) printExprsUptoCard

/-- THE SECOND FORM's CARD OF 'vestrylaw10.PrintScripts'. -/
def printScriptsUptoCard : Claim7 := { stood := { row := printScriptsUptoRow, standIns := [], harness := (true, "0c596d36f3bcc987b2ed52c0d67274fdccefa8b0c6d31535f4997b1103b53b3d"), looks := false }, kinds := [], alts := [], laidByText := true, laidKinds := [.data, .data, .data, .data, .pinned], laidTests := true, laidLooks := .later }
def PrintScriptsUptoCardSaid : Prop := Claim7.holds Tryz.pinned (.plain (OpenSpec.upto printScriptsSpec)) printScriptsUptoCard

/-- THE SECOND FORM's CARD OF 'vestrylaw10.PrintOnes'. -/
def printOnesUptoCard : Claim7 := { stood := { row := printOnesUptoRow, standIns := [], harness := (true, "0c596d36f3bcc987b2ed52c0d67274fdccefa8b0c6d31535f4997b1103b53b3d"), looks := false }, kinds := [], alts := [], laidByText := true, laidKinds := [.data, .data, .data, .data, .pinned], laidTests := true, laidLooks := .later }
def PrintOnesUptoCardSaid : Prop := Claim7.holds Tryz.pinned (.plain (OpenSpec.upto printOnesSpec)) printOnesUptoCard

/-- THE SECOND FORM's CARD OF 'vestrylaw10.PrintReads'. -/
def printReadsUptoCard : Claim7 := { stood := { row := printReadsUptoRow, standIns := [], harness := (true, "0c596d36f3bcc987b2ed52c0d67274fdccefa8b0c6d31535f4997b1103b53b3d"), looks := false }, kinds := [], alts := [], laidByText := true, laidKinds := [.data, .data, .data, .data, .pinned], laidTests := true, laidLooks := .later }
def PrintReadsUptoCardSaid : Prop := Claim7.holds Tryz.pinned (.plain (OpenSpec.upto printReadsSpec)) printReadsUptoCard

/-- THE SECOND FORM's CARD OF 'vestrylaw10.PrintBack'. -/
def printBackUptoCard : Claim7 := { stood := { row := printBackUptoRow, standIns := [], harness := (true, "0c596d36f3bcc987b2ed52c0d67274fdccefa8b0c6d31535f4997b1103b53b3d"), looks := false }, kinds := [], alts := [], laidByText := true, laidKinds := [.data, .data, .data, .data, .pinned], laidTests := true, laidLooks := .later }
def PrintBackUptoCardSaid : Prop := Claim7.holds Tryz.pinned (.plain (OpenSpec.upto printBackSpec)) printBackUptoCard

/-- THE SECOND FORM's CARD OF 'vestrylaw12.CheckStatements'. -/
def checkStatementsUptoCard : Claim7 := { stood := { row := checkStatementsUptoRow, standIns := [], harness := (true, "0c596d36f3bcc987b2ed52c0d67274fdccefa8b0c6d31535f4997b1103b53b3d"), looks := false }, kinds := [], alts := [], laidByText := true, laidKinds := [.data, .data, .data, .data, .pinned], laidTests := true, laidLooks := .later }
def CheckStatementsUptoCardSaid : Prop := Claim7.holds Tryz.pinned (.plain (OpenSpec.upto checkStatementsSpec)) checkStatementsUptoCard

/-- THE SECOND FORM's CARD OF 'vestrylaw12.CheckReads'. -/
def checkReadsUptoCard : Claim7 := { stood := { row := checkReadsUptoRow, standIns := [], harness := (true, "0c596d36f3bcc987b2ed52c0d67274fdccefa8b0c6d31535f4997b1103b53b3d"), looks := false }, kinds := [], alts := [], laidByText := true, laidKinds := [.data, .data, .data, .data, .pinned], laidTests := true, laidLooks := .later }
def CheckReadsUptoCardSaid : Prop := Claim7.holds Tryz.pinned (.plain (OpenSpec.upto checkReadsSpec)) checkReadsUptoCard

/-- THE SECOND FORM's CARD OF 'vestrylaw11.CatalogMakes'. -/
def catalogMakesUptoCard : Claim7 := { stood := { row := catalogMakesUptoRow, standIns := [], harness := (true, "0c596d36f3bcc987b2ed52c0d67274fdccefa8b0c6d31535f4997b1103b53b3d"), looks := false }, kinds := [], alts := [], laidByText := true, laidKinds := [.data, .data, .data, .data, .pinned], laidTests := true, laidLooks := .later }
def CatalogMakesUptoCardSaid : Prop := Claim7.holds Tryz.pinned (.plain (OpenSpec.upto catalogMakesSpec)) catalogMakesUptoCard

/-- THE SECOND FORM's CARD OF 'vestrylaw11.CatalogSources'. -/
def catalogSourcesUptoCard : Claim7 := { stood := { row := catalogSourcesUptoRow, standIns := [], harness := (true, "0c596d36f3bcc987b2ed52c0d67274fdccefa8b0c6d31535f4997b1103b53b3d"), looks := false }, kinds := [], alts := [], laidByText := true, laidKinds := [.data, .data, .data, .data, .pinned], laidTests := true, laidLooks := .later }
def CatalogSourcesUptoCardSaid : Prop := Claim7.holds Tryz.pinned (.plain (OpenSpec.upto catalogSourcesSpec)) catalogSourcesUptoCard

/-- THE SECOND FORM's CARD OF 'vestrylaw11.CatalogBack'. -/
def catalogBackUptoCard : Claim7 := { stood := { row := catalogBackUptoRow, standIns := [], harness := (true, "0c596d36f3bcc987b2ed52c0d67274fdccefa8b0c6d31535f4997b1103b53b3d"), looks := false }, kinds := [], alts := [], laidByText := true, laidKinds := [.data, .data, .data, .data, .pinned], laidTests := true, laidLooks := .later }
def CatalogBackUptoCardSaid : Prop := Claim7.holds Tryz.pinned (.plain (OpenSpec.upto catalogBackSpec)) catalogBackUptoCard

/-- THE SECOND FORM's CARD OF 'vestrylaw11.CatalogPrimary'. -/
def catalogPrimaryUptoCard : Claim7 := { stood := { row := catalogPrimaryUptoRow, standIns := [], harness := (true, "0c596d36f3bcc987b2ed52c0d67274fdccefa8b0c6d31535f4997b1103b53b3d"), looks := false }, kinds := [], alts := [], laidByText := true, laidKinds := [.data, .data, .data, .data, .pinned], laidTests := true, laidLooks := .later }
def CatalogPrimaryUptoCardSaid : Prop := Claim7.holds Tryz.pinned (.plain (OpenSpec.upto catalogPrimarySpec)) catalogPrimaryUptoCard
end Rows
end Go.Proofs.YtjopblbpnedjoaaGreatDoor
