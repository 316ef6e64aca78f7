/-
  DERIVED. GIVEN WITH THE SEED: THE CARDS: each row of YtlmdpamehhcblaaGreatDoorRows.lean that lists a variable, with what it lists TIED to the program's text (the seventh form; the later family's looks); each row that meets fmt, with fmt's text TOLD by the authors' own Lean function (tested against real Go, not proved from fmt's source: count such statements apart). THE CARD IS WHAT COUNTS. Prove the row's statement (the work); the ties are given (YtlmdpamehhcblaaGreatDoorTie.lean); close each card by the builder's one call (the guide's Derived/Test/ToyasCard.lean, 'card_holds'). Laid BY PROGRAM, IN A SANDBOX (cutbox-door.mjs). By AI agents, Wed Nov 11 2026. No macro, syntax, notation, axiom, sorry.
-/
import Derived.Test.YtlmdpamehhcblaaGreatDoorRows
import GoSem.ClaimSeven
namespace Go.Proofs.YtlmdpamehhcblaaGreatDoor
namespace Rows

/-- THE TIED CARD OF 'metrolablaw13.UnitsReads'. -/
def unitsReadsCard : Claim7 := { stood := { row := unitsReadsRow, standIns := [], harness := (true, "d07e2a9c964c5a64dd3a879437d40ecd30a77628cd906bd69d0a9e29ea0f0de4"), looks := true }, kinds := [], alts := [], laidByText := true, laidKinds := [.data, .data, .data, .data, .sentinel, .sentinel, .pinned], laidTests := true, laidLooks := .later }
def UnitsReadsCardSaid : Prop := Claim7.holds Tryz.pinned (.plain (OpenSpec.ofChange unitsReadsSpec)) unitsReadsCard

/-- THE TIED CARD OF 'metrolablaw13.UnitsWords'. -/
def unitsWordsCard : Claim7 := { stood := { row := unitsWordsRow, standIns := [], harness := (true, "d07e2a9c964c5a64dd3a879437d40ecd30a77628cd906bd69d0a9e29ea0f0de4"), looks := true }, kinds := [], alts := [], laidByText := true, laidKinds := [.data, .data, .data, .data, .sentinel, .sentinel, .pinned], laidTests := true, laidLooks := .later }
def UnitsWordsCardSaid : Prop := Claim7.holds Tryz.pinned (.plain (OpenSpec.ofChange unitsWordsSpec)) unitsWordsCard

/-- THE TIED CARD OF 'metrolablaw13.UnitsWrites'. -/
def unitsWritesCard : Claim7 := { stood := { row := unitsWritesRow, standIns := [], harness := (true, "d07e2a9c964c5a64dd3a879437d40ecd30a77628cd906bd69d0a9e29ea0f0de4"), looks := true }, kinds := [], alts := [], laidByText := true, laidKinds := [.data, .data, .data, .data, .sentinel, .sentinel, .pinned], laidTests := true, laidLooks := .later }
def UnitsWritesCardSaid : Prop := Claim7.holds Tryz.pinned (.plain (OpenSpec.ofChange unitsWritesSpec)) unitsWritesCard

/-- THE TIED CARD OF 'metrolablaw13.UnitsSums'. -/
def unitsSumsCard : Claim7 := { stood := { row := unitsSumsRow, standIns := [], harness := (true, "d07e2a9c964c5a64dd3a879437d40ecd30a77628cd906bd69d0a9e29ea0f0de4"), looks := true }, kinds := [], alts := [], laidByText := true, laidKinds := [.data, .data, .data, .data, .sentinel, .sentinel, .pinned], laidTests := true, laidLooks := .later }
def UnitsSumsCardSaid : Prop := Claim7.holds Tryz.pinned (.plain (OpenSpec.ofChange unitsSumsSpec)) unitsSumsCard

/-- THE TIED CARD OF 'metrolablaw13.UnitsScales'. -/
def unitsScalesCard : Claim7 := { stood := { row := unitsScalesRow, standIns := [], harness := (true, "d07e2a9c964c5a64dd3a879437d40ecd30a77628cd906bd69d0a9e29ea0f0de4"), looks := true }, kinds := [], alts := [], laidByText := true, laidKinds := [.data, .data, .data, .data, .sentinel, .sentinel, .pinned], laidTests := true, laidLooks := .later }
def UnitsScalesCardSaid : Prop := Claim7.holds Tryz.pinned (.plain (OpenSpec.ofChange unitsScalesSpec)) unitsScalesCard

/-- THE TIED CARD OF 'metrolablaw13.UnitsParts'. -/
def unitsPartsCard : Claim7 := { stood := { row := unitsPartsRow, standIns := [], harness := (true, "d07e2a9c964c5a64dd3a879437d40ecd30a77628cd906bd69d0a9e29ea0f0de4"), looks := true }, kinds := [], alts := [], laidByText := true, laidKinds := [.data, .data, .data, .data, .sentinel, .sentinel, .pinned], laidTests := true, laidLooks := .later }
def UnitsPartsCardSaid : Prop := Claim7.holds Tryz.pinned (.plain (OpenSpec.ofChange unitsPartsSpec)) unitsPartsCard

/-- THE TIED CARD OF 'metrolabtop.TopNumbersPascal'. -/
def topNumbersPascalCard : Claim7 := { stood := { row := topNumbersPascalRow, standIns := [], harness := (true, "d07e2a9c964c5a64dd3a879437d40ecd30a77628cd906bd69d0a9e29ea0f0de4"), looks := true }, kinds := [], alts := [], laidByText := true, laidKinds := [.data, .data, .data, .data, .sentinel, .sentinel, .pinned], laidTests := true, laidLooks := .later }
def TopNumbersPascalCardSaid : Prop := Claim7.holds Tryz.pinned (.plain (OpenSpec.ofChange topNumbersPascalSpec)) topNumbersPascalCard

/-- THE TIED CARD OF 'metrolablaw13.UnitsReturns'. -/
def unitsReturnsCard : Claim7 := { stood := { row := unitsReturnsRow, standIns := [], harness := (true, "d07e2a9c964c5a64dd3a879437d40ecd30a77628cd906bd69d0a9e29ea0f0de4"), looks := true }, kinds := [], alts := [], laidByText := true, laidKinds := [.data, .data, .data, .data, .sentinel, .sentinel, .pinned], laidTests := true, laidLooks := .later }
def UnitsReturnsCardSaid : Prop := Claim7.holds Tryz.pinned (.plain (OpenSpec.ofChange unitsReturnsSpec)) unitsReturnsCard

/-- THE TIED CARD OF 'metrolablaw14.LexerWords'. -/
def lexerWordsCard : Claim7 := { stood := { row := lexerWordsRow, standIns := [], harness := (true, "d07e2a9c964c5a64dd3a879437d40ecd30a77628cd906bd69d0a9e29ea0f0de4"), looks := true }, kinds := [], alts := [], laidByText := true, laidKinds := [.data, .data, .data, .data, .sentinel, .sentinel, .pinned], laidTests := true, laidLooks := .later }
def LexerWordsCardSaid : Prop := Claim7.holds Tryz.pinned (.plain (OpenSpec.ofChange lexerWordsSpec)) lexerWordsCard

/-- THE TIED CARD OF 'metrolablaw14.LexerScans'. -/
def lexerScansCard : Claim7 := { stood := { row := lexerScansRow, standIns := [], harness := (true, "d07e2a9c964c5a64dd3a879437d40ecd30a77628cd906bd69d0a9e29ea0f0de4"), looks := true }, kinds := [], alts := [], laidByText := true, laidKinds := [.data, .data, .data, .data, .sentinel, .sentinel, .pinned], laidTests := true, laidLooks := .later }
def LexerScansCardSaid : Prop := Claim7.holds Tryz.pinned (.plain (OpenSpec.ofChange lexerScansSpec)) lexerScansCard

/-- THE TIED CARD OF 'metrolablaw14.LexerJoins'. -/
def lexerJoinsCard : Claim7 := { stood := { row := lexerJoinsRow, standIns := [], harness := (true, "d07e2a9c964c5a64dd3a879437d40ecd30a77628cd906bd69d0a9e29ea0f0de4"), looks := true }, kinds := [], alts := [], laidByText := true, laidKinds := [.data, .data, .data, .data, .sentinel, .sentinel, .pinned], laidTests := true, laidLooks := .later }
def LexerJoinsCardSaid : Prop := Claim7.holds Tryz.pinned (.plain (OpenSpec.ofChange lexerJoinsSpec)) lexerJoinsCard

/-- THE TIED CARD OF 'metrolablaw14.LexerValues'. -/
def lexerValuesCard : Claim7 := { stood := { row := lexerValuesRow, standIns := [], harness := (true, "d07e2a9c964c5a64dd3a879437d40ecd30a77628cd906bd69d0a9e29ea0f0de4"), looks := true }, kinds := [], alts := [], laidByText := true, laidKinds := [.data, .data, .data, .data, .sentinel, .sentinel, .pinned], laidTests := true, laidLooks := .later }
def LexerValuesCardSaid : Prop := Claim7.holds Tryz.pinned (.plain (OpenSpec.ofChange lexerValuesSpec)) lexerValuesCard

/-- THE TIED CARD OF 'metrolablaw14.LexerCovers'. -/
def lexerCoversCard : Claim7 := { stood := { row := lexerCoversRow, standIns := [], harness := (true, "d07e2a9c964c5a64dd3a879437d40ecd30a77628cd906bd69d0a9e29ea0f0de4"), looks := true }, kinds := [], alts := [], laidByText := true, laidKinds := [.data, .data, .data, .data, .sentinel, .sentinel, .pinned], laidTests := true, laidLooks := .later }
def LexerCoversCardSaid : Prop := Claim7.holds Tryz.pinned (.plain (OpenSpec.ofChange lexerCoversSpec)) lexerCoversCard

/-- THE TIED CARD OF 'metrolablaw14.LexerNormal'. -/
def lexerNormalCard : Claim7 := { stood := { row := lexerNormalRow, standIns := [], harness := (true, "d07e2a9c964c5a64dd3a879437d40ecd30a77628cd906bd69d0a9e29ea0f0de4"), looks := true }, kinds := [], alts := [], laidByText := true, laidKinds := [.data, .data, .data, .data, .sentinel, .sentinel, .pinned], laidTests := true, laidLooks := .later }
def LexerNormalCardSaid : Prop := Claim7.holds Tryz.pinned (.plain (OpenSpec.ofChange lexerNormalSpec)) lexerNormalCard

/-- THE TIED CARD OF 'metrolablaw14.LexerParts'. -/
def lexerPartsCard : Claim7 := { stood := { row := lexerPartsRow, standIns := [], harness := (true, "d07e2a9c964c5a64dd3a879437d40ecd30a77628cd906bd69d0a9e29ea0f0de4"), looks := true }, kinds := [], alts := [], laidByText := true, laidKinds := [.data, .data, .data, .data, .sentinel, .sentinel, .pinned], laidTests := true, laidLooks := .later }
def LexerPartsCardSaid : Prop := Claim7.holds Tryz.pinned (.plain (OpenSpec.ofChange lexerPartsSpec)) lexerPartsCard

/-- THE TIED CARD OF 'metrolablaw14.LexerSplits'. -/
def lexerSplitsCard : Claim7 := { stood := { row := lexerSplitsRow, standIns := [], harness := (true, "d07e2a9c964c5a64dd3a879437d40ecd30a77628cd906bd69d0a9e29ea0f0de4"), looks := true }, kinds := [], alts := [], laidByText := true, laidKinds := [.data, .data, .data, .data, .sentinel, .sentinel, .pinned], laidTests := true, laidLooks := .later }
def LexerSplitsCardSaid : Prop := Claim7.holds Tryz.pinned (.plain (OpenSpec.ofChange lexerSplitsSpec)) lexerSplitsCard

/-- THE TIED CARD OF 'metrolablaw14.LexerDigits'. -/
def lexerDigitsCard : Claim7 := { stood := { row := lexerDigitsRow, standIns := [], harness := (true, "d07e2a9c964c5a64dd3a879437d40ecd30a77628cd906bd69d0a9e29ea0f0de4"), looks := true }, kinds := [], alts := [], laidByText := true, laidKinds := [.data, .data, .data, .data, .sentinel, .sentinel, .pinned], laidTests := true, laidLooks := .later }
def LexerDigitsCardSaid : Prop := Claim7.holds Tryz.pinned (.plain (OpenSpec.ofChange lexerDigitsSpec)) lexerDigitsCard

/-- THE SECOND FORM's CARD OF 'metrolablaw13.UnitsReads'. -/
def unitsReadsUptoCard : Claim7 := { stood := { row := unitsReadsUptoRow, standIns := [], harness := (true, "d07e2a9c964c5a64dd3a879437d40ecd30a77628cd906bd69d0a9e29ea0f0de4"), looks := true }, kinds := [], alts := [], laidByText := true, laidKinds := [.data, .data, .data, .data, .sentinel, .sentinel, .pinned], laidTests := true, laidLooks := .later }
def UnitsReadsUptoCardSaid : Prop := Claim7.holds Tryz.pinned (.plain (OpenSpec.upto unitsReadsSpec)) unitsReadsUptoCard

/-- THE SECOND FORM's CARD OF 'metrolablaw13.UnitsWords'. -/
def unitsWordsUptoCard : Claim7 := { stood := { row := unitsWordsUptoRow, standIns := [], harness := (true, "d07e2a9c964c5a64dd3a879437d40ecd30a77628cd906bd69d0a9e29ea0f0de4"), looks := true }, kinds := [], alts := [], laidByText := true, laidKinds := [.data, .data, .data, .data, .sentinel, .sentinel, .pinned], laidTests := true, laidLooks := .later }
def UnitsWordsUptoCardSaid : Prop := Claim7.holds Tryz.pinned (.plain (OpenSpec.upto unitsWordsSpec)) unitsWordsUptoCard

/-- THE SECOND FORM's CARD OF 'metrolablaw13.UnitsWrites'. -/
def unitsWritesUptoCard : Claim7 := { stood := { row := unitsWritesUptoRow, standIns := [], harness := (true, "d07e2a9c964c5a64dd3a879437d40ecd30a77628cd906bd69d0a9e29ea0f0de4"), looks := true }, kinds := [], alts := [], laidByText := true, laidKinds := [.data, .data, .data, .data, .sentinel, .sentinel, .pinned], laidTests := true, laidLooks := .later }
def UnitsWritesUptoCardSaid : Prop := Claim7.holds Tryz.pinned (.plain (OpenSpec.upto unitsWritesSpec)) unitsWritesUptoCard

/-- THE SECOND FORM's CARD OF 'metrolablaw13.UnitsSums'. -/
def unitsSumsUptoCard : Claim7 := { stood := { row := unitsSumsUptoRow, standIns := [], harness := (true, "d07e2a9c964c5a64dd3a879437d40ecd30a77628cd906bd69d0a9e29ea0f0de4"), looks := true }, kinds := [], alts := [], laidByText := true, laidKinds := [.data, .data, .data, .data, .sentinel, .sentinel, .pinned], laidTests := true, laidLooks := .later }
def UnitsSumsUptoCardSaid : Prop := Claim7.holds Tryz.pinned (.plain (OpenSpec.upto unitsSumsSpec)) unitsSumsUptoCard

/-- THE SECOND FORM's CARD OF 'metrolablaw13.UnitsScales'. -/
def unitsScalesUptoCard : Claim7 := { stood := { row := unitsScalesUptoRow, standIns := [], harness := (true, "d07e2a9c964c5a64dd3a879437d40ecd30a77628cd906bd69d0a9e29ea0f0de4"), looks := true }, kinds := [], alts := [], laidByText := true, laidKinds := [.data, .data, .data, .data, .sentinel, .sentinel, .pinned], laidTests := true, laidLooks := .later }
def UnitsScalesUptoCardSaid : Prop := Claim7.holds Tryz.pinned (.plain (OpenSpec.upto unitsScalesSpec)) unitsScalesUptoCard

/-- THE SECOND FORM's CARD OF 'metrolablaw13.UnitsParts'. -/
def unitsPartsUptoCard : Claim7 := { stood := { row := unitsPartsUptoRow, standIns := [], harness := (true, "d07e2a9c964c5a64dd3a879437d40ecd30a77628cd906bd69d0a9e29ea0f0de4"), looks := true }, kinds := [], alts := [], laidByText := true, laidKinds := [.data, .data, .data, .data, .sentinel, .sentinel, .pinned], laidTests := true, laidLooks := .later }
def UnitsPartsUptoCardSaid : Prop := Claim7.holds Tryz.pinned (.plain (OpenSpec.upto unitsPartsSpec)) unitsPartsUptoCard

/-- THE SECOND FORM's CARD OF 'metrolabtop.TopNumbersPascal'. -/
def topNumbersPascalUptoCard : Claim7 := { stood := { row := topNumbersPascalUptoRow, standIns := [], harness := (true, "d07e2a9c964c5a64dd3a879437d40ecd30a77628cd906bd69d0a9e29ea0f0de4"), looks := true }, kinds := [], alts := [], laidByText := true, laidKinds := [.data, .data, .data, .data, .sentinel, .sentinel, .pinned], laidTests := true, laidLooks := .later }
def TopNumbersPascalUptoCardSaid : Prop := Claim7.holds Tryz.pinned (.plain (OpenSpec.upto topNumbersPascalSpec)) topNumbersPascalUptoCard

/-- THE SECOND FORM's CARD OF 'metrolablaw13.UnitsReturns'. -/
def unitsReturnsUptoCard : Claim7 := { stood := { row := unitsReturnsUptoRow, standIns := [], harness := (true, "d07e2a9c964c5a64dd3a879437d40ecd30a77628cd906bd69d0a9e29ea0f0de4"), looks := true }, kinds := [], alts := [], laidByText := true, laidKinds := [.data, .data, .data, .data, .sentinel, .sentinel, .pinned], laidTests := true, laidLooks := .later }
def UnitsReturnsUptoCardSaid : Prop := Claim7.holds Tryz.pinned (.plain (OpenSpec.upto unitsReturnsSpec)) unitsReturnsUptoCard

/-- THE SECOND FORM's CARD OF 'metrolablaw14.LexerWords'. -/
def lexerWordsUptoCard : Claim7 := { stood := { row := lexerWordsUptoRow, standIns := [], harness := (true, "d07e2a9c964c5a64dd3a879437d40ecd30a77628cd906bd69d0a9e29ea0f0de4"), looks := true }, kinds := [], alts := [], laidByText := true, laidKinds := [.data, .data, .data, .data, .sentinel, .sentinel, .pinned], laidTests := true, laidLooks := .later }
def LexerWordsUptoCardSaid : Prop := Claim7.holds Tryz.pinned (.plain (OpenSpec.upto lexerWordsSpec)) lexerWordsUptoCard

/-- THE SECOND FORM's CARD OF 'metrolablaw14.LexerScans'. -/
def lexerScansUptoCard : Claim7 := { stood := { row := lexerScansUptoRow, standIns := [], harness := (true, "d07e2a9c964c5a64dd3a879437d40ecd30a77628cd906bd69d0a9e29ea0f0de4"), looks := true }, kinds := [], alts := [], laidByText := true, laidKinds := [.data, .data, .data, .data, .sentinel, .sentinel, .pinned], laidTests := true, laidLooks := .later }
def LexerScansUptoCardSaid : Prop := Claim7.holds Tryz.pinned (.plain (OpenSpec.upto lexerScansSpec)) lexerScansUptoCard

/-- THE SECOND FORM's CARD OF 'metrolablaw14.LexerJoins'. -/
def lexerJoinsUptoCard : Claim7 := { stood := { row := lexerJoinsUptoRow, standIns := [], harness := (true, "d07e2a9c964c5a64dd3a879437d40ecd30a77628cd906bd69d0a9e29ea0f0de4"), looks := true }, kinds := [], alts := [], laidByText := true, laidKinds := [.data, .data, .data, .data, .sentinel, .sentinel, .pinned], laidTests := true, laidLooks := .later }
def LexerJoinsUptoCardSaid : Prop := Claim7.holds Tryz.pinned (.plain (OpenSpec.upto lexerJoinsSpec)) lexerJoinsUptoCard

/-- THE SECOND FORM's CARD OF 'metrolablaw14.LexerValues'. -/
def lexerValuesUptoCard : Claim7 := { stood := { row := lexerValuesUptoRow, standIns := [], harness := (true, "d07e2a9c964c5a64dd3a879437d40ecd30a77628cd906bd69d0a9e29ea0f0de4"), looks := true }, kinds := [], alts := [], laidByText := true, laidKinds := [.data, .data, .data, .data, .sentinel, .sentinel, .pinned], laidTests := true, laidLooks := .later }
def LexerValuesUptoCardSaid : Prop := Claim7.holds Tryz.pinned (.plain (OpenSpec.upto lexerValuesSpec)) lexerValuesUptoCard

/-- THE SECOND FORM's CARD OF 'metrolablaw14.LexerCovers'. -/
def lexerCoversUptoCard : Claim7 := { stood := { row := lexerCoversUptoRow, standIns := [], harness := (true, "d07e2a9c964c5a64dd3a879437d40ecd30a77628cd906bd69d0a9e29ea0f0de4"), looks := true }, kinds := [], alts := [], laidByText := true, laidKinds := [.data, .data, .data, .data, .sentinel, .sentinel, .pinned], laidTests := true, laidLooks := .later }
def LexerCoversUptoCardSaid : Prop := Claim7.holds Tryz.pinned (.plain (OpenSpec.upto lexerCoversSpec)) lexerCoversUptoCard

/-- THE SECOND FORM's CARD OF 'metrolablaw14.LexerNormal'. -/
def lexerNormalUptoCard : Claim7 := { stood := { row := lexerNormalUptoRow, standIns := [], harness := (true, "d07e2a9c964c5a64dd3a879437d40ecd30a77628cd906bd69d0a9e29ea0f0de4"), looks := true }, kinds := [], alts := [], laidByText := true, laidKinds := [.data, .data, .data, .data, .sentinel, .sentinel, .pinned], laidTests := true, laidLooks := .later }
def LexerNormalUptoCardSaid : Prop := Claim7.holds Tryz.pinned (.plain (OpenSpec.upto lexerNormalSpec)) lexerNormalUptoCard

/-- THE SECOND FORM's CARD OF 'metrolablaw14.LexerParts'. -/
def lexerPartsUptoCard : Claim7 := { stood := { row := lexerPartsUptoRow, standIns := [], harness := (true, "d07e2a9c964c5a64dd3a879437d40ecd30a77628cd906bd69d0a9e29ea0f0de4"), looks := true }, kinds := [], alts := [], laidByText := true, laidKinds := [.data, .data, .data, .data, .sentinel, .sentinel, .pinned], laidTests := true, laidLooks := .later }
def LexerPartsUptoCardSaid : Prop := Claim7.holds Tryz.pinned (.plain (OpenSpec.upto lexerPartsSpec)) lexerPartsUptoCard

/-- THE SECOND FORM's CARD OF 'metrolablaw14.LexerSplits'. -/
def lexerSplitsUptoCard : Claim7 := { stood := { row := lexerSplitsUptoRow, standIns := [], harness := (true, "d07e2a9c964c5a64dd3a879437d40ecd30a77628cd906bd69d0a9e29ea0f0de4"), looks := true }, kinds := [], alts := [], laidByText := true, laidKinds := [.data, .data, .data, .data, .sentinel, .sentinel, .pinned], laidTests := true, laidLooks := .later }
def LexerSplitsUptoCardSaid : Prop := Claim7.holds Tryz.pinned (.plain (OpenSpec.upto lexerSplitsSpec)) lexerSplitsUptoCard

/-- THE SECOND FORM's CARD OF 'metrolablaw14.LexerDigits'. -/
def lexerDigitsUptoCard : Claim7 := { stood := { row := lexerDigitsUptoRow, standIns := [], harness := (true, "d07e2a9c964c5a64dd3a879437d40ecd30a77628cd906bd69d0a9e29ea0f0de4"), looks := true }, kinds := [], alts := [], laidByText := true, laidKinds := [.data, .data, .data, .data, .sentinel, .sentinel, .pinned], laidTests := true, laidLooks := .later }
def LexerDigitsUptoCardSaid : Prop := Claim7.holds Tryz.pinned (.plain (OpenSpec.upto lexerDigitsSpec)) lexerDigitsUptoCard
end Rows
end Go.Proofs.YtlmdpamehhcblaaGreatDoor
