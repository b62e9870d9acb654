/-
  DERIVED. GIVEN WITH THE SEED: THE CARDS: each row of YthiadenmljbdaaaGreatDoorRows.lean that lists a variable, with what it lists TIED to the program's text (the seventh form; the later family's looks); each row that meets fmt, with fmt's text TOLD by the authors' own Lean function (tested against real Go, not proved from fmt's source: count such statements apart). THE CARD IS WHAT COUNTS. Prove the row's statement (the work); the ties are given (YthiadenmljbdaaaGreatDoorTie.lean); close each card by the builder's one call (the guide's Derived/Test/ToyasCard.lean, 'card_holds'). Laid BY PROGRAM, IN A SANDBOX (cutbox-door.mjs). By AI agents, Wed Nov 11 2026. No macro, syntax, notation, axiom, sorry.
-/
import Derived.Test.YthiadenmljbdaaaGreatDoorRows
import GoSem.ClaimSeven
namespace Go.Proofs.YthiadenmljbdaaaGreatDoor
namespace Rows

/-- THE TIED CARD OF 'riddlelaw04.SyntaxParse'. -/
def syntaxParseCard : Claim7 := { stood := { row := syntaxParseRow, standIns := [], harness := (true, "7b3628a0b95a340e4f754d9b4af5049e3cfc46625e8bf813f16818c814b81f52"), looks := true }, kinds := [], alts := [], laidByText := true, laidKinds := [.data, .pinned], laidTests := true, laidLooks := .later }
def SyntaxParseCardSaid : Prop := Claim7.holds Tryz.pinned (.plain (OpenSpec.ofChange syntaxParseSpec)) syntaxParseCard

/-- THE TIED CARD OF 'riddlelaw04.SyntaxPrint'. -/
def syntaxPrintCard : Claim7 := { stood := { row := syntaxPrintRow, standIns := [], harness := (true, "7b3628a0b95a340e4f754d9b4af5049e3cfc46625e8bf813f16818c814b81f52"), looks := true }, kinds := [], alts := [], laidByText := true, laidKinds := [.data, .pinned], laidTests := true, laidLooks := .later }
def SyntaxPrintCardSaid : Prop := Claim7.holds Tryz.pinned (.plain (OpenSpec.ofChange syntaxPrintSpec)) syntaxPrintCard

/-- THE TIED CARD OF 'riddlelaw04.SyntaxLooks'. -/
def syntaxLooksCard : Claim7 := { stood := { row := syntaxLooksRow, standIns := [], harness := (true, "7b3628a0b95a340e4f754d9b4af5049e3cfc46625e8bf813f16818c814b81f52"), looks := true }, kinds := [], alts := [], laidByText := true, laidKinds := [.data, .pinned], laidTests := true, laidLooks := .later }
def SyntaxLooksCardSaid : Prop := Claim7.holds Tryz.pinned (.plain (OpenSpec.ofChange syntaxLooksSpec)) syntaxLooksCard

/-- THE TIED CARD OF 'riddlelaw04.SyntaxBack'. -/
def syntaxBackCard : Claim7 := { stood := { row := syntaxBackRow, standIns := [], harness := (true, "7b3628a0b95a340e4f754d9b4af5049e3cfc46625e8bf813f16818c814b81f52"), looks := true }, kinds := [], alts := [], laidByText := true, laidKinds := [.data, .pinned], laidTests := true, laidLooks := .later }
def SyntaxBackCardSaid : Prop := Claim7.holds Tryz.pinned (.plain (OpenSpec.ofChange syntaxBackSpec)) syntaxBackCard

/-- THE TIED CARD OF 'riddlelaw04.SyntaxReads'. -/
def syntaxReadsCard : Claim7 := { stood := { row := syntaxReadsRow, standIns := [], harness := (true, "7b3628a0b95a340e4f754d9b4af5049e3cfc46625e8bf813f16818c814b81f52"), looks := true }, kinds := [], alts := [], laidByText := true, laidKinds := [.data, .pinned], laidTests := true, laidLooks := .later }
def SyntaxReadsCardSaid : Prop := Claim7.holds Tryz.pinned (.plain (OpenSpec.ofChange syntaxReadsSpec)) syntaxReadsCard

/-- THE TIED CARD OF 'riddlelaw04.SyntaxLeast'. -/
def syntaxLeastCard : Claim7 := { stood := { row := syntaxLeastRow, standIns := [], harness := (true, "7b3628a0b95a340e4f754d9b4af5049e3cfc46625e8bf813f16818c814b81f52"), looks := true }, kinds := [], alts := [], laidByText := true, laidKinds := [.data, .pinned], laidTests := true, laidLooks := .later }
def SyntaxLeastCardSaid : Prop := Claim7.holds Tryz.pinned (.plain (OpenSpec.ofChange syntaxLeastSpec)) syntaxLeastCard

/-- THE TIED CARD OF 'riddlelaw04.SyntaxAround'. -/
def syntaxAroundCard : Claim7 := { stood := { row := syntaxAroundRow, standIns := [], harness := (true, "7b3628a0b95a340e4f754d9b4af5049e3cfc46625e8bf813f16818c814b81f52"), looks := true }, kinds := [], alts := [], laidByText := true, laidKinds := [.data, .pinned], laidTests := true, laidLooks := .later }
def SyntaxAroundCardSaid : Prop := Claim7.holds Tryz.pinned (.plain (OpenSpec.ofChange syntaxAroundSpec)) syntaxAroundCard

/-- THE TIED CARD OF 'riddlelaw04.SyntaxJoins'. -/
def syntaxJoinsCard : Claim7 := { stood := { row := syntaxJoinsRow, standIns := [], harness := (true, "7b3628a0b95a340e4f754d9b4af5049e3cfc46625e8bf813f16818c814b81f52"), looks := true }, kinds := [], alts := [], laidByText := true, laidKinds := [.data, .pinned], laidTests := true, laidLooks := .later }
def SyntaxJoinsCardSaid : Prop := Claim7.holds Tryz.pinned (.plain (OpenSpec.ofChange syntaxJoinsSpec)) syntaxJoinsCard

/-- THE SECOND FORM's CARD OF 'riddlelaw04.SyntaxParse'. -/
def syntaxParseUptoCard : Claim7 := { stood := { row := syntaxParseUptoRow, standIns := [], harness := (true, "7b3628a0b95a340e4f754d9b4af5049e3cfc46625e8bf813f16818c814b81f52"), looks := true }, kinds := [], alts := [], laidByText := true, laidKinds := [.data, .pinned], laidTests := true, laidLooks := .later }
def SyntaxParseUptoCardSaid : Prop := Claim7.holds Tryz.pinned (.plain (OpenSpec.upto syntaxParseSpec)) syntaxParseUptoCard

/-- THE SECOND FORM's CARD OF 'riddlelaw04.SyntaxPrint'. -/
def syntaxPrintUptoCard : Claim7 := { stood := { row := syntaxPrintUptoRow, standIns := [], harness := (true, "7b3628a0b95a340e4f754d9b4af5049e3cfc46625e8bf813f16818c814b81f52"), looks := true }, kinds := [], alts := [], laidByText := true, laidKinds := [.data, .pinned], laidTests := true, laidLooks := .later }
def SyntaxPrintUptoCardSaid : Prop := Claim7.holds Tryz.pinned (.plain (OpenSpec.upto syntaxPrintSpec)) syntaxPrintUptoCard

/-- THE SECOND FORM's CARD OF 'riddlelaw04.SyntaxLooks'. -/
def syntaxLooksUptoCard : Claim7 := { stood := { row := syntaxLooksUptoRow, standIns := [], harness := (true, "7b3628a0b95a340e4f754d9b4af5049e3cfc46625e8bf813f16818c814b81f52"), looks := true }, kinds := [], alts := [], laidByText := true, laidKinds := [.data, .pinned], laidTests := true, laidLooks := .later }
def SyntaxLooksUptoCardSaid : Prop := Claim7.holds Tryz.pinned (.plain (OpenSpec.upto syntaxLooksSpec)) syntaxLooksUptoCard

/-- THE SECOND FORM's CARD OF 'riddlelaw04.SyntaxBack'. -/
def syntaxBackUptoCard : Claim7 := { stood := { row := syntaxBackUptoRow, standIns := [], harness := (true, "7b3628a0b95a340e4f754d9b4af5049e3cfc46625e8bf813f16818c814b81f52"), looks := true }, kinds := [], alts := [], laidByText := true, laidKinds := [.data, .pinned], laidTests := true, laidLooks := .later }
def SyntaxBackUptoCardSaid : Prop := Claim7.holds Tryz.pinned (.plain (OpenSpec.upto syntaxBackSpec)) syntaxBackUptoCard

/-- THE SECOND FORM's CARD OF 'riddlelaw04.SyntaxReads'. -/
def syntaxReadsUptoCard : Claim7 := { stood := { row := syntaxReadsUptoRow, standIns := [], harness := (true, "7b3628a0b95a340e4f754d9b4af5049e3cfc46625e8bf813f16818c814b81f52"), looks := true }, kinds := [], alts := [], laidByText := true, laidKinds := [.data, .pinned], laidTests := true, laidLooks := .later }
def SyntaxReadsUptoCardSaid : Prop := Claim7.holds Tryz.pinned (.plain (OpenSpec.upto syntaxReadsSpec)) syntaxReadsUptoCard

/-- THE SECOND FORM's CARD OF 'riddlelaw04.SyntaxLeast'. -/
def syntaxLeastUptoCard : Claim7 := { stood := { row := syntaxLeastUptoRow, standIns := [], harness := (true, "7b3628a0b95a340e4f754d9b4af5049e3cfc46625e8bf813f16818c814b81f52"), looks := true }, kinds := [], alts := [], laidByText := true, laidKinds := [.data, .pinned], laidTests := true, laidLooks := .later }
def SyntaxLeastUptoCardSaid : Prop := Claim7.holds Tryz.pinned (.plain (OpenSpec.upto syntaxLeastSpec)) syntaxLeastUptoCard

/-- THE SECOND FORM's CARD OF 'riddlelaw04.SyntaxAround'. -/
def syntaxAroundUptoCard : Claim7 := { stood := { row := syntaxAroundUptoRow, standIns := [], harness := (true, "7b3628a0b95a340e4f754d9b4af5049e3cfc46625e8bf813f16818c814b81f52"), looks := true }, kinds := [], alts := [], laidByText := true, laidKinds := [.data, .pinned], laidTests := true, laidLooks := .later }
def SyntaxAroundUptoCardSaid : Prop := Claim7.holds Tryz.pinned (.plain (OpenSpec.upto syntaxAroundSpec)) syntaxAroundUptoCard

/-- THE SECOND FORM's CARD OF 'riddlelaw04.SyntaxJoins'. -/
def syntaxJoinsUptoCard : Claim7 := { stood := { row := syntaxJoinsUptoRow, standIns := [], harness := (true, "7b3628a0b95a340e4f754d9b4af5049e3cfc46625e8bf813f16818c814b81f52"), looks := true }, kinds := [], alts := [], laidByText := true, laidKinds := [.data, .pinned], laidTests := true, laidLooks := .later }
def SyntaxJoinsUptoCardSaid : Prop := Claim7.holds Tryz.pinned (.plain (OpenSpec.upto syntaxJoinsSpec)) syntaxJoinsUptoCard
end Rows
end Go.Proofs.YthiadenmljbdaaaGreatDoor
