/-
  DERIVED. GIVEN WITH THE SEED: THE CARDS: each row of YtiidghfkdjefgaaDoorRows.lean that lists a variable, with what it lists TIED to the program's text (the seventh form; the later family's looks); each row that meets fmt, with fmt's text TOLD by the authors' own Lean function (tested against real Go, not proved from fmt's source: count such statements apart). THE CARD IS WHAT COUNTS. Prove the row's statement (the work); the ties are given (YtiidghfkdjefgaaDoorTie.lean); close each card by the builder's one call (the guide's Derived/Test/ToyasCard.lean, 'card_holds'). Laid BY PROGRAM, IN A SANDBOX (cutbox-door.mjs). By AI agents, Wed Nov 11 2026. No macro, syntax, notation, axiom, sorry.
-/
import Derived.Test.YtiidghfkdjefgaaDoorRows
import GoSem.ClaimSeven
namespace Go.Proofs.YtiidghfkdjefgaaDoor
namespace Rows

/-- THE TIED CARD OF 'riddlelaw02.ZintDivides'. -/
def zintDividesCard : Claim7 := { stood := { row := zintDividesRow, standIns := [], harness := (true, "5d1bb01a24ba60d98b85fa929a92c22bfcf6118c6885cb68ec19442271ced865"), looks := false }, kinds := [], alts := [], laidByText := true, laidKinds := [.data, .pinned], laidTests := true, laidLooks := .later }
def ZintDividesCardSaid : Prop := Claim7.holds Tryd.pinned (.plain (OpenSpec.ofChange zintDividesSpec)) zintDividesCard

/-- THE TIED CARD OF 'riddlelaw02.ZintTexts'. -/
def zintTextsCard : Claim7 := { stood := { row := zintTextsRow, standIns := [], harness := (true, "5d1bb01a24ba60d98b85fa929a92c22bfcf6118c6885cb68ec19442271ced865"), looks := false }, kinds := [], alts := [], laidByText := true, laidKinds := [.data, .pinned], laidTests := true, laidLooks := .later }
def ZintTextsCardSaid : Prop := Claim7.holds Tryd.pinned (.plain (OpenSpec.ofChange zintTextsSpec)) zintTextsCard

/-- THE TIED CARD OF 'riddlelaw02.ZintRing'. -/
def zintRingCard : Claim7 := { stood := { row := zintRingRow, standIns := [], harness := (true, "5d1bb01a24ba60d98b85fa929a92c22bfcf6118c6885cb68ec19442271ced865"), looks := false }, kinds := [], alts := [], laidByText := true, laidKinds := [.data, .pinned], laidTests := true, laidLooks := .later }
def ZintRingCardSaid : Prop := Claim7.holds Tryd.pinned (.plain (OpenSpec.ofChange zintRingSpec)) zintRingCard

/-- THE TIED CARD OF 'riddlelaw02.ZintReckons'. -/
def zintReckonsCard : Claim7 := { stood := { row := zintReckonsRow, standIns := [], harness := (true, "5d1bb01a24ba60d98b85fa929a92c22bfcf6118c6885cb68ec19442271ced865"), looks := false }, kinds := [], alts := [], laidByText := true, laidKinds := [.data, .pinned], laidTests := true, laidLooks := .later }
def ZintReckonsCardSaid : Prop := Claim7.holds Tryd.pinned (.plain (OpenSpec.ofChange zintReckonsSpec)) zintReckonsCard

/-- THE TIED CARD OF 'riddlelaw02.ZintQuotient'. -/
def zintQuotientCard : Claim7 := { stood := { row := zintQuotientRow, standIns := [], harness := (true, "5d1bb01a24ba60d98b85fa929a92c22bfcf6118c6885cb68ec19442271ced865"), looks := false }, kinds := [], alts := [], laidByText := true, laidKinds := [.data, .pinned], laidTests := true, laidLooks := .later }
def ZintQuotientCardSaid : Prop := Claim7.holds Tryd.pinned (.plain (OpenSpec.ofChange zintQuotientSpec)) zintQuotientCard

/-- THE TIED CARD OF 'riddlelaw02.ZintStands'. -/
def zintStandsCard : Claim7 := { stood := { row := zintStandsRow, standIns := [], harness := (true, "5d1bb01a24ba60d98b85fa929a92c22bfcf6118c6885cb68ec19442271ced865"), looks := false }, kinds := [], alts := [], laidByText := true, laidKinds := [.data, .pinned], laidTests := true, laidLooks := .later }
def ZintStandsCardSaid : Prop := Claim7.holds Tryd.pinned (.plain (OpenSpec.ofChange zintStandsSpec)) zintStandsCard

/-- THE TIED CARD OF 'riddlelaw02.ZintDivisors'. -/
def zintDivisorsCard : Claim7 := { stood := { row := zintDivisorsRow, standIns := [], harness := (true, "5d1bb01a24ba60d98b85fa929a92c22bfcf6118c6885cb68ec19442271ced865"), looks := false }, kinds := [], alts := [], laidByText := true, laidKinds := [.data, .pinned], laidTests := true, laidLooks := .later }
def ZintDivisorsCardSaid : Prop := Claim7.holds Tryd.pinned (.plain (OpenSpec.ofChange zintDivisorsSpec)) zintDivisorsCard

/-- THE TIED CARD OF 'riddlelaw02.ZintMemory'. -/
def zintMemoryCard : Claim7 := { stood := { row := zintMemoryRow, standIns := [], harness := (true, "5d1bb01a24ba60d98b85fa929a92c22bfcf6118c6885cb68ec19442271ced865"), looks := false }, kinds := [], alts := [], laidByText := true, laidKinds := [.data, .pinned], laidTests := true, laidLooks := .later }
def ZintMemoryCardSaid : Prop := Claim7.holds Tryd.pinned (.plain (OpenSpec.ofChange zintMemorySpec)) zintMemoryCard

/-- THE TIED CARD OF 'riddlelaw02.ZintCommon'. -/
def zintCommonCard : Claim7 := { stood := { row := zintCommonRow, standIns := [], harness := (true, "5d1bb01a24ba60d98b85fa929a92c22bfcf6118c6885cb68ec19442271ced865"), looks := false }, kinds := [], alts := [], laidByText := true, laidKinds := [.data, .pinned], laidTests := true, laidLooks := .later }
def ZintCommonCardSaid : Prop := Claim7.holds Tryd.pinned (.plain (OpenSpec.ofChange zintCommonSpec)) zintCommonCard

/-- THE SECOND FORM's CARD OF 'riddlelaw02.ZintDivides'. -/
def zintDividesUptoCard : Claim7 := { stood := { row := zintDividesUptoRow, standIns := [], harness := (true, "5d1bb01a24ba60d98b85fa929a92c22bfcf6118c6885cb68ec19442271ced865"), looks := false }, kinds := [], alts := [], laidByText := true, laidKinds := [.data, .pinned], laidTests := true, laidLooks := .later }
def ZintDividesUptoCardSaid : Prop := Claim7.holds Tryd.pinned (.plain (OpenSpec.upto zintDividesSpec)) zintDividesUptoCard

/-- THE SECOND FORM's CARD OF 'riddlelaw02.ZintTexts'. -/
def zintTextsUptoCard : Claim7 := { stood := { row := zintTextsUptoRow, standIns := [], harness := (true, "5d1bb01a24ba60d98b85fa929a92c22bfcf6118c6885cb68ec19442271ced865"), looks := false }, kinds := [], alts := [], laidByText := true, laidKinds := [.data, .pinned], laidTests := true, laidLooks := .later }
def ZintTextsUptoCardSaid : Prop := Claim7.holds Tryd.pinned (.plain (OpenSpec.upto zintTextsSpec)) zintTextsUptoCard

/-- THE SECOND FORM's CARD OF 'riddlelaw02.ZintRing'. -/
def zintRingUptoCard : Claim7 := { stood := { row := zintRingUptoRow, standIns := [], harness := (true, "5d1bb01a24ba60d98b85fa929a92c22bfcf6118c6885cb68ec19442271ced865"), looks := false }, kinds := [], alts := [], laidByText := true, laidKinds := [.data, .pinned], laidTests := true, laidLooks := .later }
def ZintRingUptoCardSaid : Prop := Claim7.holds Tryd.pinned (.plain (OpenSpec.upto zintRingSpec)) zintRingUptoCard

/-- THE SECOND FORM's CARD OF 'riddlelaw02.ZintReckons'. -/
def zintReckonsUptoCard : Claim7 := { stood := { row := zintReckonsUptoRow, standIns := [], harness := (true, "5d1bb01a24ba60d98b85fa929a92c22bfcf6118c6885cb68ec19442271ced865"), looks := false }, kinds := [], alts := [], laidByText := true, laidKinds := [.data, .pinned], laidTests := true, laidLooks := .later }
def ZintReckonsUptoCardSaid : Prop := Claim7.holds Tryd.pinned (.plain (OpenSpec.upto zintReckonsSpec)) zintReckonsUptoCard

/-- THE SECOND FORM's CARD OF 'riddlelaw02.ZintQuotient'. -/
def zintQuotientUptoCard : Claim7 := { stood := { row := zintQuotientUptoRow, standIns := [], harness := (true, "5d1bb01a24ba60d98b85fa929a92c22bfcf6118c6885cb68ec19442271ced865"), looks := false }, kinds := [], alts := [], laidByText := true, laidKinds := [.data, .pinned], laidTests := true, laidLooks := .later }
def ZintQuotientUptoCardSaid : Prop := Claim7.holds Tryd.pinned (.plain (OpenSpec.upto zintQuotientSpec)) zintQuotientUptoCard

/-- THE SECOND FORM's CARD OF 'riddlelaw02.ZintStands'. -/
def zintStandsUptoCard : Claim7 := { stood := { row := zintStandsUptoRow, standIns := [], harness := (true, "5d1bb01a24ba60d98b85fa929a92c22bfcf6118c6885cb68ec19442271ced865"), looks := false }, kinds := [], alts := [], laidByText := true, laidKinds := [.data, .pinned], laidTests := true, laidLooks := .later }
def ZintStandsUptoCardSaid : Prop := Claim7.holds Tryd.pinned (.plain (OpenSpec.upto zintStandsSpec)) zintStandsUptoCard

/-- THE SECOND FORM's CARD OF 'riddlelaw02.ZintDivisors'. -/
def zintDivisorsUptoCard : Claim7 := { stood := { row := zintDivisorsUptoRow, standIns := [], harness := (true, "5d1bb01a24ba60d98b85fa929a92c22bfcf6118c6885cb68ec19442271ced865"), looks := false }, kinds := [], alts := [], laidByText := true, laidKinds := [.data, .pinned], laidTests := true, laidLooks := .later }
def ZintDivisorsUptoCardSaid : Prop := Claim7.holds Tryd.pinned (.plain (OpenSpec.upto zintDivisorsSpec)) zintDivisorsUptoCard

/-- THE SECOND FORM's CARD OF 'riddlelaw02.ZintMemory'. -/
def zintMemoryUptoCard : Claim7 := { stood := { row := zintMemoryUptoRow, standIns := [], harness := (true, "5d1bb01a24ba60d98b85fa929a92c22bfcf6118c6885cb68ec19442271ced865"), looks := false }, kinds := [], alts := [], laidByText := true, laidKinds := [.data, .pinned], laidTests := true, laidLooks := .later }
def ZintMemoryUptoCardSaid : Prop := Claim7.holds Tryd.pinned (.plain (OpenSpec.upto zintMemorySpec)) zintMemoryUptoCard

/-- THE SECOND FORM's CARD OF 'riddlelaw02.ZintCommon'. -/
def zintCommonUptoCard : Claim7 := { stood := { row := zintCommonUptoRow, standIns := [], harness := (true, "5d1bb01a24ba60d98b85fa929a92c22bfcf6118c6885cb68ec19442271ced865"), looks := false }, kinds := [], alts := [], laidByText := true, laidKinds := [.data, .pinned], laidTests := true, laidLooks := .later }
def ZintCommonUptoCardSaid : Prop := Claim7.holds Tryd.pinned (.plain (OpenSpec.upto zintCommonSpec)) zintCommonUptoCard
end Rows
end Go.Proofs.YtiidghfkdjefgaaDoor
