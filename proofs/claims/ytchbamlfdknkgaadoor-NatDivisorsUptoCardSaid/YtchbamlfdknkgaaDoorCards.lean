/-
  DERIVED. GIVEN WITH THE SEED: THE CARDS: each row of YtchbamlfdknkgaaDoorRows.lean that lists a variable, with what it lists TIED to the program's text (the seventh form; the later family's looks); each row that meets fmt, with fmt's text TOLD by the authors' own Lean function (tested against real Go, not proved from fmt's source: count such statements apart). THE CARD IS WHAT COUNTS. Prove the row's statement (the work); the ties are given (YtchbamlfdknkgaaDoorTie.lean); close each card by the builder's one call (the guide's Derived/Test/ToyasCard.lean, 'card_holds'). Laid BY PROGRAM, IN A SANDBOX (cutbox-door.mjs). By AI agents, Wed Nov 11 2026. No macro, syntax, notation, axiom, sorry.
-/
import Derived.Test.YtchbamlfdknkgaaDoorRows
import GoSem.ClaimSeven
namespace Go.Proofs.YtchbamlfdknkgaaDoor
namespace Rows

/-- THE TIED CARD OF 'riddlelaw03.LexTokens'. -/
def lexTokensCard : Claim7 := { stood := { row := lexTokensRow, standIns := [], harness := (true, "b74a0349d7d1db523c5b5f7212364581aceb0f2e840faa2f4cbcbc4e4df4480a"), looks := false }, kinds := [], alts := [], laidByText := true, laidKinds := [.data, .pinned], laidTests := true, laidLooks := .later }
def LexTokensCardSaid : Prop := Claim7.holds Tryd.pinned (.plain (OpenSpec.ofChange lexTokensSpec)) lexTokensCard

/-- THE TIED CARD OF 'riddlelaw03.LexWords'. -/
def lexWordsCard : Claim7 := { stood := { row := lexWordsRow, standIns := [], harness := (true, "b74a0349d7d1db523c5b5f7212364581aceb0f2e840faa2f4cbcbc4e4df4480a"), looks := false }, kinds := [], alts := [], laidByText := true, laidKinds := [.data, .pinned], laidTests := true, laidLooks := .later }
def LexWordsCardSaid : Prop := Claim7.holds Tryd.pinned (.plain (OpenSpec.ofChange lexWordsSpec)) lexWordsCard

/-- THE TIED CARD OF 'riddlelaw03.LexNames'. -/
def lexNamesCard : Claim7 := { stood := { row := lexNamesRow, standIns := [], harness := (true, "b74a0349d7d1db523c5b5f7212364581aceb0f2e840faa2f4cbcbc4e4df4480a"), looks := false }, kinds := [], alts := [], laidByText := true, laidKinds := [.data, .pinned], laidTests := true, laidLooks := .later }
def LexNamesCardSaid : Prop := Claim7.holds Tryd.pinned (.plain (OpenSpec.ofChange lexNamesSpec)) lexNamesCard

/-- THE TIED CARD OF 'riddlelaw03.LexBlanks'. -/
def lexBlanksCard : Claim7 := { stood := { row := lexBlanksRow, standIns := [], harness := (true, "b74a0349d7d1db523c5b5f7212364581aceb0f2e840faa2f4cbcbc4e4df4480a"), looks := false }, kinds := [], alts := [], laidByText := true, laidKinds := [.data, .pinned], laidTests := true, laidLooks := .later }
def LexBlanksCardSaid : Prop := Claim7.holds Tryd.pinned (.plain (OpenSpec.ofChange lexBlanksSpec)) lexBlanksCard

/-- THE TIED CARD OF 'riddlelaw03.LexWhole'. -/
def lexWholeCard : Claim7 := { stood := { row := lexWholeRow, standIns := [], harness := (true, "b74a0349d7d1db523c5b5f7212364581aceb0f2e840faa2f4cbcbc4e4df4480a"), looks := false }, kinds := [], alts := [], laidByText := true, laidKinds := [.data, .pinned], laidTests := true, laidLooks := .later }
def LexWholeCardSaid : Prop := Claim7.holds Tryd.pinned (.plain (OpenSpec.ofChange lexWholeSpec)) lexWholeCard

/-- THE TIED CARD OF 'riddlelaw01.NatMultiplies'. -/
def natMultipliesCard : Claim7 := { stood := { row := natMultipliesRow, standIns := [], harness := (true, "b74a0349d7d1db523c5b5f7212364581aceb0f2e840faa2f4cbcbc4e4df4480a"), looks := false }, kinds := [], alts := [], laidByText := true, laidKinds := [.data, .pinned], laidTests := true, laidLooks := .later }
def NatMultipliesCardSaid : Prop := Claim7.holds Tryd.pinned (.plain (OpenSpec.ofChange natMultipliesSpec)) natMultipliesCard

/-- THE TIED CARD OF 'riddlelaw01.NatTexts'. -/
def natTextsCard : Claim7 := { stood := { row := natTextsRow, standIns := [], harness := (true, "b74a0349d7d1db523c5b5f7212364581aceb0f2e840faa2f4cbcbc4e4df4480a"), looks := false }, kinds := [], alts := [], laidByText := true, laidKinds := [.data, .pinned], laidTests := true, laidLooks := .later }
def NatTextsCardSaid : Prop := Claim7.holds Tryd.pinned (.plain (OpenSpec.ofChange natTextsSpec)) natTextsCard

/-- THE TIED CARD OF 'riddlelaw01.NatTells'. -/
def natTellsCard : Claim7 := { stood := { row := natTellsRow, standIns := [], harness := (true, "b74a0349d7d1db523c5b5f7212364581aceb0f2e840faa2f4cbcbc4e4df4480a"), looks := false }, kinds := [], alts := [], laidByText := true, laidKinds := [.data, .pinned], laidTests := true, laidLooks := .later }
def NatTellsCardSaid : Prop := Claim7.holds Tryd.pinned (.plain (OpenSpec.ofChange natTellsSpec)) natTellsCard

/-- THE TIED CARD OF 'riddlelaw01.NatDivisors'. -/
def natDivisorsCard : Claim7 := { stood := { row := natDivisorsRow, standIns := [], harness := (true, "b74a0349d7d1db523c5b5f7212364581aceb0f2e840faa2f4cbcbc4e4df4480a"), looks := false }, kinds := [], alts := [], laidByText := true, laidKinds := [.data, .pinned], laidTests := true, laidLooks := .later }
def NatDivisorsCardSaid : Prop := Claim7.holds Tryd.pinned (.plain (OpenSpec.ofChange natDivisorsSpec)) natDivisorsCard

/-- THE TIED CARD OF 'riddlelaw01.NatDivides'. -/
def natDividesCard : Claim7 := { stood := { row := natDividesRow, standIns := [], harness := (true, "b74a0349d7d1db523c5b5f7212364581aceb0f2e840faa2f4cbcbc4e4df4480a"), looks := false }, kinds := [], alts := [], laidByText := true, laidKinds := [.data, .pinned], laidTests := true, laidLooks := .later }
def NatDividesCardSaid : Prop := Claim7.holds Tryd.pinned (.plain (OpenSpec.ofChange natDividesSpec)) natDividesCard

/-- THE TIED CARD OF 'riddlelaw01.NatDigits'. -/
def natDigitsCard : Claim7 := { stood := { row := natDigitsRow, standIns := [], harness := (true, "b74a0349d7d1db523c5b5f7212364581aceb0f2e840faa2f4cbcbc4e4df4480a"), looks := false }, kinds := [], alts := [], laidByText := true, laidKinds := [.data, .pinned], laidTests := true, laidLooks := .later }
def NatDigitsCardSaid : Prop := Claim7.holds Tryd.pinned (.plain (OpenSpec.ofChange natDigitsSpec)) natDigitsCard

/-- THE TIED CARD OF 'riddlelaw01.NatCommon'. -/
def natCommonCard : Claim7 := { stood := { row := natCommonRow, standIns := [], harness := (true, "b74a0349d7d1db523c5b5f7212364581aceb0f2e840faa2f4cbcbc4e4df4480a"), looks := false }, kinds := [], alts := [], laidByText := true, laidKinds := [.data, .pinned], laidTests := true, laidLooks := .later }
def NatCommonCardSaid : Prop := Claim7.holds Tryd.pinned (.plain (OpenSpec.ofChange natCommonSpec)) natCommonCard

/-- THE TIED CARD OF 'riddlelaw01.NatAdds'. -/
def natAddsCard : Claim7 := { stood := { row := natAddsRow, standIns := [], harness := (true, "b74a0349d7d1db523c5b5f7212364581aceb0f2e840faa2f4cbcbc4e4df4480a"), looks := false }, kinds := [], alts := [], laidByText := true, laidKinds := [.data, .pinned], laidTests := true, laidLooks := .later }
def NatAddsCardSaid : Prop := Claim7.holds Tryd.pinned (.plain (OpenSpec.ofChange natAddsSpec)) natAddsCard

/-- THE TIED CARD OF 'riddlelaw01.NatRing'. -/
def natRingCard : Claim7 := { stood := { row := natRingRow, standIns := [], harness := (true, "b74a0349d7d1db523c5b5f7212364581aceb0f2e840faa2f4cbcbc4e4df4480a"), looks := false }, kinds := [], alts := [], laidByText := true, laidKinds := [.data, .pinned], laidTests := true, laidLooks := .later }
def NatRingCardSaid : Prop := Claim7.holds Tryd.pinned (.plain (OpenSpec.ofChange natRingSpec)) natRingCard

/-- THE TIED CARD OF 'riddlelaw01.NatOrder'. -/
def natOrderCard : Claim7 := { stood := { row := natOrderRow, standIns := [], harness := (true, "b74a0349d7d1db523c5b5f7212364581aceb0f2e840faa2f4cbcbc4e4df4480a"), looks := false }, kinds := [], alts := [], laidByText := true, laidKinds := [.data, .pinned], laidTests := true, laidLooks := .later }
def NatOrderCardSaid : Prop := Claim7.holds Tryd.pinned (.plain (OpenSpec.ofChange natOrderSpec)) natOrderCard

/-- THE SECOND FORM's CARD OF 'riddlelaw03.LexTokens'. -/
def lexTokensUptoCard : Claim7 := { stood := { row := lexTokensUptoRow, standIns := [], harness := (true, "b74a0349d7d1db523c5b5f7212364581aceb0f2e840faa2f4cbcbc4e4df4480a"), looks := false }, kinds := [], alts := [], laidByText := true, laidKinds := [.data, .pinned], laidTests := true, laidLooks := .later }
def LexTokensUptoCardSaid : Prop := Claim7.holds Tryd.pinned (.plain (OpenSpec.upto lexTokensSpec)) lexTokensUptoCard

/-- THE SECOND FORM's CARD OF 'riddlelaw03.LexWords'. -/
def lexWordsUptoCard : Claim7 := { stood := { row := lexWordsUptoRow, standIns := [], harness := (true, "b74a0349d7d1db523c5b5f7212364581aceb0f2e840faa2f4cbcbc4e4df4480a"), looks := false }, kinds := [], alts := [], laidByText := true, laidKinds := [.data, .pinned], laidTests := true, laidLooks := .later }
def LexWordsUptoCardSaid : Prop := Claim7.holds Tryd.pinned (.plain (OpenSpec.upto lexWordsSpec)) lexWordsUptoCard

/-- THE SECOND FORM's CARD OF 'riddlelaw03.LexNames'. -/
def lexNamesUptoCard : Claim7 := { stood := { row := lexNamesUptoRow, standIns := [], harness := (true, "b74a0349d7d1db523c5b5f7212364581aceb0f2e840faa2f4cbcbc4e4df4480a"), looks := false }, kinds := [], alts := [], laidByText := true, laidKinds := [.data, .pinned], laidTests := true, laidLooks := .later }
def LexNamesUptoCardSaid : Prop := Claim7.holds Tryd.pinned (.plain (OpenSpec.upto lexNamesSpec)) lexNamesUptoCard

/-- THE SECOND FORM's CARD OF 'riddlelaw03.LexBlanks'. -/
def lexBlanksUptoCard : Claim7 := { stood := { row := lexBlanksUptoRow, standIns := [], harness := (true, "b74a0349d7d1db523c5b5f7212364581aceb0f2e840faa2f4cbcbc4e4df4480a"), looks := false }, kinds := [], alts := [], laidByText := true, laidKinds := [.data, .pinned], laidTests := true, laidLooks := .later }
def LexBlanksUptoCardSaid : Prop := Claim7.holds Tryd.pinned (.plain (OpenSpec.upto lexBlanksSpec)) lexBlanksUptoCard

/-- THE SECOND FORM's CARD OF 'riddlelaw03.LexWhole'. -/
def lexWholeUptoCard : Claim7 := { stood := { row := lexWholeUptoRow, standIns := [], harness := (true, "b74a0349d7d1db523c5b5f7212364581aceb0f2e840faa2f4cbcbc4e4df4480a"), looks := false }, kinds := [], alts := [], laidByText := true, laidKinds := [.data, .pinned], laidTests := true, laidLooks := .later }
def LexWholeUptoCardSaid : Prop := Claim7.holds Tryd.pinned (.plain (OpenSpec.upto lexWholeSpec)) lexWholeUptoCard

/-- THE SECOND FORM's CARD OF 'riddlelaw01.NatMultiplies'. -/
def natMultipliesUptoCard : Claim7 := { stood := { row := natMultipliesUptoRow, standIns := [], harness := (true, "b74a0349d7d1db523c5b5f7212364581aceb0f2e840faa2f4cbcbc4e4df4480a"), looks := false }, kinds := [], alts := [], laidByText := true, laidKinds := [.data, .pinned], laidTests := true, laidLooks := .later }
def NatMultipliesUptoCardSaid : Prop := Claim7.holds Tryd.pinned (.plain (OpenSpec.upto natMultipliesSpec)) natMultipliesUptoCard

/-- THE SECOND FORM's CARD OF 'riddlelaw01.NatTexts'. -/
def natTextsUptoCard : Claim7 := { stood := { row := natTextsUptoRow, standIns := [], harness := (true, "b74a0349d7d1db523c5b5f7212364581aceb0f2e840faa2f4cbcbc4e4df4480a"), looks := false }, kinds := [], alts := [], laidByText := true, laidKinds := [.data, .pinned], laidTests := true, laidLooks := .later }
def NatTextsUptoCardSaid : Prop := Claim7.holds Tryd.pinned (.plain (OpenSpec.upto natTextsSpec)) natTextsUptoCard

/-- THE SECOND FORM's CARD OF 'riddlelaw01.NatTells'. -/
def natTellsUptoCard : Claim7 := { stood := { row := natTellsUptoRow, standIns := [], harness := (true, "b74a0349d7d1db523c5b5f7212364581aceb0f2e840faa2f4cbcbc4e4df4480a"), looks := false }, kinds := [], alts := [], laidByText := true, laidKinds := [.data, .pinned], laidTests := true, laidLooks := .later }
def NatTellsUptoCardSaid : Prop := Claim7.holds Tryd.pinned (.plain (OpenSpec.upto natTellsSpec)) natTellsUptoCard

/-- THE SECOND FORM's CARD OF 'riddlelaw01.NatDivisors'. -/
def natDivisorsUptoCard : Claim7 := { stood := { row := natDivisorsUptoRow, standIns := [], harness := (true, "b74a0349d7d1db523c5b5f7212364581aceb0f2e840faa2f4cbcbc4e4df4480a"), looks := false }, kinds := [], alts := [], laidByText := true, laidKinds := [.data, .pinned], laidTests := true, laidLooks := .later }
def NatDivisorsUptoCardSaid : Prop := Claim7.holds Tryd.pinned (.plain (OpenSpec.upto natDivisorsSpec)) natDivisorsUptoCard

/-- THE SECOND FORM's CARD OF 'riddlelaw01.NatDivides'. -/
def natDividesUptoCard : Claim7 := { stood := { row := natDividesUptoRow, standIns := [], harness := (true, "b74a0349d7d1db523c5b5f7212364581aceb0f2e840faa2f4cbcbc4e4df4480a"), looks := false }, kinds := [], alts := [], laidByText := true, laidKinds := [.data, .pinned], laidTests := true, laidLooks := .later }
def NatDividesUptoCardSaid : Prop := Claim7.holds Tryd.pinned (.plain (OpenSpec.upto natDividesSpec)) natDividesUptoCard

/-- THE SECOND FORM's CARD OF 'riddlelaw01.NatDigits'. -/
def natDigitsUptoCard : Claim7 := { stood := { row := natDigitsUptoRow, standIns := [], harness := (true, "b74a0349d7d1db523c5b5f7212364581aceb0f2e840faa2f4cbcbc4e4df4480a"), looks := false }, kinds := [], alts := [], laidByText := true, laidKinds := [.data, .pinned], laidTests := true, laidLooks := .later }
def NatDigitsUptoCardSaid : Prop := Claim7.holds Tryd.pinned (.plain (OpenSpec.upto natDigitsSpec)) natDigitsUptoCard

/-- THE SECOND FORM's CARD OF 'riddlelaw01.NatCommon'. -/
def natCommonUptoCard : Claim7 := { stood := { row := natCommonUptoRow, standIns := [], harness := (true, "b74a0349d7d1db523c5b5f7212364581aceb0f2e840faa2f4cbcbc4e4df4480a"), looks := false }, kinds := [], alts := [], laidByText := true, laidKinds := [.data, .pinned], laidTests := true, laidLooks := .later }
def NatCommonUptoCardSaid : Prop := Claim7.holds Tryd.pinned (.plain (OpenSpec.upto natCommonSpec)) natCommonUptoCard

/-- THE SECOND FORM's CARD OF 'riddlelaw01.NatAdds'. -/
def natAddsUptoCard : Claim7 := { stood := { row := natAddsUptoRow, standIns := [], harness := (true, "b74a0349d7d1db523c5b5f7212364581aceb0f2e840faa2f4cbcbc4e4df4480a"), looks := false }, kinds := [], alts := [], laidByText := true, laidKinds := [.data, .pinned], laidTests := true, laidLooks := .later }
def NatAddsUptoCardSaid : Prop := Claim7.holds Tryd.pinned (.plain (OpenSpec.upto natAddsSpec)) natAddsUptoCard

/-- THE SECOND FORM's CARD OF 'riddlelaw01.NatRing'. -/
def natRingUptoCard : Claim7 := { stood := { row := natRingUptoRow, standIns := [], harness := (true, "b74a0349d7d1db523c5b5f7212364581aceb0f2e840faa2f4cbcbc4e4df4480a"), looks := false }, kinds := [], alts := [], laidByText := true, laidKinds := [.data, .pinned], laidTests := true, laidLooks := .later }
def NatRingUptoCardSaid : Prop := Claim7.holds Tryd.pinned (.plain (OpenSpec.upto natRingSpec)) natRingUptoCard

/-- THE SECOND FORM's CARD OF 'riddlelaw01.NatOrder'. -/
def natOrderUptoCard : Claim7 := { stood := { row := natOrderUptoRow, standIns := [], harness := (true, "b74a0349d7d1db523c5b5f7212364581aceb0f2e840faa2f4cbcbc4e4df4480a"), looks := false }, kinds := [], alts := [], laidByText := true, laidKinds := [.data, .pinned], laidTests := true, laidLooks := .later }
def NatOrderUptoCardSaid : Prop := Claim7.holds Tryd.pinned (.plain (OpenSpec.upto natOrderSpec)) natOrderUptoCard
end Rows
end Go.Proofs.YtchbamlfdknkgaaDoor
