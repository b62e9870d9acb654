/-
  NARROWER THAN 'FOR EVERY INPUT', by the rows' own cells (each row's printed sentence says how): LexTokens: laid · LexWords: laid · LexNames: laid · LexBlanks: laid · LexWhole: laid · NatMultiplies: laid · NatTexts: laid · NatTells: laid · NatDivisors: laid · NatDivides: laid · NatDigits: laid · NatCommon: laid · NatAdds: laid · NatRing: laid · NatOrder: laid.
  DERIVED. THE GIVEN ROWS OF THIS SEAT. 15 by the template 'for every input the law returns true; each argument reads behind the call as it read before'; 0 by the template 'total and deterministic' (their statements: YtchbamlfdknkgaaDoorTotals.lean).
  GIVEN WITH THE SEED: the statements are not yours to turn. If you find one false, say at which input.
  Laid BY PROGRAM, IN A SANDBOX (cutbox-rows.mjs): the forced cells as the released guide's own fill.sh prints them over the translation bde9ae0879832a88… (all of the seat's roots in one cut). By AI agents, Wed Nov 11 2026. No macro, syntax, notation, axiom, sorry.
-/
import Derived.Test.YtchbamlfdknkgaaDoorChecked
import GoSem.PinnedTables
import GoSem.Claim
import GoSem.ClaimJoined
import GoSem.ClaimMapViews
import Derived.JoinedTies
import Derived.KernelRfl
namespace Go.Proofs.YtchbamlfdknkgaaDoor
/- THE CELL 'sum', in the pinned program and in every row, IS THE sha256 OF THE DUMP (.gsa) THAT YtchbamlfdknkgaaDoorProg.lean LOADS. Nothing in Lean hashes anything: it is a label: what it is worth is what the hold of that sum in a sandbox is worth. -/
noncomputable def Tryd.pinned : Pinned := { name := "ytchbamlfdknkgaadoor", sum := "bde9ae0879832a8819bcf658b5e95fe7a08d58deba7240dd2826d11e104ab906", checked := Tryd.checked }
namespace Rows
def none {H : Type} : Left H := { results := [], args := [] }

/- WHAT THE LISTED PACKAGE-LEVEL VARIABLES READ AS WHEN THE CALL BEGINS. Each datum BY PROGRAM (the guide's laid-datum.mjs) off the statement by which the dump's own 'gosem.cut.vars' lays the variable. In a bare row this is a premise. The card (YtchbamlfdknkgaaDoorCards.lean) ties it to the program's text. -/
def laid_unicode_utf8_acceptRanges {H : Type} : DataW H := .agg [.agg [.lit (.int .u8 128), .lit (.int .u8 191)], .agg [.lit (.int .u8 160), .lit (.int .u8 191)], .agg [.lit (.int .u8 128), .lit (.int .u8 159)], .agg [.lit (.int .u8 144), .lit (.int .u8 191)], .agg [.lit (.int .u8 128), .lit (.int .u8 143)], .agg [.lit (.int .u8 0), .lit (.int .u8 0)], .agg [.lit (.int .u8 0), .lit (.int .u8 0)], .agg [.lit (.int .u8 0), .lit (.int .u8 0)], .agg [.lit (.int .u8 0), .lit (.int .u8 0)], .agg [.lit (.int .u8 0), .lit (.int .u8 0)], .agg [.lit (.int .u8 0), .lit (.int .u8 0)], .agg [.lit (.int .u8 0), .lit (.int .u8 0)], .agg [.lit (.int .u8 0), .lit (.int .u8 0)], .agg [.lit (.int .u8 0), .lit (.int .u8 0)], .agg [.lit (.int .u8 0), .lit (.int .u8 0)], .agg [.lit (.int .u8 0), .lit (.int .u8 0)]]
/-- One of Go's own tables, pinned by name: the form's constant. -/
def laid_unicode_utf8_first : DataW Unit := Go.Pinned.utf8First

/-- 'riddlelaw03.LexTokens': WHATEVER THE INPUT: true; the input reads as it did. -/
def lexTokensSpec : ChangeSpec := { name := "lexTokens", fn := fun _ => fun
  | [d] => { results := [.lit (.bool true)], args := [d] }
  | _ => none }
def lexTokensRow : OpenClaim := { program := "ytchbamlfdknkgaadoor", sum := "bde9ae0879832a8819bcf658b5e95fe7a08d58deba7240dd2826d11e104ab906", func := "riddle/riddlelaw03.LexTokens", spec := "lexTokens", inPlace := ["internal/bytealg.IndexByteString", "internal/bytealg.IndexString"], unfollowed := true, recurses := true, named := ["unicode/utf8.first", "unicode/utf8.acceptRanges", "internal/bytealg.MaxLen"], apart := false, laid := [("unicode/utf8.acceptRanges", laid_unicode_utf8_acceptRanges), ("unicode/utf8.first", laid_unicode_utf8_first)] }
def LexTokensSaid : Prop := lexTokensRow.holds Tryd.pinned (OpenSpec.ofChange lexTokensSpec)

/-- ITS FALSE NEIGHBOUR: 'it returns false'. Refute it at one input. -/
def lexTokensWrong : ChangeSpec := { name := "lexTokens", fn := fun _ => fun
  | [d] => { results := [.lit (.bool false)], args := [d] }
  | _ => none }
def LexTokensWrongFalsely : Prop := lexTokensRow.holds Tryd.pinned (OpenSpec.ofChange lexTokensWrong)

/-- 'riddlelaw03.LexWords': WHATEVER THE INPUT: true; the input reads as it did. -/
def lexWordsSpec : ChangeSpec := { name := "lexWords", fn := fun _ => fun
  | [d1, d2] => { results := [.lit (.bool true)], args := [d1, d2] }
  | _ => none }
def lexWordsRow : OpenClaim := { program := "ytchbamlfdknkgaadoor", sum := "bde9ae0879832a8819bcf658b5e95fe7a08d58deba7240dd2826d11e104ab906", func := "riddle/riddlelaw03.LexWords", spec := "lexWords", inPlace := ["internal/bytealg.IndexByteString", "internal/bytealg.IndexString"], unfollowed := true, recurses := true, named := ["unicode/utf8.first", "unicode/utf8.acceptRanges", "internal/bytealg.MaxLen"], apart := false, laid := [("unicode/utf8.acceptRanges", laid_unicode_utf8_acceptRanges), ("unicode/utf8.first", laid_unicode_utf8_first)] }
def LexWordsSaid : Prop := lexWordsRow.holds Tryd.pinned (OpenSpec.ofChange lexWordsSpec)

/-- ITS FALSE NEIGHBOUR: 'it returns false'. Refute it at one input. -/
def lexWordsWrong : ChangeSpec := { name := "lexWords", fn := fun _ => fun
  | [d1, d2] => { results := [.lit (.bool false)], args := [d1, d2] }
  | _ => none }
def LexWordsWrongFalsely : Prop := lexWordsRow.holds Tryd.pinned (OpenSpec.ofChange lexWordsWrong)

/-- 'riddlelaw03.LexNames': WHATEVER THE INPUT: true; the input reads as it did. -/
def lexNamesSpec : ChangeSpec := { name := "lexNames", fn := fun _ => fun
  | [d] => { results := [.lit (.bool true)], args := [d] }
  | _ => none }
def lexNamesRow : OpenClaim := { program := "ytchbamlfdknkgaadoor", sum := "bde9ae0879832a8819bcf658b5e95fe7a08d58deba7240dd2826d11e104ab906", func := "riddle/riddlelaw03.LexNames", spec := "lexNames", inPlace := ["internal/bytealg.IndexByteString", "internal/bytealg.IndexString"], unfollowed := true, recurses := true, named := ["unicode/utf8.first", "unicode/utf8.acceptRanges", "internal/bytealg.MaxLen"], apart := false, laid := [("unicode/utf8.acceptRanges", laid_unicode_utf8_acceptRanges), ("unicode/utf8.first", laid_unicode_utf8_first)] }
def LexNamesSaid : Prop := lexNamesRow.holds Tryd.pinned (OpenSpec.ofChange lexNamesSpec)

/-- ITS FALSE NEIGHBOUR: 'it returns false'. Refute it at one input. -/
def lexNamesWrong : ChangeSpec := { name := "lexNames", fn := fun _ => fun
  | [d] => { results := [.lit (.bool false)], args := [d] }
  | _ => none }
def LexNamesWrongFalsely : Prop := lexNamesRow.holds Tryd.pinned (OpenSpec.ofChange lexNamesWrong)

/-- 'riddlelaw03.LexBlanks': WHATEVER THE INPUT: true; the input reads as it did. -/
def lexBlanksSpec : ChangeSpec := { name := "lexBlanks", fn := fun _ => fun
  | [d1, d2] => { results := [.lit (.bool true)], args := [d1, d2] }
  | _ => none }
def lexBlanksRow : OpenClaim := { program := "ytchbamlfdknkgaadoor", sum := "bde9ae0879832a8819bcf658b5e95fe7a08d58deba7240dd2826d11e104ab906", func := "riddle/riddlelaw03.LexBlanks", spec := "lexBlanks", inPlace := ["internal/bytealg.IndexByteString", "internal/bytealg.IndexString"], unfollowed := true, recurses := true, named := ["unicode/utf8.first", "unicode/utf8.acceptRanges", "internal/bytealg.MaxLen"], apart := false, laid := [("unicode/utf8.acceptRanges", laid_unicode_utf8_acceptRanges), ("unicode/utf8.first", laid_unicode_utf8_first)] }
def LexBlanksSaid : Prop := lexBlanksRow.holds Tryd.pinned (OpenSpec.ofChange lexBlanksSpec)

/-- ITS FALSE NEIGHBOUR: 'it returns false'. Refute it at one input. -/
def lexBlanksWrong : ChangeSpec := { name := "lexBlanks", fn := fun _ => fun
  | [d1, d2] => { results := [.lit (.bool false)], args := [d1, d2] }
  | _ => none }
def LexBlanksWrongFalsely : Prop := lexBlanksRow.holds Tryd.pinned (OpenSpec.ofChange lexBlanksWrong)

/-- 'riddlelaw03.LexWhole': WHATEVER THE INPUT: true; the input reads as it did. -/
def lexWholeSpec : ChangeSpec := { name := "lexWhole", fn := fun _ => fun
  | [d] => { results := [.lit (.bool true)], args := [d] }
  | _ => none }
def lexWholeRow : OpenClaim := { program := "ytchbamlfdknkgaadoor", sum := "bde9ae0879832a8819bcf658b5e95fe7a08d58deba7240dd2826d11e104ab906", func := "riddle/riddlelaw03.LexWhole", spec := "lexWhole", inPlace := ["internal/bytealg.IndexByteString", "internal/bytealg.IndexString"], unfollowed := true, recurses := true, named := ["unicode/utf8.first", "unicode/utf8.acceptRanges", "internal/bytealg.MaxLen"], apart := false, laid := [("unicode/utf8.acceptRanges", laid_unicode_utf8_acceptRanges), ("unicode/utf8.first", laid_unicode_utf8_first)] }
def LexWholeSaid : Prop := lexWholeRow.holds Tryd.pinned (OpenSpec.ofChange lexWholeSpec)

/-- ITS FALSE NEIGHBOUR: 'it returns false'. Refute it at one input. -/
def lexWholeWrong : ChangeSpec := { name := "lexWhole", fn := fun _ => fun
  | [d] => { results := [.lit (.bool false)], args := [d] }
  | _ => none }
def LexWholeWrongFalsely : Prop := lexWholeRow.holds Tryd.pinned (OpenSpec.ofChange lexWholeWrong)

/-- 'riddlelaw01.NatMultiplies': WHATEVER THE INPUT: true; the input reads as it did. -/
def natMultipliesSpec : ChangeSpec := { name := "natMultiplies", fn := fun _ => fun
  | [d1, d2] => { results := [.lit (.bool true)], args := [d1, d2] }
  | _ => none }
def natMultipliesRow : OpenClaim := { program := "ytchbamlfdknkgaadoor", sum := "bde9ae0879832a8819bcf658b5e95fe7a08d58deba7240dd2826d11e104ab906", func := "riddle/riddlelaw01.NatMultiplies", spec := "natMultiplies", inPlace := ["internal/bytealg.IndexByteString", "internal/bytealg.IndexString", "internal/abi.NoEscape"], named := ["unicode/utf8.first", "unicode/utf8.acceptRanges", "internal/bytealg.MaxLen"], apart := false, laid := [("unicode/utf8.acceptRanges", laid_unicode_utf8_acceptRanges), ("unicode/utf8.first", laid_unicode_utf8_first)] }
def NatMultipliesSaid : Prop := natMultipliesRow.holds Tryd.pinned (OpenSpec.ofChange natMultipliesSpec)

/-- ITS FALSE NEIGHBOUR: 'it returns false'. Refute it at one input. -/
def natMultipliesWrong : ChangeSpec := { name := "natMultiplies", fn := fun _ => fun
  | [d1, d2] => { results := [.lit (.bool false)], args := [d1, d2] }
  | _ => none }
def NatMultipliesWrongFalsely : Prop := natMultipliesRow.holds Tryd.pinned (OpenSpec.ofChange natMultipliesWrong)

/-- 'riddlelaw01.NatTexts': WHATEVER THE INPUT: true; the input reads as it did. -/
def natTextsSpec : ChangeSpec := { name := "natTexts", fn := fun _ => fun
  | [d1, d2] => { results := [.lit (.bool true)], args := [d1, d2] }
  | _ => none }
def natTextsRow : OpenClaim := { program := "ytchbamlfdknkgaadoor", sum := "bde9ae0879832a8819bcf658b5e95fe7a08d58deba7240dd2826d11e104ab906", func := "riddle/riddlelaw01.NatTexts", spec := "natTexts", inPlace := ["internal/abi.NoEscape", "internal/bytealg.IndexByteString", "internal/bytealg.IndexString"], named := ["unicode/utf8.first", "unicode/utf8.acceptRanges", "internal/bytealg.MaxLen"], apart := false, laid := [("unicode/utf8.acceptRanges", laid_unicode_utf8_acceptRanges), ("unicode/utf8.first", laid_unicode_utf8_first)] }
def NatTextsSaid : Prop := natTextsRow.holds Tryd.pinned (OpenSpec.ofChange natTextsSpec)

/-- ITS FALSE NEIGHBOUR: 'it returns false'. Refute it at one input. -/
def natTextsWrong : ChangeSpec := { name := "natTexts", fn := fun _ => fun
  | [d1, d2] => { results := [.lit (.bool false)], args := [d1, d2] }
  | _ => none }
def NatTextsWrongFalsely : Prop := natTextsRow.holds Tryd.pinned (OpenSpec.ofChange natTextsWrong)

/-- 'riddlelaw01.NatTells': WHATEVER THE INPUT: true; the input reads as it did. -/
def natTellsSpec : ChangeSpec := { name := "natTells", fn := fun _ => fun
  | [d1, d2, d3] => { results := [.lit (.bool true)], args := [d1, d2, d3] }
  | _ => none }
def natTellsRow : OpenClaim := { program := "ytchbamlfdknkgaadoor", sum := "bde9ae0879832a8819bcf658b5e95fe7a08d58deba7240dd2826d11e104ab906", func := "riddle/riddlelaw01.NatTells", spec := "natTells", inPlace := ["internal/bytealg.IndexByteString", "internal/bytealg.IndexString", "internal/abi.NoEscape"], named := ["unicode/utf8.first", "unicode/utf8.acceptRanges", "internal/bytealg.MaxLen"], apart := false, laid := [("unicode/utf8.acceptRanges", laid_unicode_utf8_acceptRanges), ("unicode/utf8.first", laid_unicode_utf8_first)] }
def NatTellsSaid : Prop := natTellsRow.holds Tryd.pinned (OpenSpec.ofChange natTellsSpec)

/-- ITS FALSE NEIGHBOUR: 'it returns false'. Refute it at one input. -/
def natTellsWrong : ChangeSpec := { name := "natTells", fn := fun _ => fun
  | [d1, d2, d3] => { results := [.lit (.bool false)], args := [d1, d2, d3] }
  | _ => none }
def NatTellsWrongFalsely : Prop := natTellsRow.holds Tryd.pinned (OpenSpec.ofChange natTellsWrong)

/-- 'riddlelaw01.NatDivisors': WHATEVER THE INPUT: true; the input reads as it did. -/
def natDivisorsSpec : ChangeSpec := { name := "natDivisors", fn := fun _ => fun
  | [d1, d2] => { results := [.lit (.bool true)], args := [d1, d2] }
  | _ => none }
def natDivisorsRow : OpenClaim := { program := "ytchbamlfdknkgaadoor", sum := "bde9ae0879832a8819bcf658b5e95fe7a08d58deba7240dd2826d11e104ab906", func := "riddle/riddlelaw01.NatDivisors", spec := "natDivisors", inPlace := ["internal/bytealg.IndexByteString", "internal/bytealg.IndexString", "internal/abi.NoEscape"], named := ["unicode/utf8.first", "unicode/utf8.acceptRanges", "internal/bytealg.MaxLen"], apart := false, laid := [("unicode/utf8.acceptRanges", laid_unicode_utf8_acceptRanges), ("unicode/utf8.first", laid_unicode_utf8_first)] }
def NatDivisorsSaid : Prop := natDivisorsRow.holds Tryd.pinned (OpenSpec.ofChange natDivisorsSpec)

/-- ITS FALSE NEIGHBOUR: 'it returns false'. Refute it at one input. -/
def natDivisorsWrong : ChangeSpec := { name := "natDivisors", fn := fun _ => fun
  | [d1, d2] => { results := [.lit (.bool false)], args := [d1, d2] }
  | _ => none }
def NatDivisorsWrongFalsely : Prop := natDivisorsRow.holds Tryd.pinned (OpenSpec.ofChange natDivisorsWrong)

/-- 'riddlelaw01.NatDivides': WHATEVER THE INPUT: true; the input reads as it did. -/
def natDividesSpec : ChangeSpec := { name := "natDivides", fn := fun _ => fun
  | [d1, d2, d3] => { results := [.lit (.bool true)], args := [d1, d2, d3] }
  | _ => none }
def natDividesRow : OpenClaim := { program := "ytchbamlfdknkgaadoor", sum := "bde9ae0879832a8819bcf658b5e95fe7a08d58deba7240dd2826d11e104ab906", func := "riddle/riddlelaw01.NatDivides", spec := "natDivides", inPlace := ["internal/bytealg.IndexByteString", "internal/bytealg.IndexString", "internal/abi.NoEscape"], named := ["unicode/utf8.first", "unicode/utf8.acceptRanges", "internal/bytealg.MaxLen"], apart := false, laid := [("unicode/utf8.acceptRanges", laid_unicode_utf8_acceptRanges), ("unicode/utf8.first", laid_unicode_utf8_first)] }
def NatDividesSaid : Prop := natDividesRow.holds Tryd.pinned (OpenSpec.ofChange natDividesSpec)

/-- ITS FALSE NEIGHBOUR: 'it returns false'. Refute it at one input. -/
def natDividesWrong : ChangeSpec := { name := "natDivides", fn := fun _ => fun
  | [d1, d2, d3] => { results := [.lit (.bool false)], args := [d1, d2, d3] }
  | _ => none }
def NatDividesWrongFalsely : Prop := natDividesRow.holds Tryd.pinned (OpenSpec.ofChange natDividesWrong)

/-- 'riddlelaw01.NatDigits': WHATEVER THE INPUT: true; the input reads as it did. -/
def natDigitsSpec : ChangeSpec := { name := "natDigits", fn := fun _ => fun
  | [d] => { results := [.lit (.bool true)], args := [d] }
  | _ => none }
def natDigitsRow : OpenClaim := { program := "ytchbamlfdknkgaadoor", sum := "bde9ae0879832a8819bcf658b5e95fe7a08d58deba7240dd2826d11e104ab906", func := "riddle/riddlelaw01.NatDigits", spec := "natDigits", inPlace := ["internal/bytealg.IndexByteString", "internal/bytealg.IndexString", "internal/abi.NoEscape"], named := ["unicode/utf8.first", "unicode/utf8.acceptRanges", "internal/bytealg.MaxLen"], apart := false, laid := [("unicode/utf8.acceptRanges", laid_unicode_utf8_acceptRanges), ("unicode/utf8.first", laid_unicode_utf8_first)] }
def NatDigitsSaid : Prop := natDigitsRow.holds Tryd.pinned (OpenSpec.ofChange natDigitsSpec)

/-- ITS FALSE NEIGHBOUR: 'it returns false'. Refute it at one input. -/
def natDigitsWrong : ChangeSpec := { name := "natDigits", fn := fun _ => fun
  | [d] => { results := [.lit (.bool false)], args := [d] }
  | _ => none }
def NatDigitsWrongFalsely : Prop := natDigitsRow.holds Tryd.pinned (OpenSpec.ofChange natDigitsWrong)

/-- 'riddlelaw01.NatCommon': WHATEVER THE INPUT: true; the input reads as it did. -/
def natCommonSpec : ChangeSpec := { name := "natCommon", fn := fun _ => fun
  | [d1, d2, d3] => { results := [.lit (.bool true)], args := [d1, d2, d3] }
  | _ => none }
def natCommonRow : OpenClaim := { program := "ytchbamlfdknkgaadoor", sum := "bde9ae0879832a8819bcf658b5e95fe7a08d58deba7240dd2826d11e104ab906", func := "riddle/riddlelaw01.NatCommon", spec := "natCommon", inPlace := ["internal/bytealg.IndexByteString", "internal/bytealg.IndexString", "internal/abi.NoEscape"], named := ["unicode/utf8.first", "unicode/utf8.acceptRanges", "internal/bytealg.MaxLen"], apart := false, laid := [("unicode/utf8.acceptRanges", laid_unicode_utf8_acceptRanges), ("unicode/utf8.first", laid_unicode_utf8_first)] }
def NatCommonSaid : Prop := natCommonRow.holds Tryd.pinned (OpenSpec.ofChange natCommonSpec)

/-- ITS FALSE NEIGHBOUR: 'it returns false'. Refute it at one input. -/
def natCommonWrong : ChangeSpec := { name := "natCommon", fn := fun _ => fun
  | [d1, d2, d3] => { results := [.lit (.bool false)], args := [d1, d2, d3] }
  | _ => none }
def NatCommonWrongFalsely : Prop := natCommonRow.holds Tryd.pinned (OpenSpec.ofChange natCommonWrong)

/-- 'riddlelaw01.NatAdds': WHATEVER THE INPUT: true; the input reads as it did. -/
def natAddsSpec : ChangeSpec := { name := "natAdds", fn := fun _ => fun
  | [d1, d2] => { results := [.lit (.bool true)], args := [d1, d2] }
  | _ => none }
def natAddsRow : OpenClaim := { program := "ytchbamlfdknkgaadoor", sum := "bde9ae0879832a8819bcf658b5e95fe7a08d58deba7240dd2826d11e104ab906", func := "riddle/riddlelaw01.NatAdds", spec := "natAdds", inPlace := ["internal/bytealg.IndexByteString", "internal/bytealg.IndexString", "internal/abi.NoEscape"], named := ["unicode/utf8.first", "unicode/utf8.acceptRanges", "internal/bytealg.MaxLen"], apart := false, laid := [("unicode/utf8.acceptRanges", laid_unicode_utf8_acceptRanges), ("unicode/utf8.first", laid_unicode_utf8_first)] }
def NatAddsSaid : Prop := natAddsRow.holds Tryd.pinned (OpenSpec.ofChange natAddsSpec)

/-- ITS FALSE NEIGHBOUR: 'it returns false'. Refute it at one input. -/
def natAddsWrong : ChangeSpec := { name := "natAdds", fn := fun _ => fun
  | [d1, d2] => { results := [.lit (.bool false)], args := [d1, d2] }
  | _ => none }
def NatAddsWrongFalsely : Prop := natAddsRow.holds Tryd.pinned (OpenSpec.ofChange natAddsWrong)

/-- 'riddlelaw01.NatRing': WHATEVER THE INPUT: true; the input reads as it did. -/
def natRingSpec : ChangeSpec := { name := "natRing", fn := fun _ => fun
  | [d1, d2, d3] => { results := [.lit (.bool true)], args := [d1, d2, d3] }
  | _ => none }
def natRingRow : OpenClaim := { program := "ytchbamlfdknkgaadoor", sum := "bde9ae0879832a8819bcf658b5e95fe7a08d58deba7240dd2826d11e104ab906", func := "riddle/riddlelaw01.NatRing", spec := "natRing", inPlace := ["internal/bytealg.IndexByteString", "internal/bytealg.IndexString", "internal/abi.NoEscape"], named := ["unicode/utf8.first", "unicode/utf8.acceptRanges", "internal/bytealg.MaxLen"], apart := false, laid := [("unicode/utf8.acceptRanges", laid_unicode_utf8_acceptRanges), ("unicode/utf8.first", laid_unicode_utf8_first)] }
def NatRingSaid : Prop := natRingRow.holds Tryd.pinned (OpenSpec.ofChange natRingSpec)

/-- ITS FALSE NEIGHBOUR: 'it returns false'. Refute it at one input. -/
def natRingWrong : ChangeSpec := { name := "natRing", fn := fun _ => fun
  | [d1, d2, d3] => { results := [.lit (.bool false)], args := [d1, d2, d3] }
  | _ => none }
def NatRingWrongFalsely : Prop := natRingRow.holds Tryd.pinned (OpenSpec.ofChange natRingWrong)

/-- 'riddlelaw01.NatOrder': WHATEVER THE INPUT: true; the input reads as it did. -/
def natOrderSpec : ChangeSpec := { name := "natOrder", fn := fun _ => fun
  | [d1, d2, d3] => { results := [.lit (.bool true)], args := [d1, d2, d3] }
  | _ => none }
def natOrderRow : OpenClaim := { program := "ytchbamlfdknkgaadoor", sum := "bde9ae0879832a8819bcf658b5e95fe7a08d58deba7240dd2826d11e104ab906", func := "riddle/riddlelaw01.NatOrder", spec := "natOrder", inPlace := ["internal/bytealg.IndexByteString", "internal/bytealg.IndexString", "internal/abi.NoEscape"], named := ["unicode/utf8.first", "unicode/utf8.acceptRanges", "internal/bytealg.MaxLen"], apart := false, laid := [("unicode/utf8.acceptRanges", laid_unicode_utf8_acceptRanges), ("unicode/utf8.first", laid_unicode_utf8_first)] }
def NatOrderSaid : Prop := natOrderRow.holds Tryd.pinned (OpenSpec.ofChange natOrderSpec)

/-- ITS FALSE NEIGHBOUR: 'it returns false'. Refute it at one input. -/
def natOrderWrong : ChangeSpec := { name := "natOrder", fn := fun _ => fun
  | [d1, d2, d3] => { results := [.lit (.bool false)], args := [d1, d2, d3] }
  | _ => none }
def NatOrderWrongFalsely : Prop := natOrderRow.holds Tryd.pinned (OpenSpec.ofChange natOrderWrong)

/- THE SECOND FORM. 'bulk': how many values and letters a reading holds, each counted each time it is reached (what is shared counts as often as it is met; a slice's spare places count too). A statement '..UptoSaid' is the law's where the arguments, and the package variables that the reading takes, are together of bulk at most 1048576: NARROWER than '..Said'. Prove '..Said' where nothing that the law and all that it calls make is longer than what came in: it says more and counts as full. Else prove '..UptoSaid'. A law counts once. -/
mutual
def uptoBulk {H : Type} : DataW H → Nat
  | .lit (.string bytes) => bytes.length + 1
  | .lit _ => 1
  | .nil => 1
  | .ptr d => uptoBulk d + 1
  | .slice elems spare => uptoBulkAll elems + uptoBulkAll spare + 1
  | .agg parts => uptoBulkAll parts + 1
  | .iface _ d => uptoBulk d + 1
  | .map entries => uptoBulkEntries entries + 1
  | .held _ => 1
def uptoBulkAll {H : Type} : List (DataW H) → Nat
  | [] => 0
  | d :: r => uptoBulk d + uptoBulkAll r
def uptoBulkEntries {H : Type} : List (Lit × DataW H) → Nat
  | [] => 0
  | x :: r => uptoBulkEntry x + uptoBulkEntries r
def uptoBulkEntry {H : Type} : Lit × DataW H → Nat
  | (.string bytes, d) => bytes.length + uptoBulk d + 1
  | (_, d) => uptoBulk d + 1
 end
def uptoSmall : (H : Type) → List (DataW H) → Bool := fun _ ds => decide (uptoBulkAll ds ≤ 1048576)
def OpenSpec.upto (s : _root_.Go.ChangeSpec) : _root_.Go.OpenSpec := { _root_.Go.OpenSpec.ofChange s with cond := some uptoSmall }

/-- 'riddlelaw03.LexTokens', WHERE WHAT IT READS IS OF BULK AT MOST 1048576: true; the input reads as it did. -/
def lexTokensUptoRow : OpenClaim := { program := "ytchbamlfdknkgaadoor", sum := "bde9ae0879832a8819bcf658b5e95fe7a08d58deba7240dd2826d11e104ab906", func := "riddle/riddlelaw03.LexTokens", spec := "lexTokens", inPlace := ["internal/bytealg.IndexByteString", "internal/bytealg.IndexString"], unfollowed := true, recurses := true, named := ["unicode/utf8.first", "unicode/utf8.acceptRanges", "internal/bytealg.MaxLen"], apart := false, laid := [("unicode/utf8.acceptRanges", laid_unicode_utf8_acceptRanges), ("unicode/utf8.first", laid_unicode_utf8_first)], narrowed := true }
def LexTokensUptoSaid : Prop := lexTokensUptoRow.holds Tryd.pinned (OpenSpec.upto lexTokensSpec)

/-- 'riddlelaw03.LexWords', WHERE WHAT IT READS IS OF BULK AT MOST 1048576: true; the input reads as it did. -/
def lexWordsUptoRow : OpenClaim := { program := "ytchbamlfdknkgaadoor", sum := "bde9ae0879832a8819bcf658b5e95fe7a08d58deba7240dd2826d11e104ab906", func := "riddle/riddlelaw03.LexWords", spec := "lexWords", inPlace := ["internal/bytealg.IndexByteString", "internal/bytealg.IndexString"], unfollowed := true, recurses := true, named := ["unicode/utf8.first", "unicode/utf8.acceptRanges", "internal/bytealg.MaxLen"], apart := false, laid := [("unicode/utf8.acceptRanges", laid_unicode_utf8_acceptRanges), ("unicode/utf8.first", laid_unicode_utf8_first)], narrowed := true }
def LexWordsUptoSaid : Prop := lexWordsUptoRow.holds Tryd.pinned (OpenSpec.upto lexWordsSpec)

/-- 'riddlelaw03.LexNames', WHERE WHAT IT READS IS OF BULK AT MOST 1048576: true; the input reads as it did. -/
def lexNamesUptoRow : OpenClaim := { program := "ytchbamlfdknkgaadoor", sum := "bde9ae0879832a8819bcf658b5e95fe7a08d58deba7240dd2826d11e104ab906", func := "riddle/riddlelaw03.LexNames", spec := "lexNames", inPlace := ["internal/bytealg.IndexByteString", "internal/bytealg.IndexString"], unfollowed := true, recurses := true, named := ["unicode/utf8.first", "unicode/utf8.acceptRanges", "internal/bytealg.MaxLen"], apart := false, laid := [("unicode/utf8.acceptRanges", laid_unicode_utf8_acceptRanges), ("unicode/utf8.first", laid_unicode_utf8_first)], narrowed := true }
def LexNamesUptoSaid : Prop := lexNamesUptoRow.holds Tryd.pinned (OpenSpec.upto lexNamesSpec)

/-- 'riddlelaw03.LexBlanks', WHERE WHAT IT READS IS OF BULK AT MOST 1048576: true; the input reads as it did. -/
def lexBlanksUptoRow : OpenClaim := { program := "ytchbamlfdknkgaadoor", sum := "bde9ae0879832a8819bcf658b5e95fe7a08d58deba7240dd2826d11e104ab906", func := "riddle/riddlelaw03.LexBlanks", spec := "lexBlanks", inPlace := ["internal/bytealg.IndexByteString", "internal/bytealg.IndexString"], unfollowed := true, recurses := true, named := ["unicode/utf8.first", "unicode/utf8.acceptRanges", "internal/bytealg.MaxLen"], apart := false, laid := [("unicode/utf8.acceptRanges", laid_unicode_utf8_acceptRanges), ("unicode/utf8.first", laid_unicode_utf8_first)], narrowed := true }
def LexBlanksUptoSaid : Prop := lexBlanksUptoRow.holds Tryd.pinned (OpenSpec.upto lexBlanksSpec)

/-- 'riddlelaw03.LexWhole', WHERE WHAT IT READS IS OF BULK AT MOST 1048576: true; the input reads as it did. -/
def lexWholeUptoRow : OpenClaim := { program := "ytchbamlfdknkgaadoor", sum := "bde9ae0879832a8819bcf658b5e95fe7a08d58deba7240dd2826d11e104ab906", func := "riddle/riddlelaw03.LexWhole", spec := "lexWhole", inPlace := ["internal/bytealg.IndexByteString", "internal/bytealg.IndexString"], unfollowed := true, recurses := true, named := ["unicode/utf8.first", "unicode/utf8.acceptRanges", "internal/bytealg.MaxLen"], apart := false, laid := [("unicode/utf8.acceptRanges", laid_unicode_utf8_acceptRanges), ("unicode/utf8.first", laid_unicode_utf8_first)], narrowed := true }
def LexWholeUptoSaid : Prop := lexWholeUptoRow.holds Tryd.pinned (OpenSpec.upto lexWholeSpec)

/-- 'riddlelaw01.NatMultiplies', WHERE WHAT IT READS IS OF BULK AT MOST 1048576: true; the input reads as it did. -/
def natMultipliesUptoRow : OpenClaim := { program := "ytchbamlfdknkgaadoor", sum := "bde9ae0879832a8819bcf658b5e95fe7a08d58deba7240dd2826d11e104ab906", func := "riddle/riddlelaw01.NatMultiplies", spec := "natMultiplies", inPlace := ["internal/bytealg.IndexByteString", "internal/bytealg.IndexString", "internal/abi.NoEscape"], named := ["unicode/utf8.first", "unicode/utf8.acceptRanges", "internal/bytealg.MaxLen"], apart := false, laid := [("unicode/utf8.acceptRanges", laid_unicode_utf8_acceptRanges), ("unicode/utf8.first", laid_unicode_utf8_first)], narrowed := true }
def NatMultipliesUptoSaid : Prop := natMultipliesUptoRow.holds Tryd.pinned (OpenSpec.upto natMultipliesSpec)

/-- 'riddlelaw01.NatTexts', WHERE WHAT IT READS IS OF BULK AT MOST 1048576: true; the input reads as it did. -/
def natTextsUptoRow : OpenClaim := { program := "ytchbamlfdknkgaadoor", sum := "bde9ae0879832a8819bcf658b5e95fe7a08d58deba7240dd2826d11e104ab906", func := "riddle/riddlelaw01.NatTexts", spec := "natTexts", inPlace := ["internal/abi.NoEscape", "internal/bytealg.IndexByteString", "internal/bytealg.IndexString"], named := ["unicode/utf8.first", "unicode/utf8.acceptRanges", "internal/bytealg.MaxLen"], apart := false, laid := [("unicode/utf8.acceptRanges", laid_unicode_utf8_acceptRanges), ("unicode/utf8.first", laid_unicode_utf8_first)], narrowed := true }
def NatTextsUptoSaid : Prop := natTextsUptoRow.holds Tryd.pinned (OpenSpec.upto natTextsSpec)

/-- 'riddlelaw01.NatTells', WHERE WHAT IT READS IS OF BULK AT MOST 1048576: true; the input reads as it did. -/
def natTellsUptoRow : OpenClaim := { program := "ytchbamlfdknkgaadoor", sum := "bde9ae0879832a8819bcf658b5e95fe7a08d58deba7240dd2826d11e104ab906", func := "riddle/riddlelaw01.NatTells", spec := "natTells", inPlace := ["internal/bytealg.IndexByteString", "internal/bytealg.IndexString", "internal/abi.NoEscape"], named := ["unicode/utf8.first", "unicode/utf8.acceptRanges", "internal/bytealg.MaxLen"], apart := false, laid := [("unicode/utf8.acceptRanges", laid_unicode_utf8_acceptRanges), ("unicode/utf8.first", laid_unicode_utf8_first)], narrowed := true }
def NatTellsUptoSaid : Prop := natTellsUptoRow.holds Tryd.pinned (OpenSpec.upto natTellsSpec)

/-- 'riddlelaw01.NatDivisors', WHERE WHAT IT READS IS OF BULK AT MOST 1048576: true; the input reads as it did. -/
def natDivisorsUptoRow : OpenClaim := { program := "ytchbamlfdknkgaadoor", sum := "bde9ae0879832a8819bcf658b5e95fe7a08d58deba7240dd2826d11e104ab906", func := "riddle/riddlelaw01.NatDivisors", spec := "natDivisors", inPlace := ["internal/bytealg.IndexByteString", "internal/bytealg.IndexString", "internal/abi.NoEscape"], named := ["unicode/utf8.first", "unicode/utf8.acceptRanges", "internal/bytealg.MaxLen"], apart := false, laid := [("unicode/utf8.acceptRanges", laid_unicode_utf8_acceptRanges), ("unicode/utf8.first", laid_unicode_utf8_first)], narrowed := true }
def NatDivisorsUptoSaid : Prop := natDivisorsUptoRow.holds Tryd.pinned (OpenSpec.upto natDivisorsSpec)

/-- 'riddlelaw01.NatDivides', WHERE WHAT IT READS IS OF BULK AT MOST 1048576: true; the input reads as it did. -/
def natDividesUptoRow : OpenClaim := { program := "ytchbamlfdknkgaadoor", sum := "bde9ae0879832a8819bcf658b5e95fe7a08d58deba7240dd2826d11e104ab906", func := "riddle/riddlelaw01.NatDivides", spec := "natDivides", inPlace := ["internal/bytealg.IndexByteString", "internal/bytealg.IndexString", "internal/abi.NoEscape"], named := ["unicode/utf8.first", "unicode/utf8.acceptRanges", "internal/bytealg.MaxLen"], apart := false, laid := [("unicode/utf8.acceptRanges", laid_unicode_utf8_acceptRanges), ("unicode/utf8.first", laid_unicode_utf8_first)], narrowed := true }
def NatDividesUptoSaid : Prop := natDividesUptoRow.holds Tryd.pinned (OpenSpec.upto natDividesSpec)

/-- 'riddlelaw01.NatDigits', WHERE WHAT IT READS IS OF BULK AT MOST 1048576: true; the input reads as it did. -/
def natDigitsUptoRow : OpenClaim := { program := "ytchbamlfdknkgaadoor", sum := "bde9ae0879832a8819bcf658b5e95fe7a08d58deba7240dd2826d11e104ab906", func := "riddle/riddlelaw01.NatDigits", spec := "natDigits", inPlace := ["internal/bytealg.IndexByteString", "internal/bytealg.IndexString", "internal/abi.NoEscape"], named := ["unicode/utf8.first", "unicode/utf8.acceptRanges", "internal/bytealg.MaxLen"], apart := false, laid := [("unicode/utf8.acceptRanges", laid_unicode_utf8_acceptRanges), ("unicode/utf8.first", laid_unicode_utf8_first)], narrowed := true }
def NatDigitsUptoSaid : Prop := natDigitsUptoRow.holds Tryd.pinned (OpenSpec.upto natDigitsSpec)

/-- 'riddlelaw01.NatCommon', WHERE WHAT IT READS IS OF BULK AT MOST 1048576: true; the input reads as it did. -/
def natCommonUptoRow : OpenClaim := { program := "ytchbamlfdknkgaadoor", sum := "bde9ae0879832a8819bcf658b5e95fe7a08d58deba7240dd2826d11e104ab906", func := "riddle/riddlelaw01.NatCommon", spec := "natCommon", inPlace := ["internal/bytealg.IndexByteString", "internal/bytealg.IndexString", "internal/abi.NoEscape"], named := ["unicode/utf8.first", "unicode/utf8.acceptRanges", "internal/bytealg.MaxLen"], apart := false, laid := [("unicode/utf8.acceptRanges", laid_unicode_utf8_acceptRanges), ("unicode/utf8.first", laid_unicode_utf8_first)], narrowed := true }
def NatCommonUptoSaid : Prop := natCommonUptoRow.holds Tryd.pinned (OpenSpec.upto natCommonSpec)

/-- 'riddlelaw01.NatAdds', WHERE WHAT IT READS IS OF BULK AT MOST 1048576: true; the input reads as it did. -/
def natAddsUptoRow : OpenClaim := { program := "ytchbamlfdknkgaadoor", sum := "bde9ae0879832a8819bcf658b5e95fe7a08d58deba7240dd2826d11e104ab906", func := "riddle/riddlelaw01.NatAdds", spec := "natAdds", inPlace := ["internal/bytealg.IndexByteString", "internal/bytealg.IndexString", "internal/abi.NoEscape"], named := ["unicode/utf8.first", "unicode/utf8.acceptRanges", "internal/bytealg.MaxLen"], apart := false, laid := [("unicode/utf8.acceptRanges", laid_unicode_utf8_acceptRanges), ("unicode/utf8.first", laid_unicode_utf8_first)], narrowed := true }
def NatAddsUptoSaid : Prop := natAddsUptoRow.holds Tryd.pinned (OpenSpec.upto natAddsSpec)

/-- 'riddlelaw01.NatRing', WHERE WHAT IT READS IS OF BULK AT MOST 1048576: true; the input reads as it did. -/
def natRingUptoRow : OpenClaim := { program := "ytchbamlfdknkgaadoor", sum := "bde9ae0879832a8819bcf658b5e95fe7a08d58deba7240dd2826d11e104ab906", func := "riddle/riddlelaw01.NatRing", spec := "natRing", inPlace := ["internal/bytealg.IndexByteString", "internal/bytealg.IndexString", "internal/abi.NoEscape"], named := ["unicode/utf8.first", "unicode/utf8.acceptRanges", "internal/bytealg.MaxLen"], apart := false, laid := [("unicode/utf8.acceptRanges", laid_unicode_utf8_acceptRanges), ("unicode/utf8.first", laid_unicode_utf8_first)], narrowed := true }
def NatRingUptoSaid : Prop := natRingUptoRow.holds Tryd.pinned (OpenSpec.upto natRingSpec)

/-- 'riddlelaw01.NatOrder', WHERE WHAT IT READS IS OF BULK AT MOST 1048576: true; the input reads as it did. -/
def natOrderUptoRow : OpenClaim := { program := "ytchbamlfdknkgaadoor", sum := "bde9ae0879832a8819bcf658b5e95fe7a08d58deba7240dd2826d11e104ab906", func := "riddle/riddlelaw01.NatOrder", spec := "natOrder", inPlace := ["internal/bytealg.IndexByteString", "internal/bytealg.IndexString", "internal/abi.NoEscape"], named := ["unicode/utf8.first", "unicode/utf8.acceptRanges", "internal/bytealg.MaxLen"], apart := false, laid := [("unicode/utf8.acceptRanges", laid_unicode_utf8_acceptRanges), ("unicode/utf8.first", laid_unicode_utf8_first)], narrowed := true }
def NatOrderUptoSaid : Prop := natOrderUptoRow.holds Tryd.pinned (OpenSpec.upto natOrderSpec)

end Rows
end Go.Proofs.YtchbamlfdknkgaaDoor
