/-
  NARROWER THAN 'FOR EVERY INPUT', by the rows' own cells (each row's printed sentence says how): ZintDivides: laid · ZintTexts: laid · ZintRing: laid · ZintReckons: laid · ZintQuotient: laid · ZintStands: laid · ZintDivisors: laid · ZintMemory: laid · ZintCommon: laid.
  DERIVED. THE GIVEN ROWS OF THIS SEAT. 9 by the template 'for every input the law returns true; each argument reads behind the call as it read before'; 0 by the template 'total and deterministic' (their statements: YtiidghfkdjefgaaDoorTotals.lean).
  GIVEN WITH THE SEED: the statements are not yours to turn. If you find one false, say at which input.
  Laid BY PROGRAM, IN A SANDBOX (cutbox-rows.mjs): the forced cells as the released guide's own fill.sh prints them over the translation 8642a4e91bb64b4f… (all of the seat's roots in one cut). By AI agents, Wed Nov 11 2026. No macro, syntax, notation, axiom, sorry.
-/
import Derived.Test.YtiidghfkdjefgaaDoorChecked
import GoSem.PinnedTables
import GoSem.Claim
import GoSem.ClaimJoined
import GoSem.ClaimMapViews
import Derived.JoinedTies
import Derived.KernelRfl
namespace Go.Proofs.YtiidghfkdjefgaaDoor
/- THE CELL 'sum', in the pinned program and in every row, IS THE sha256 OF THE DUMP (.gsa) THAT YtiidghfkdjefgaaDoorProg.lean LOADS. Nothing in Lean hashes anything: it is a label: what it is worth is what the hold of that sum in a sandbox is worth. -/
noncomputable def Tryd.pinned : Pinned := { name := "ytiidghfkdjefgaadoor", sum := "8642a4e91bb64b4f0cde11351b140417d11f3bb1ff0ff38effa173cd1d4ddf9f", checked := Tryd.checked }
namespace Rows
def none {H : Type} : Left H := { results := [], args := [] }

/- WHAT THE LISTED PACKAGE-LEVEL VARIABLES READ AS WHEN THE CALL BEGINS. Each datum BY PROGRAM (the guide's laid-datum.mjs) off the statement by which the dump's own 'gosem.cut.vars' lays the variable. In a bare row this is a premise. The card (YtiidghfkdjefgaaDoorCards.lean) ties it to the program's text. -/
def laid_unicode_utf8_acceptRanges {H : Type} : DataW H := .agg [.agg [.lit (.int .u8 128), .lit (.int .u8 191)], .agg [.lit (.int .u8 160), .lit (.int .u8 191)], .agg [.lit (.int .u8 128), .lit (.int .u8 159)], .agg [.lit (.int .u8 144), .lit (.int .u8 191)], .agg [.lit (.int .u8 128), .lit (.int .u8 143)], .agg [.lit (.int .u8 0), .lit (.int .u8 0)], .agg [.lit (.int .u8 0), .lit (.int .u8 0)], .agg [.lit (.int .u8 0), .lit (.int .u8 0)], .agg [.lit (.int .u8 0), .lit (.int .u8 0)], .agg [.lit (.int .u8 0), .lit (.int .u8 0)], .agg [.lit (.int .u8 0), .lit (.int .u8 0)], .agg [.lit (.int .u8 0), .lit (.int .u8 0)], .agg [.lit (.int .u8 0), .lit (.int .u8 0)], .agg [.lit (.int .u8 0), .lit (.int .u8 0)], .agg [.lit (.int .u8 0), .lit (.int .u8 0)], .agg [.lit (.int .u8 0), .lit (.int .u8 0)]]
/-- One of Go's own tables, pinned by name: the form's constant. -/
def laid_unicode_utf8_first : DataW Unit := Go.Pinned.utf8First

/-- 'riddlelaw02.ZintDivides': WHATEVER THE INPUT: true; the input reads as it did. -/
def zintDividesSpec : ChangeSpec := { name := "zintDivides", fn := fun _ => fun
  | [d1, d2] => { results := [.lit (.bool true)], args := [d1, d2] }
  | _ => none }
def zintDividesRow : OpenClaim := { program := "ytiidghfkdjefgaadoor", sum := "8642a4e91bb64b4f0cde11351b140417d11f3bb1ff0ff38effa173cd1d4ddf9f", func := "riddle/riddlelaw02.ZintDivides", spec := "zintDivides", inPlace := ["internal/bytealg.IndexByteString", "internal/bytealg.IndexString", "internal/abi.NoEscape"], named := ["unicode/utf8.first", "unicode/utf8.acceptRanges", "internal/bytealg.MaxLen"], apart := false, laid := [("unicode/utf8.acceptRanges", laid_unicode_utf8_acceptRanges), ("unicode/utf8.first", laid_unicode_utf8_first)] }
def ZintDividesSaid : Prop := zintDividesRow.holds Tryd.pinned (OpenSpec.ofChange zintDividesSpec)

/-- ITS FALSE NEIGHBOUR: 'it returns false'. Refute it at one input. -/
def zintDividesWrong : ChangeSpec := { name := "zintDivides", fn := fun _ => fun
  | [d1, d2] => { results := [.lit (.bool false)], args := [d1, d2] }
  | _ => none }
def ZintDividesWrongFalsely : Prop := zintDividesRow.holds Tryd.pinned (OpenSpec.ofChange zintDividesWrong)

/-- 'riddlelaw02.ZintTexts': WHATEVER THE INPUT: true; the input reads as it did. -/
def zintTextsSpec : ChangeSpec := { name := "zintTexts", fn := fun _ => fun
  | [d1, d2] => { results := [.lit (.bool true)], args := [d1, d2] }
  | _ => none }
def zintTextsRow : OpenClaim := { program := "ytiidghfkdjefgaadoor", sum := "8642a4e91bb64b4f0cde11351b140417d11f3bb1ff0ff38effa173cd1d4ddf9f", func := "riddle/riddlelaw02.ZintTexts", spec := "zintTexts", inPlace := ["internal/bytealg.IndexByteString", "internal/bytealg.IndexString", "internal/abi.NoEscape"], named := ["unicode/utf8.first", "unicode/utf8.acceptRanges", "internal/bytealg.MaxLen"], apart := false, laid := [("unicode/utf8.acceptRanges", laid_unicode_utf8_acceptRanges), ("unicode/utf8.first", laid_unicode_utf8_first)] }
def ZintTextsSaid : Prop := zintTextsRow.holds Tryd.pinned (OpenSpec.ofChange zintTextsSpec)

/-- ITS FALSE NEIGHBOUR: 'it returns false'. Refute it at one input. -/
def zintTextsWrong : ChangeSpec := { name := "zintTexts", fn := fun _ => fun
  | [d1, d2] => { results := [.lit (.bool false)], args := [d1, d2] }
  | _ => none }
def ZintTextsWrongFalsely : Prop := zintTextsRow.holds Tryd.pinned (OpenSpec.ofChange zintTextsWrong)

/-- 'riddlelaw02.ZintRing': WHATEVER THE INPUT: true; the input reads as it did. -/
def zintRingSpec : ChangeSpec := { name := "zintRing", fn := fun _ => fun
  | [d1, d2, d3] => { results := [.lit (.bool true)], args := [d1, d2, d3] }
  | _ => none }
def zintRingRow : OpenClaim := { program := "ytiidghfkdjefgaadoor", sum := "8642a4e91bb64b4f0cde11351b140417d11f3bb1ff0ff38effa173cd1d4ddf9f", func := "riddle/riddlelaw02.ZintRing", spec := "zintRing", inPlace := ["internal/bytealg.IndexByteString", "internal/bytealg.IndexString", "internal/abi.NoEscape"], named := ["unicode/utf8.first", "unicode/utf8.acceptRanges", "internal/bytealg.MaxLen"], apart := false, laid := [("unicode/utf8.acceptRanges", laid_unicode_utf8_acceptRanges), ("unicode/utf8.first", laid_unicode_utf8_first)] }
def ZintRingSaid : Prop := zintRingRow.holds Tryd.pinned (OpenSpec.ofChange zintRingSpec)

/-- ITS FALSE NEIGHBOUR: 'it returns false'. Refute it at one input. -/
def zintRingWrong : ChangeSpec := { name := "zintRing", fn := fun _ => fun
  | [d1, d2, d3] => { results := [.lit (.bool false)], args := [d1, d2, d3] }
  | _ => none }
def ZintRingWrongFalsely : Prop := zintRingRow.holds Tryd.pinned (OpenSpec.ofChange zintRingWrong)

/-- 'riddlelaw02.ZintReckons': WHATEVER THE INPUT: true; the input reads as it did. -/
def zintReckonsSpec : ChangeSpec := { name := "zintReckons", fn := fun _ => fun
  | [d1, d2] => { results := [.lit (.bool true)], args := [d1, d2] }
  | _ => none }
def zintReckonsRow : OpenClaim := { program := "ytiidghfkdjefgaadoor", sum := "8642a4e91bb64b4f0cde11351b140417d11f3bb1ff0ff38effa173cd1d4ddf9f", func := "riddle/riddlelaw02.ZintReckons", spec := "zintReckons", inPlace := ["internal/bytealg.IndexByteString", "internal/bytealg.IndexString", "internal/abi.NoEscape"], named := ["unicode/utf8.first", "unicode/utf8.acceptRanges", "internal/bytealg.MaxLen"], apart := false, laid := [("unicode/utf8.acceptRanges", laid_unicode_utf8_acceptRanges), ("unicode/utf8.first", laid_unicode_utf8_first)] }
def ZintReckonsSaid : Prop := zintReckonsRow.holds Tryd.pinned (OpenSpec.ofChange zintReckonsSpec)

/-- ITS FALSE NEIGHBOUR: 'it returns false'. Refute it at one input. -/
def zintReckonsWrong : ChangeSpec := { name := "zintReckons", fn := fun _ => fun
  | [d1, d2] => { results := [.lit (.bool false)], args := [d1, d2] }
  | _ => none }
def ZintReckonsWrongFalsely : Prop := zintReckonsRow.holds Tryd.pinned (OpenSpec.ofChange zintReckonsWrong)

/-- 'riddlelaw02.ZintQuotient': WHATEVER THE INPUT: true; the input reads as it did. -/
def zintQuotientSpec : ChangeSpec := { name := "zintQuotient", fn := fun _ => fun
  | [d1, d2] => { results := [.lit (.bool true)], args := [d1, d2] }
  | _ => none }
def zintQuotientRow : OpenClaim := { program := "ytiidghfkdjefgaadoor", sum := "8642a4e91bb64b4f0cde11351b140417d11f3bb1ff0ff38effa173cd1d4ddf9f", func := "riddle/riddlelaw02.ZintQuotient", spec := "zintQuotient", inPlace := ["internal/bytealg.IndexByteString", "internal/bytealg.IndexString", "internal/abi.NoEscape"], named := ["unicode/utf8.first", "unicode/utf8.acceptRanges", "internal/bytealg.MaxLen"], apart := false, laid := [("unicode/utf8.acceptRanges", laid_unicode_utf8_acceptRanges), ("unicode/utf8.first", laid_unicode_utf8_first)] }
def ZintQuotientSaid : Prop := zintQuotientRow.holds Tryd.pinned (OpenSpec.ofChange zintQuotientSpec)

/-- ITS FALSE NEIGHBOUR: 'it returns false'. Refute it at one input. -/
def zintQuotientWrong : ChangeSpec := { name := "zintQuotient", fn := fun _ => fun
  | [d1, d2] => { results := [.lit (.bool false)], args := [d1, d2] }
  | _ => none }
def ZintQuotientWrongFalsely : Prop := zintQuotientRow.holds Tryd.pinned (OpenSpec.ofChange zintQuotientWrong)

/-- 'riddlelaw02.ZintStands': WHATEVER THE INPUT: true; the input reads as it did. -/
def zintStandsSpec : ChangeSpec := { name := "zintStands", fn := fun _ => fun
  | [d1, d2] => { results := [.lit (.bool true)], args := [d1, d2] }
  | _ => none }
def zintStandsRow : OpenClaim := { program := "ytiidghfkdjefgaadoor", sum := "8642a4e91bb64b4f0cde11351b140417d11f3bb1ff0ff38effa173cd1d4ddf9f", func := "riddle/riddlelaw02.ZintStands", spec := "zintStands", inPlace := ["internal/bytealg.IndexByteString", "internal/bytealg.IndexString", "internal/abi.NoEscape"], named := ["unicode/utf8.first", "unicode/utf8.acceptRanges", "internal/bytealg.MaxLen"], apart := false, laid := [("unicode/utf8.acceptRanges", laid_unicode_utf8_acceptRanges), ("unicode/utf8.first", laid_unicode_utf8_first)] }
def ZintStandsSaid : Prop := zintStandsRow.holds Tryd.pinned (OpenSpec.ofChange zintStandsSpec)

/-- ITS FALSE NEIGHBOUR: 'it returns false'. Refute it at one input. -/
def zintStandsWrong : ChangeSpec := { name := "zintStands", fn := fun _ => fun
  | [d1, d2] => { results := [.lit (.bool false)], args := [d1, d2] }
  | _ => none }
def ZintStandsWrongFalsely : Prop := zintStandsRow.holds Tryd.pinned (OpenSpec.ofChange zintStandsWrong)

/-- 'riddlelaw02.ZintDivisors': WHATEVER THE INPUT: true; the input reads as it did. -/
def zintDivisorsSpec : ChangeSpec := { name := "zintDivisors", fn := fun _ => fun
  | [d] => { results := [.lit (.bool true)], args := [d] }
  | _ => none }
def zintDivisorsRow : OpenClaim := { program := "ytiidghfkdjefgaadoor", sum := "8642a4e91bb64b4f0cde11351b140417d11f3bb1ff0ff38effa173cd1d4ddf9f", func := "riddle/riddlelaw02.ZintDivisors", spec := "zintDivisors", inPlace := ["internal/bytealg.IndexByteString", "internal/bytealg.IndexString", "internal/abi.NoEscape"], unfollowed := true, recurses := true, named := ["unicode/utf8.first", "unicode/utf8.acceptRanges", "internal/bytealg.MaxLen"], apart := false, laid := [("unicode/utf8.acceptRanges", laid_unicode_utf8_acceptRanges), ("unicode/utf8.first", laid_unicode_utf8_first)] }
def ZintDivisorsSaid : Prop := zintDivisorsRow.holds Tryd.pinned (OpenSpec.ofChange zintDivisorsSpec)

/-- ITS FALSE NEIGHBOUR: 'it returns false'. Refute it at one input. -/
def zintDivisorsWrong : ChangeSpec := { name := "zintDivisors", fn := fun _ => fun
  | [d] => { results := [.lit (.bool false)], args := [d] }
  | _ => none }
def ZintDivisorsWrongFalsely : Prop := zintDivisorsRow.holds Tryd.pinned (OpenSpec.ofChange zintDivisorsWrong)

/-- 'riddlelaw02.ZintMemory': WHATEVER THE INPUT: true; the input reads as it did. -/
def zintMemorySpec : ChangeSpec := { name := "zintMemory", fn := fun _ => fun
  | [d1, d2] => { results := [.lit (.bool true)], args := [d1, d2] }
  | _ => none }
def zintMemoryRow : OpenClaim := { program := "ytiidghfkdjefgaadoor", sum := "8642a4e91bb64b4f0cde11351b140417d11f3bb1ff0ff38effa173cd1d4ddf9f", func := "riddle/riddlelaw02.ZintMemory", spec := "zintMemory", inPlace := ["internal/bytealg.IndexByteString", "internal/bytealg.IndexString", "internal/abi.NoEscape"], unfollowed := true, recurses := true, named := ["unicode/utf8.first", "unicode/utf8.acceptRanges", "internal/bytealg.MaxLen"], apart := false, laid := [("unicode/utf8.acceptRanges", laid_unicode_utf8_acceptRanges), ("unicode/utf8.first", laid_unicode_utf8_first)] }
def ZintMemorySaid : Prop := zintMemoryRow.holds Tryd.pinned (OpenSpec.ofChange zintMemorySpec)

/-- ITS FALSE NEIGHBOUR: 'it returns false'. Refute it at one input. -/
def zintMemoryWrong : ChangeSpec := { name := "zintMemory", fn := fun _ => fun
  | [d1, d2] => { results := [.lit (.bool false)], args := [d1, d2] }
  | _ => none }
def ZintMemoryWrongFalsely : Prop := zintMemoryRow.holds Tryd.pinned (OpenSpec.ofChange zintMemoryWrong)

/-- 'riddlelaw02.ZintCommon': WHATEVER THE INPUT: true; the input reads as it did. -/
def zintCommonSpec : ChangeSpec := { name := "zintCommon", fn := fun _ => fun
  | [d1, d2] => { results := [.lit (.bool true)], args := [d1, d2] }
  | _ => none }
def zintCommonRow : OpenClaim := { program := "ytiidghfkdjefgaadoor", sum := "8642a4e91bb64b4f0cde11351b140417d11f3bb1ff0ff38effa173cd1d4ddf9f", func := "riddle/riddlelaw02.ZintCommon", spec := "zintCommon", inPlace := ["internal/bytealg.IndexByteString", "internal/bytealg.IndexString", "internal/abi.NoEscape"], unfollowed := true, recurses := true, named := ["unicode/utf8.first", "unicode/utf8.acceptRanges", "internal/bytealg.MaxLen"], apart := false, laid := [("unicode/utf8.acceptRanges", laid_unicode_utf8_acceptRanges), ("unicode/utf8.first", laid_unicode_utf8_first)] }
def ZintCommonSaid : Prop := zintCommonRow.holds Tryd.pinned (OpenSpec.ofChange zintCommonSpec)

/-- ITS FALSE NEIGHBOUR: 'it returns false'. Refute it at one input. -/
def zintCommonWrong : ChangeSpec := { name := "zintCommon", fn := fun _ => fun
  | [d1, d2] => { results := [.lit (.bool false)], args := [d1, d2] }
  | _ => none }
def ZintCommonWrongFalsely : Prop := zintCommonRow.holds Tryd.pinned (OpenSpec.ofChange zintCommonWrong)

/- THE SECOND FORM. 'bulk': how many values and letters a reading holds, each counted each time it is reached (what is shared counts as often as it is met; a slice's spare places count too). A statement '..UptoSaid' is the law's where the arguments, and the package variables that the reading takes, are together of bulk at most 1048576: NARROWER than '..Said'. Prove '..Said' where nothing that the law and all that it calls make is longer than what came in: it says more and counts as full. Else prove '..UptoSaid'. A law counts once. -/
mutual
def uptoBulk {H : Type} : DataW H → Nat
  | .lit (.string bytes) => bytes.length + 1
  | .lit _ => 1
  | .nil => 1
  | .ptr d => uptoBulk d + 1
  | .slice elems spare => uptoBulkAll elems + uptoBulkAll spare + 1
  | .agg parts => uptoBulkAll parts + 1
  | .iface _ d => uptoBulk d + 1
  | .map entries => uptoBulkEntries entries + 1
  | .held _ => 1
def uptoBulkAll {H : Type} : List (DataW H) → Nat
  | [] => 0
  | d :: r => uptoBulk d + uptoBulkAll r
def uptoBulkEntries {H : Type} : List (Lit × DataW H) → Nat
  | [] => 0
  | x :: r => uptoBulkEntry x + uptoBulkEntries r
def uptoBulkEntry {H : Type} : Lit × DataW H → Nat
  | (.string bytes, d) => bytes.length + uptoBulk d + 1
  | (_, d) => uptoBulk d + 1
 end
def uptoSmall : (H : Type) → List (DataW H) → Bool := fun _ ds => decide (uptoBulkAll ds ≤ 1048576)
def OpenSpec.upto (s : _root_.Go.ChangeSpec) : _root_.Go.OpenSpec := { _root_.Go.OpenSpec.ofChange s with cond := some uptoSmall }

/-- 'riddlelaw02.ZintDivides', WHERE WHAT IT READS IS OF BULK AT MOST 1048576: true; the input reads as it did. -/
def zintDividesUptoRow : OpenClaim := { program := "ytiidghfkdjefgaadoor", sum := "8642a4e91bb64b4f0cde11351b140417d11f3bb1ff0ff38effa173cd1d4ddf9f", func := "riddle/riddlelaw02.ZintDivides", spec := "zintDivides", inPlace := ["internal/bytealg.IndexByteString", "internal/bytealg.IndexString", "internal/abi.NoEscape"], named := ["unicode/utf8.first", "unicode/utf8.acceptRanges", "internal/bytealg.MaxLen"], apart := false, laid := [("unicode/utf8.acceptRanges", laid_unicode_utf8_acceptRanges), ("unicode/utf8.first", laid_unicode_utf8_first)], narrowed := true }
def ZintDividesUptoSaid : Prop := zintDividesUptoRow.holds Tryd.pinned (OpenSpec.upto zintDividesSpec)

/-- 'riddlelaw02.ZintTexts', WHERE WHAT IT READS IS OF BULK AT MOST 1048576: true; the input reads as it did. -/
def zintTextsUptoRow : OpenClaim := { program := "ytiidghfkdjefgaadoor", sum := "8642a4e91bb64b4f0cde11351b140417d11f3bb1ff0ff38effa173cd1d4ddf9f", func := "riddle/riddlelaw02.ZintTexts", spec := "zintTexts", inPlace := ["internal/bytealg.IndexByteString", "internal/bytealg.IndexString", "internal/abi.NoEscape"], named := ["unicode/utf8.first", "unicode/utf8.acceptRanges", "internal/bytealg.MaxLen"], apart := false, laid := [("unicode/utf8.acceptRanges", laid_unicode_utf8_acceptRanges), ("unicode/utf8.first", laid_unicode_utf8_first)], narrowed := true }
def ZintTextsUptoSaid : Prop := zintTextsUptoRow.holds Tryd.pinned (OpenSpec.upto zintTextsSpec)

/-- 'riddlelaw02.ZintRing', WHERE WHAT IT READS IS OF BULK AT MOST 1048576: true; the input reads as it did. -/
def zintRingUptoRow : OpenClaim := { program := "ytiidghfkdjefgaadoor", sum := "8642a4e91bb64b4f0cde11351b140417d11f3bb1ff0ff38effa173cd1d4ddf9f", func := "riddle/riddlelaw02.ZintRing", spec := "zintRing", inPlace := ["internal/bytealg.IndexByteString", "internal/bytealg.IndexString", "internal/abi.NoEscape"], named := ["unicode/utf8.first", "unicode/utf8.acceptRanges", "internal/bytealg.MaxLen"], apart := false, laid := [("unicode/utf8.acceptRanges", laid_unicode_utf8_acceptRanges), ("unicode/utf8.first", laid_unicode_utf8_first)], narrowed := true }
def ZintRingUptoSaid : Prop := zintRingUptoRow.holds Tryd.pinned (OpenSpec.upto zintRingSpec)

/-- 'riddlelaw02.ZintReckons', WHERE WHAT IT READS IS OF BULK AT MOST 1048576: true; the input reads as it did. -/
def zintReckonsUptoRow : OpenClaim := { program := "ytiidghfkdjefgaadoor", sum := "8642a4e91bb64b4f0cde11351b140417d11f3bb1ff0ff38effa173cd1d4ddf9f", func := "riddle/riddlelaw02.ZintReckons", spec := "zintReckons", inPlace := ["internal/bytealg.IndexByteString", "internal/bytealg.IndexString", "internal/abi.NoEscape"], named := ["unicode/utf8.first", "unicode/utf8.acceptRanges", "internal/bytealg.MaxLen"], apart := false, laid := [("unicode/utf8.acceptRanges", laid_unicode_utf8_acceptRanges), ("unicode/utf8.first", laid_unicode_utf8_first)], narrowed := true }
def ZintReckonsUptoSaid : Prop := zintReckonsUptoRow.holds Tryd.pinned (OpenSpec.upto zintReckonsSpec)

/-- 'riddlelaw02.ZintQuotient', WHERE WHAT IT READS IS OF BULK AT MOST 1048576: true; the input reads as it did. -/
def zintQuotientUptoRow : OpenClaim := { program := "ytiidghfkdjefgaadoor", sum := "8642a4e91bb64b4f0cde11351b140417d11f3bb1ff0ff38effa173cd1d4ddf9f", func := "riddle/riddlelaw02.ZintQuotient", spec := "zintQuotient", inPlace := ["internal/bytealg.IndexByteString", "internal/bytealg.IndexString", "internal/abi.NoEscape"], named := ["unicode/utf8.first", "unicode/utf8.acceptRanges", "internal/bytealg.MaxLen"], apart := false, laid := [("unicode/utf8.acceptRanges", laid_unicode_utf8_acceptRanges), ("unicode/utf8.first", laid_unicode_utf8_first)], narrowed := true }
def ZintQuotientUptoSaid : Prop := zintQuotientUptoRow.holds Tryd.pinned (OpenSpec.upto zintQuotientSpec)

/-- 'riddlelaw02.ZintStands', WHERE WHAT IT READS IS OF BULK AT MOST 1048576: true; the input reads as it did. -/
def zintStandsUptoRow : OpenClaim := { program := "ytiidghfkdjefgaadoor", sum := "8642a4e91bb64b4f0cde11351b140417d11f3bb1ff0ff38effa173cd1d4ddf9f", func := "riddle/riddlelaw02.ZintStands", spec := "zintStands", inPlace := ["internal/bytealg.IndexByteString", "internal/bytealg.IndexString", "internal/abi.NoEscape"], named := ["unicode/utf8.first", "unicode/utf8.acceptRanges", "internal/bytealg.MaxLen"], apart := false, laid := [("unicode/utf8.acceptRanges", laid_unicode_utf8_acceptRanges), ("unicode/utf8.first", laid_unicode_utf8_first)], narrowed := true }
def ZintStandsUptoSaid : Prop := zintStandsUptoRow.holds Tryd.pinned (OpenSpec.upto zintStandsSpec)

/-- 'riddlelaw02.ZintDivisors', WHERE WHAT IT READS IS OF BULK AT MOST 1048576: true; the input reads as it did. -/
def zintDivisorsUptoRow : OpenClaim := { program := "ytiidghfkdjefgaadoor", sum := "8642a4e91bb64b4f0cde11351b140417d11f3bb1ff0ff38effa173cd1d4ddf9f", func := "riddle/riddlelaw02.ZintDivisors", spec := "zintDivisors", inPlace := ["internal/bytealg.IndexByteString", "internal/bytealg.IndexString", "internal/abi.NoEscape"], unfollowed := true, recurses := true, named := ["unicode/utf8.first", "unicode/utf8.acceptRanges", "internal/bytealg.MaxLen"], apart := false, laid := [("unicode/utf8.acceptRanges", laid_unicode_utf8_acceptRanges), ("unicode/utf8.first", laid_unicode_utf8_first)], narrowed := true }
def ZintDivisorsUptoSaid : Prop := zintDivisorsUptoRow.holds Tryd.pinned (OpenSpec.upto zintDivisorsSpec)

/-- 'riddlelaw02.ZintMemory', WHERE WHAT IT READS IS OF BULK AT MOST 1048576: true; the input reads as it did. -/
def zintMemoryUptoRow : OpenClaim := { program := "ytiidghfkdjefgaadoor", sum := "8642a4e91bb64b4f0cde11351b140417d11f3bb1ff0ff38effa173cd1d4ddf9f", func := "riddle/riddlelaw02.ZintMemory", spec := "zintMemory", inPlace := ["internal/bytealg.IndexByteString", "internal/bytealg.IndexString", "internal/abi.NoEscape"], unfollowed := true, recurses := true, named := ["unicode/utf8.first", "unicode/utf8.acceptRanges", "internal/bytealg.MaxLen"], apart := false, laid := [("unicode/utf8.acceptRanges", laid_unicode_utf8_acceptRanges), ("unicode/utf8.first", laid_unicode_utf8_first)], narrowed := true }
def ZintMemoryUptoSaid : Prop := zintMemoryUptoRow.holds Tryd.pinned (OpenSpec.upto zintMemorySpec)

/-- 'riddlelaw02.ZintCommon', WHERE WHAT IT READS IS OF BULK AT MOST 1048576: true; the input reads as it did. -/
def zintCommonUptoRow : OpenClaim := { program := "ytiidghfkdjefgaadoor", sum := "8642a4e91bb64b4f0cde11351b140417d11f3bb1ff0ff38effa173cd1d4ddf9f", func := "riddle/riddlelaw02.ZintCommon", spec := "zintCommon", inPlace := ["internal/bytealg.IndexByteString", "internal/bytealg.IndexString", "internal/abi.NoEscape"], unfollowed := true, recurses := true, named := ["unicode/utf8.first", "unicode/utf8.acceptRanges", "internal/bytealg.MaxLen"], apart := false, laid := [("unicode/utf8.acceptRanges", laid_unicode_utf8_acceptRanges), ("unicode/utf8.first", laid_unicode_utf8_first)], narrowed := true }
def ZintCommonUptoSaid : Prop := zintCommonUptoRow.holds Tryd.pinned (OpenSpec.upto zintCommonSpec)

end Rows
end Go.Proofs.YtiidghfkdjefgaaDoor
