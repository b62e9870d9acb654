/-
  NARROWER THAN 'FOR EVERY INPUT', by the rows' own cells (each row's printed sentence says how): SyntaxParse: laid · SyntaxPrint: loops, laid · SyntaxLooks: loops, laid · SyntaxBack: loops, laid · SyntaxReads: laid · SyntaxLeast: loops, laid · SyntaxAround: laid · SyntaxJoins: laid.
  DERIVED. THE GIVEN ROWS OF THIS SEAT. 8 by the template 'for every input the law returns true; each argument reads behind the call as it read before'; 0 by the template 'total and deterministic' (their statements: YthiadenmljbdaaaGreatDoorTotals.lean).
  GIVEN WITH THE SEED: the statements are not yours to turn. If you find one false, say at which input.
  Laid BY PROGRAM, IN A SANDBOX (cutbox-rows.mjs): the forced cells as the released guide's own fill.sh prints them over the translation 984149756e10bf21… (all of the seat's roots in one cut). By AI agents, Wed Nov 11 2026. No macro, syntax, notation, axiom, sorry.
-/
import Derived.Test.YthiadenmljbdaaaGreatDoorChecked
import GoSem.PinnedTables
import GoSem.Claim
import GoSem.ClaimJoined
import GoSem.ClaimMapViews
import Derived.JoinedTies
import Derived.KernelRfl
namespace Go.Proofs.YthiadenmljbdaaaGreatDoor
/- THE CELL 'sum', in the pinned program and in every row, IS THE sha256 OF THE DUMP (.gsa) THAT YthiadenmljbdaaaGreatDoorProg.lean LOADS. Nothing in Lean hashes anything: it is a label: what it is worth is what the hold of that sum in a sandbox is worth. -/
noncomputable def Tryz.pinned : Pinned := { name := "ythiadenmljbdaaagreatdoor", sum := "984149756e10bf219df13027984c31274d5944bed284316063b742407471b650", checked := Tryz.checked }
namespace Rows
def none {H : Type} : Left H := { results := [], args := [] }

/- WHAT THE LISTED PACKAGE-LEVEL VARIABLES READ AS WHEN THE CALL BEGINS. Each datum BY PROGRAM (the guide's laid-datum.mjs) off the statement by which the dump's own 'gosem.cut.vars' lays the variable. In a bare row this is a premise. The card (YthiadenmljbdaaaGreatDoorCards.lean) ties it to the program's text. -/
def laid_unicode_utf8_acceptRanges {H : Type} : DataW H := .agg [.agg [.lit (.int .u8 128), .lit (.int .u8 191)], .agg [.lit (.int .u8 160), .lit (.int .u8 191)], .agg [.lit (.int .u8 128), .lit (.int .u8 159)], .agg [.lit (.int .u8 144), .lit (.int .u8 191)], .agg [.lit (.int .u8 128), .lit (.int .u8 143)], .agg [.lit (.int .u8 0), .lit (.int .u8 0)], .agg [.lit (.int .u8 0), .lit (.int .u8 0)], .agg [.lit (.int .u8 0), .lit (.int .u8 0)], .agg [.lit (.int .u8 0), .lit (.int .u8 0)], .agg [.lit (.int .u8 0), .lit (.int .u8 0)], .agg [.lit (.int .u8 0), .lit (.int .u8 0)], .agg [.lit (.int .u8 0), .lit (.int .u8 0)], .agg [.lit (.int .u8 0), .lit (.int .u8 0)], .agg [.lit (.int .u8 0), .lit (.int .u8 0)], .agg [.lit (.int .u8 0), .lit (.int .u8 0)], .agg [.lit (.int .u8 0), .lit (.int .u8 0)]]
/-- One of Go's own tables, pinned by name: the form's constant. -/
def laid_unicode_utf8_first : DataW Unit := Go.Pinned.utf8First

/-- 'riddlelaw04.SyntaxParse': WHATEVER THE INPUT: true; the input reads as it did. -/
def syntaxParseSpec : ChangeSpec := { name := "syntaxParse", fn := fun _ => fun
  | [d] => { results := [.lit (.bool true)], args := [d] }
  | _ => none }
def syntaxParseRow : OpenClaim := { program := "ythiadenmljbdaaagreatdoor", sum := "984149756e10bf219df13027984c31274d5944bed284316063b742407471b650", func := "riddle/riddlelaw04.SyntaxParse", spec := "syntaxParse", inPlace := ["internal/bytealg.IndexByteString", "internal/bytealg.IndexString", "internal/abi.NoEscape", "internal/bytealg.MakeNoZero"], unfollowed := true, recurses := true, named := ["unicode/utf8.first", "unicode/utf8.acceptRanges", "internal/bytealg.MaxLen"], apart := false, laid := [("unicode/utf8.acceptRanges", laid_unicode_utf8_acceptRanges), ("unicode/utf8.first", laid_unicode_utf8_first)] }
def SyntaxParseSaid : Prop := syntaxParseRow.holds Tryz.pinned (OpenSpec.ofChange syntaxParseSpec)

/-- ITS FALSE NEIGHBOUR: 'it returns false'. Refute it at one input. -/
def syntaxParseWrong : ChangeSpec := { name := "syntaxParse", fn := fun _ => fun
  | [d] => { results := [.lit (.bool false)], args := [d] }
  | _ => none }
def SyntaxParseWrongFalsely : Prop := syntaxParseRow.holds Tryz.pinned (OpenSpec.ofChange syntaxParseWrong)

/-- 'riddlelaw04.SyntaxPrint': WHATEVER THE INPUT: true; the input reads as it did. -/
def syntaxPrintSpec : ChangeSpec := { name := "syntaxPrint", fn := fun _ => fun
  | [d] => { results := [.lit (.bool true)], args := [d] }
  | _ => none }
def syntaxPrintRow : OpenClaim := { program := "ythiadenmljbdaaagreatdoor", sum := "984149756e10bf219df13027984c31274d5944bed284316063b742407471b650", func := "riddle/riddlelaw04.SyntaxPrint", spec := "syntaxPrint", inPlace := ["internal/abi.NoEscape", "internal/bytealg.MakeNoZero", "internal/bytealg.IndexByteString", "internal/bytealg.IndexString"], unfollowed := true, recurses := true, named := ["unicode/utf8.first", "unicode/utf8.acceptRanges", "internal/bytealg.MaxLen"], loops := true, apart := false, laid := [("unicode/utf8.acceptRanges", laid_unicode_utf8_acceptRanges), ("unicode/utf8.first", laid_unicode_utf8_first)] }
def SyntaxPrintSaid : Prop := syntaxPrintRow.holds Tryz.pinned (OpenSpec.ofChange syntaxPrintSpec)

/-- ITS FALSE NEIGHBOUR: 'it returns false'. Refute it at one input. -/
def syntaxPrintWrong : ChangeSpec := { name := "syntaxPrint", fn := fun _ => fun
  | [d] => { results := [.lit (.bool false)], args := [d] }
  | _ => none }
def SyntaxPrintWrongFalsely : Prop := syntaxPrintRow.holds Tryz.pinned (OpenSpec.ofChange syntaxPrintWrong)

/-- 'riddlelaw04.SyntaxLooks': WHATEVER THE INPUT: true; the input reads as it did. -/
def syntaxLooksSpec : ChangeSpec := { name := "syntaxLooks", fn := fun _ => fun
  | [d1, d2] => { results := [.lit (.bool true)], args := [d1, d2] }
  | _ => none }
def syntaxLooksRow : OpenClaim := { program := "ythiadenmljbdaaagreatdoor", sum := "984149756e10bf219df13027984c31274d5944bed284316063b742407471b650", func := "riddle/riddlelaw04.SyntaxLooks", spec := "syntaxLooks", inPlace := ["internal/bytealg.IndexByteString", "internal/bytealg.IndexString", "internal/abi.NoEscape", "internal/bytealg.MakeNoZero"], unfollowed := true, recurses := true, named := ["unicode/utf8.first", "unicode/utf8.acceptRanges", "internal/bytealg.MaxLen"], loops := true, apart := false, laid := [("unicode/utf8.acceptRanges", laid_unicode_utf8_acceptRanges), ("unicode/utf8.first", laid_unicode_utf8_first)] }
def SyntaxLooksSaid : Prop := syntaxLooksRow.holds Tryz.pinned (OpenSpec.ofChange syntaxLooksSpec)

/-- ITS FALSE NEIGHBOUR: 'it returns false'. Refute it at one input. -/
def syntaxLooksWrong : ChangeSpec := { name := "syntaxLooks", fn := fun _ => fun
  | [d1, d2] => { results := [.lit (.bool false)], args := [d1, d2] }
  | _ => none }
def SyntaxLooksWrongFalsely : Prop := syntaxLooksRow.holds Tryz.pinned (OpenSpec.ofChange syntaxLooksWrong)

/-- 'riddlelaw04.SyntaxBack': WHATEVER THE INPUT: true; the input reads as it did. -/
def syntaxBackSpec : ChangeSpec := { name := "syntaxBack", fn := fun _ => fun
  | [d] => { results := [.lit (.bool true)], args := [d] }
  | _ => none }
def syntaxBackRow : OpenClaim := { program := "ythiadenmljbdaaagreatdoor", sum := "984149756e10bf219df13027984c31274d5944bed284316063b742407471b650", func := "riddle/riddlelaw04.SyntaxBack", spec := "syntaxBack", inPlace := ["internal/abi.NoEscape", "internal/bytealg.MakeNoZero", "internal/bytealg.IndexByteString", "internal/bytealg.IndexString"], unfollowed := true, recurses := true, named := ["unicode/utf8.first", "unicode/utf8.acceptRanges", "internal/bytealg.MaxLen"], loops := true, apart := false, laid := [("unicode/utf8.acceptRanges", laid_unicode_utf8_acceptRanges), ("unicode/utf8.first", laid_unicode_utf8_first)] }
def SyntaxBackSaid : Prop := syntaxBackRow.holds Tryz.pinned (OpenSpec.ofChange syntaxBackSpec)

/-- ITS FALSE NEIGHBOUR: 'it returns false'. Refute it at one input. -/
def syntaxBackWrong : ChangeSpec := { name := "syntaxBack", fn := fun _ => fun
  | [d] => { results := [.lit (.bool false)], args := [d] }
  | _ => none }
def SyntaxBackWrongFalsely : Prop := syntaxBackRow.holds Tryz.pinned (OpenSpec.ofChange syntaxBackWrong)

/-- 'riddlelaw04.SyntaxReads': WHATEVER THE INPUT: true; the input reads as it did. -/
def syntaxReadsSpec : ChangeSpec := { name := "syntaxReads", fn := fun _ => fun
  | [d] => { results := [.lit (.bool true)], args := [d] }
  | _ => none }
def syntaxReadsRow : OpenClaim := { program := "ythiadenmljbdaaagreatdoor", sum := "984149756e10bf219df13027984c31274d5944bed284316063b742407471b650", func := "riddle/riddlelaw04.SyntaxReads", spec := "syntaxReads", inPlace := ["internal/bytealg.IndexByteString", "internal/bytealg.IndexString", "internal/abi.NoEscape", "internal/bytealg.MakeNoZero"], unfollowed := true, recurses := true, named := ["unicode/utf8.first", "unicode/utf8.acceptRanges", "internal/bytealg.MaxLen"], apart := false, laid := [("unicode/utf8.acceptRanges", laid_unicode_utf8_acceptRanges), ("unicode/utf8.first", laid_unicode_utf8_first)] }
def SyntaxReadsSaid : Prop := syntaxReadsRow.holds Tryz.pinned (OpenSpec.ofChange syntaxReadsSpec)

/-- ITS FALSE NEIGHBOUR: 'it returns false'. Refute it at one input. -/
def syntaxReadsWrong : ChangeSpec := { name := "syntaxReads", fn := fun _ => fun
  | [d] => { results := [.lit (.bool false)], args := [d] }
  | _ => none }
def SyntaxReadsWrongFalsely : Prop := syntaxReadsRow.holds Tryz.pinned (OpenSpec.ofChange syntaxReadsWrong)

/-- 'riddlelaw04.SyntaxLeast': WHATEVER THE INPUT: true; the input reads as it did. -/
def syntaxLeastSpec : ChangeSpec := { name := "syntaxLeast", fn := fun _ => fun
  | [d] => { results := [.lit (.bool true)], args := [d] }
  | _ => none }
def syntaxLeastRow : OpenClaim := { program := "ythiadenmljbdaaagreatdoor", sum := "984149756e10bf219df13027984c31274d5944bed284316063b742407471b650", func := "riddle/riddlelaw04.SyntaxLeast", spec := "syntaxLeast", inPlace := ["internal/abi.NoEscape", "internal/bytealg.MakeNoZero", "internal/bytealg.IndexByteString", "internal/bytealg.IndexString"], unfollowed := true, recurses := true, named := ["unicode/utf8.first", "unicode/utf8.acceptRanges", "internal/bytealg.MaxLen"], loops := true, apart := false, laid := [("unicode/utf8.acceptRanges", laid_unicode_utf8_acceptRanges), ("unicode/utf8.first", laid_unicode_utf8_first)] }
def SyntaxLeastSaid : Prop := syntaxLeastRow.holds Tryz.pinned (OpenSpec.ofChange syntaxLeastSpec)

/-- ITS FALSE NEIGHBOUR: 'it returns false'. Refute it at one input. -/
def syntaxLeastWrong : ChangeSpec := { name := "syntaxLeast", fn := fun _ => fun
  | [d] => { results := [.lit (.bool false)], args := [d] }
  | _ => none }
def SyntaxLeastWrongFalsely : Prop := syntaxLeastRow.holds Tryz.pinned (OpenSpec.ofChange syntaxLeastWrong)

/-- 'riddlelaw04.SyntaxAround': WHATEVER THE INPUT: true; the input reads as it did. -/
def syntaxAroundSpec : ChangeSpec := { name := "syntaxAround", fn := fun _ => fun
  | [d1, d2] => { results := [.lit (.bool true)], args := [d1, d2] }
  | _ => none }
def syntaxAroundRow : OpenClaim := { program := "ythiadenmljbdaaagreatdoor", sum := "984149756e10bf219df13027984c31274d5944bed284316063b742407471b650", func := "riddle/riddlelaw04.SyntaxAround", spec := "syntaxAround", inPlace := ["internal/bytealg.IndexByteString", "internal/bytealg.IndexString", "internal/abi.NoEscape", "internal/bytealg.MakeNoZero"], unfollowed := true, recurses := true, named := ["unicode/utf8.first", "unicode/utf8.acceptRanges", "internal/bytealg.MaxLen"], apart := false, laid := [("unicode/utf8.acceptRanges", laid_unicode_utf8_acceptRanges), ("unicode/utf8.first", laid_unicode_utf8_first)] }
def SyntaxAroundSaid : Prop := syntaxAroundRow.holds Tryz.pinned (OpenSpec.ofChange syntaxAroundSpec)

/-- ITS FALSE NEIGHBOUR: 'it returns false'. Refute it at one input. -/
def syntaxAroundWrong : ChangeSpec := { name := "syntaxAround", fn := fun _ => fun
  | [d1, d2] => { results := [.lit (.bool false)], args := [d1, d2] }
  | _ => none }
def SyntaxAroundWrongFalsely : Prop := syntaxAroundRow.holds Tryz.pinned (OpenSpec.ofChange syntaxAroundWrong)

/-- 'riddlelaw04.SyntaxJoins': WHATEVER THE INPUT: true; the input reads as it did. -/
def syntaxJoinsSpec : ChangeSpec := { name := "syntaxJoins", fn := fun _ => fun
  | [d1, d2, d3] => { results := [.lit (.bool true)], args := [d1, d2, d3] }
  | _ => none }
def syntaxJoinsRow : OpenClaim := { program := "ythiadenmljbdaaagreatdoor", sum := "984149756e10bf219df13027984c31274d5944bed284316063b742407471b650", func := "riddle/riddlelaw04.SyntaxJoins", spec := "syntaxJoins", inPlace := ["internal/bytealg.IndexByteString", "internal/bytealg.IndexString", "internal/abi.NoEscape", "internal/bytealg.MakeNoZero"], unfollowed := true, recurses := true, named := ["unicode/utf8.first", "unicode/utf8.acceptRanges", "internal/bytealg.MaxLen"], apart := false, laid := [("unicode/utf8.acceptRanges", laid_unicode_utf8_acceptRanges), ("unicode/utf8.first", laid_unicode_utf8_first)] }
def SyntaxJoinsSaid : Prop := syntaxJoinsRow.holds Tryz.pinned (OpenSpec.ofChange syntaxJoinsSpec)

/-- ITS FALSE NEIGHBOUR: 'it returns false'. Refute it at one input. -/
def syntaxJoinsWrong : ChangeSpec := { name := "syntaxJoins", fn := fun _ => fun
  | [d1, d2, d3] => { results := [.lit (.bool false)], args := [d1, d2, d3] }
  | _ => none }
def SyntaxJoinsWrongFalsely : Prop := syntaxJoinsRow.holds Tryz.pinned (OpenSpec.ofChange syntaxJoinsWrong)

/- THE SECOND FORM. 'bulk': how many values and letters a reading holds, each counted each time it is reached (what is shared counts as often as it is met; a slice's spare places count too). A statement '..UptoSaid' is the law's where the arguments, and the package variables that the reading takes, are together of bulk at most 1048576: NARROWER than '..Said'. Prove '..Said' where nothing that the law and all that it calls make is longer than what came in: it says more and counts as full. Else prove '..UptoSaid'. A law counts once. -/
mutual
def uptoBulk {H : Type} : DataW H → Nat
  | .lit (.string bytes) => bytes.length + 1
  | .lit _ => 1
  | .nil => 1
  | .ptr d => uptoBulk d + 1
  | .slice elems spare => uptoBulkAll elems + uptoBulkAll spare + 1
  | .agg parts => uptoBulkAll parts + 1
  | .iface _ d => uptoBulk d + 1
  | .map entries => uptoBulkEntries entries + 1
  | .held _ => 1
def uptoBulkAll {H : Type} : List (DataW H) → Nat
  | [] => 0
  | d :: r => uptoBulk d + uptoBulkAll r
def uptoBulkEntries {H : Type} : List (Lit × DataW H) → Nat
  | [] => 0
  | x :: r => uptoBulkEntry x + uptoBulkEntries r
def uptoBulkEntry {H : Type} : Lit × DataW H → Nat
  | (.string bytes, d) => bytes.length + uptoBulk d + 1
  | (_, d) => uptoBulk d + 1
 end
def uptoSmall : (H : Type) → List (DataW H) → Bool := fun _ ds => decide (uptoBulkAll ds ≤ 1048576)
def OpenSpec.upto (s : _root_.Go.ChangeSpec) : _root_.Go.OpenSpec := { _root_.Go.OpenSpec.ofChange s with cond := some uptoSmall }

/-- 'riddlelaw04.SyntaxParse', WHERE WHAT IT READS IS OF BULK AT MOST 1048576: true; the input reads as it did. -/
def syntaxParseUptoRow : OpenClaim := { program := "ythiadenmljbdaaagreatdoor", sum := "984149756e10bf219df13027984c31274d5944bed284316063b742407471b650", func := "riddle/riddlelaw04.SyntaxParse", spec := "syntaxParse", inPlace := ["internal/bytealg.IndexByteString", "internal/bytealg.IndexString", "internal/abi.NoEscape", "internal/bytealg.MakeNoZero"], unfollowed := true, recurses := true, named := ["unicode/utf8.first", "unicode/utf8.acceptRanges", "internal/bytealg.MaxLen"], apart := false, laid := [("unicode/utf8.acceptRanges", laid_unicode_utf8_acceptRanges), ("unicode/utf8.first", laid_unicode_utf8_first)], narrowed := true }
def SyntaxParseUptoSaid : Prop := syntaxParseUptoRow.holds Tryz.pinned (OpenSpec.upto syntaxParseSpec)

/-- 'riddlelaw04.SyntaxPrint', WHERE WHAT IT READS IS OF BULK AT MOST 1048576: true; the input reads as it did. -/
def syntaxPrintUptoRow : OpenClaim := { program := "ythiadenmljbdaaagreatdoor", sum := "984149756e10bf219df13027984c31274d5944bed284316063b742407471b650", func := "riddle/riddlelaw04.SyntaxPrint", spec := "syntaxPrint", inPlace := ["internal/abi.NoEscape", "internal/bytealg.MakeNoZero", "internal/bytealg.IndexByteString", "internal/bytealg.IndexString"], unfollowed := true, recurses := true, named := ["unicode/utf8.first", "unicode/utf8.acceptRanges", "internal/bytealg.MaxLen"], loops := true, apart := false, laid := [("unicode/utf8.acceptRanges", laid_unicode_utf8_acceptRanges), ("unicode/utf8.first", laid_unicode_utf8_first)], narrowed := true }
def SyntaxPrintUptoSaid : Prop := syntaxPrintUptoRow.holds Tryz.pinned (OpenSpec.upto syntaxPrintSpec)

/-- 'riddlelaw04.SyntaxLooks', WHERE WHAT IT READS IS OF BULK AT MOST 1048576: true; the input reads as it did. -/
def syntaxLooksUptoRow : OpenClaim := { program := "ythiadenmljbdaaagreatdoor", sum := "984149756e10bf219df13027984c31274d5944bed284316063b742407471b650", func := "riddle/riddlelaw04.SyntaxLooks", spec := "syntaxLooks", inPlace := ["internal/bytealg.IndexByteString", "internal/bytealg.IndexString", "internal/abi.NoEscape", "internal/bytealg.MakeNoZero"], unfollowed := true, recurses := true, named := ["unicode/utf8.first", "unicode/utf8.acceptRanges", "internal/bytealg.MaxLen"], loops := true, apart := false, laid := [("unicode/utf8.acceptRanges", laid_unicode_utf8_acceptRanges), ("unicode/utf8.first", laid_unicode_utf8_first)], narrowed := true }
def SyntaxLooksUptoSaid : Prop := syntaxLooksUptoRow.holds Tryz.pinned (OpenSpec.upto syntaxLooksSpec)

/-- 'riddlelaw04.SyntaxBack', WHERE WHAT IT READS IS OF BULK AT MOST 1048576: true; the input reads as it did. -/
def syntaxBackUptoRow : OpenClaim := { program := "ythiadenmljbdaaagreatdoor", sum := "984149756e10bf219df13027984c31274d5944bed284316063b742407471b650", func := "riddle/riddlelaw04.SyntaxBack", spec := "syntaxBack", inPlace := ["internal/abi.NoEscape", "internal/bytealg.MakeNoZero", "internal/bytealg.IndexByteString", "internal/bytealg.IndexString"], unfollowed := true, recurses := true, named := ["unicode/utf8.first", "unicode/utf8.acceptRanges", "internal/bytealg.MaxLen"], loops := true, apart := false, laid := [("unicode/utf8.acceptRanges", laid_unicode_utf8_acceptRanges), ("unicode/utf8.first", laid_unicode_utf8_first)], narrowed := true }
def SyntaxBackUptoSaid : Prop := syntaxBackUptoRow.holds Tryz.pinned (OpenSpec.upto syntaxBackSpec)

/-- 'riddlelaw04.SyntaxReads', WHERE WHAT IT READS IS OF BULK AT MOST 1048576: true; the input reads as it did. -/
def syntaxReadsUptoRow : OpenClaim := { program := "ythiadenmljbdaaagreatdoor", sum := "984149756e10bf219df13027984c31274d5944bed284316063b742407471b650", func := "riddle/riddlelaw04.SyntaxReads", spec := "syntaxReads", inPlace := ["internal/bytealg.IndexByteString", "internal/bytealg.IndexString", "internal/abi.NoEscape", "internal/bytealg.MakeNoZero"], unfollowed := true, recurses := true, named := ["unicode/utf8.first", "unicode/utf8.acceptRanges", "internal/bytealg.MaxLen"], apart := false, laid := [("unicode/utf8.acceptRanges", laid_unicode_utf8_acceptRanges), ("unicode/utf8.first", laid_unicode_utf8_first)], narrowed := true }
def SyntaxReadsUptoSaid : Prop := syntaxReadsUptoRow.holds Tryz.pinned (OpenSpec.upto syntaxReadsSpec)

/-- 'riddlelaw04.SyntaxLeast', WHERE WHAT IT READS IS OF BULK AT MOST 1048576: true; the input reads as it did. -/
def syntaxLeastUptoRow : OpenClaim := { program := "ythiadenmljbdaaagreatdoor", sum := "984149756e10bf219df13027984c31274d5944bed284316063b742407471b650", func := "riddle/riddlelaw04.SyntaxLeast", spec := "syntaxLeast", inPlace := ["internal/abi.NoEscape", "internal/bytealg.MakeNoZero", "internal/bytealg.IndexByteString", "internal/bytealg.IndexString"], unfollowed := true, recurses := true, named := ["unicode/utf8.first", "unicode/utf8.acceptRanges", "internal/bytealg.MaxLen"], loops := true, apart := false, laid := [("unicode/utf8.acceptRanges", laid_unicode_utf8_acceptRanges), ("unicode/utf8.first", laid_unicode_utf8_first)], narrowed := true }
def SyntaxLeastUptoSaid : Prop := syntaxLeastUptoRow.holds Tryz.pinned (OpenSpec.upto syntaxLeastSpec)

/-- 'riddlelaw04.SyntaxAround', WHERE WHAT IT READS IS OF BULK AT MOST 1048576: true; the input reads as it did. -/
def syntaxAroundUptoRow : OpenClaim := { program := "ythiadenmljbdaaagreatdoor", sum := "984149756e10bf219df13027984c31274d5944bed284316063b742407471b650", func := "riddle/riddlelaw04.SyntaxAround", spec := "syntaxAround", inPlace := ["internal/bytealg.IndexByteString", "internal/bytealg.IndexString", "internal/abi.NoEscape", "internal/bytealg.MakeNoZero"], unfollowed := true, recurses := true, named := ["unicode/utf8.first", "unicode/utf8.acceptRanges", "internal/bytealg.MaxLen"], apart := false, laid := [("unicode/utf8.acceptRanges", laid_unicode_utf8_acceptRanges), ("unicode/utf8.first", laid_unicode_utf8_first)], narrowed := true }
def SyntaxAroundUptoSaid : Prop := syntaxAroundUptoRow.holds Tryz.pinned (OpenSpec.upto syntaxAroundSpec)

/-- 'riddlelaw04.SyntaxJoins', WHERE WHAT IT READS IS OF BULK AT MOST 1048576: true; the input reads as it did. -/
def syntaxJoinsUptoRow : OpenClaim := { program := "ythiadenmljbdaaagreatdoor", sum := "984149756e10bf219df13027984c31274d5944bed284316063b742407471b650", func := "riddle/riddlelaw04.SyntaxJoins", spec := "syntaxJoins", inPlace := ["internal/bytealg.IndexByteString", "internal/bytealg.IndexString", "internal/abi.NoEscape", "internal/bytealg.MakeNoZero"], unfollowed := true, recurses := true, named := ["unicode/utf8.first", "unicode/utf8.acceptRanges", "internal/bytealg.MaxLen"], apart := false, laid := [("unicode/utf8.acceptRanges", laid_unicode_utf8_acceptRanges), ("unicode/utf8.first", laid_unicode_utf8_first)], narrowed := true }
def SyntaxJoinsUptoSaid : Prop := syntaxJoinsUptoRow.holds Tryz.pinned (OpenSpec.upto syntaxJoinsSpec)

end Rows
end Go.Proofs.YthiadenmljbdaaaGreatDoor
