/-
  NARROWER THAN 'FOR EVERY INPUT', by the rows' own cells (each row's printed sentence says how): LineBack: laid · LineVerbs: laid · LineWords: laid · LineJoins: laid · LineParses: laid · LineWrites: laid.
  DERIVED. THE GIVEN ROWS OF THIS SEAT. 6 by the template 'for every input the law returns true; each argument reads behind the call as it read before'; 0 by the template 'total and deterministic' (their statements: YtpmnipaimoaagaaDoorTotals.lean).
  GIVEN WITH THE SEED: the statements are not yours to turn. If you find one false, say at which input.
  Laid BY PROGRAM, IN A SANDBOX (cutbox-rows.mjs): the forced cells as the released guide's own fill.sh prints them over the translation 2ca8cf6e71563d6a… (all of the seat's roots in one cut). By AI agents, Wed Nov 11 2026. No macro, syntax, notation, axiom, sorry.
-/
import Derived.Test.YtpmnipaimoaagaaDoorChecked
import GoSem.PinnedTables
import GoSem.Claim
import GoSem.ClaimJoined
import GoSem.ClaimMapViews
import Derived.JoinedTies
import Derived.KernelRfl
namespace Go.Proofs.YtpmnipaimoaagaaDoor
/- THE CELL 'sum', in the pinned program and in every row, IS THE sha256 OF THE DUMP (.gsa) THAT YtpmnipaimoaagaaDoorProg.lean LOADS. Nothing in Lean hashes anything: it is a label: what it is worth is what the hold of that sum in a sandbox is worth. -/
noncomputable def Tryd.pinned : Pinned := { name := "ytpmnipaimoaagaadoor", sum := "2ca8cf6e71563d6a83dddfbad163f5242af314bc4760c047c7f72fe3eab64062", checked := Tryd.checked }
namespace Rows
def none {H : Type} : Left H := { results := [], args := [] }

/- WHAT THE LISTED PACKAGE-LEVEL VARIABLES READ AS WHEN THE CALL BEGINS. Each datum BY PROGRAM (the guide's laid-datum.mjs) off the statement by which the dump's own 'gosem.cut.vars' lays the variable. In a bare row this is a premise. The card (YtpmnipaimoaagaaDoorCards.lean) ties it to the program's text. -/
def laid_unicode_utf8_acceptRanges {H : Type} : DataW H := .agg [.agg [.lit (.int .u8 128), .lit (.int .u8 191)], .agg [.lit (.int .u8 160), .lit (.int .u8 191)], .agg [.lit (.int .u8 128), .lit (.int .u8 159)], .agg [.lit (.int .u8 144), .lit (.int .u8 191)], .agg [.lit (.int .u8 128), .lit (.int .u8 143)], .agg [.lit (.int .u8 0), .lit (.int .u8 0)], .agg [.lit (.int .u8 0), .lit (.int .u8 0)], .agg [.lit (.int .u8 0), .lit (.int .u8 0)], .agg [.lit (.int .u8 0), .lit (.int .u8 0)], .agg [.lit (.int .u8 0), .lit (.int .u8 0)], .agg [.lit (.int .u8 0), .lit (.int .u8 0)], .agg [.lit (.int .u8 0), .lit (.int .u8 0)], .agg [.lit (.int .u8 0), .lit (.int .u8 0)], .agg [.lit (.int .u8 0), .lit (.int .u8 0)], .agg [.lit (.int .u8 0), .lit (.int .u8 0)], .agg [.lit (.int .u8 0), .lit (.int .u8 0)]]
def laid_muniment_line_forms {H : Type} : DataW H := .agg [.agg [.lit (.string [99, 114, 101, 97, 116, 101]), .lit (.int .u8 1), .lit (.int .i64 4)], .agg [.lit (.string [100, 114, 111, 112]), .lit (.int .u8 2), .lit (.int .i64 2)], .agg [.lit (.string [108, 111, 103, 105, 110]), .lit (.int .u8 3), .lit (.int .i64 2)], .agg [.lit (.string [99, 104, 101, 99, 107]), .lit (.int .u8 4), .lit (.int .i64 1)], .agg [.lit (.string [114, 101, 118, 111, 107, 101]), .lit (.int .u8 5), .lit (.int .i64 1)], .agg [.lit (.string [112, 97, 115, 115]), .lit (.int .u8 6), .lit (.int .i64 3)], .agg [.lit (.string [114, 111, 108, 101]), .lit (.int .u8 7), .lit (.int .i64 3)], .agg [.lit (.string [117, 110, 108, 111, 99, 107]), .lit (.int .u8 8), .lit (.int .i64 2)], .agg [.lit (.string [119, 104, 111]), .lit (.int .u8 9), .lit (.int .i64 2)], .agg [.lit (.string [108, 105, 115, 116]), .lit (.int .u8 10), .lit (.int .i64 1)], .agg [.lit (.string [97, 117, 100, 105, 116]), .lit (.int .u8 11), .lit (.int .i64 2)]]
/-- One of Go's own tables, pinned by name: the form's constant. -/
def laid_unicode_utf8_first : DataW Unit := Go.Pinned.utf8First

/-- 'munimentlaw05.LineBack': WHATEVER THE INPUT: true; the input reads as it did. -/
def lineBackSpec : ChangeSpec := { name := "lineBack", fn := fun _ => fun
  | [d] => { results := [.lit (.bool true)], args := [d] }
  | _ => none }
def lineBackRow : OpenClaim := { program := "ytpmnipaimoaagaadoor", sum := "2ca8cf6e71563d6a83dddfbad163f5242af314bc4760c047c7f72fe3eab64062", func := "muniment/munimentlaw05.LineBack", spec := "lineBack", inPlace := ["internal/abi.NoEscape", "internal/bytealg.CountString", "internal/bytealg.IndexByteString", "internal/bytealg.IndexString", "internal/bytealg.MakeNoZero"], named := ["unicode/utf8.first", "unicode/utf8.acceptRanges", "muniment/line.forms", "internal/bytealg.MaxLen"], apart := false, laid := [("unicode/utf8.acceptRanges", laid_unicode_utf8_acceptRanges), ("muniment/line.forms", laid_muniment_line_forms), ("unicode/utf8.first", laid_unicode_utf8_first)] }
def LineBackSaid : Prop := lineBackRow.holds Tryd.pinned (OpenSpec.ofChange lineBackSpec)

/-- ITS FALSE NEIGHBOUR: 'it returns false'. Refute it at one input. -/
def lineBackWrong : ChangeSpec := { name := "lineBack", fn := fun _ => fun
  | [d] => { results := [.lit (.bool false)], args := [d] }
  | _ => none }
def LineBackWrongFalsely : Prop := lineBackRow.holds Tryd.pinned (OpenSpec.ofChange lineBackWrong)

/-- 'munimentlaw05.LineVerbs': WHATEVER THE INPUT: true; the input reads as it did. -/
def lineVerbsSpec : ChangeSpec := { name := "lineVerbs", fn := fun _ => fun
  | [d1, d2] => { results := [.lit (.bool true)], args := [d1, d2] }
  | _ => none }
def lineVerbsRow : OpenClaim := { program := "ytpmnipaimoaagaadoor", sum := "2ca8cf6e71563d6a83dddfbad163f5242af314bc4760c047c7f72fe3eab64062", func := "muniment/munimentlaw05.LineVerbs", spec := "lineVerbs", inPlace := ["internal/abi.NoEscape", "internal/bytealg.CountString", "internal/bytealg.IndexByteString", "internal/bytealg.IndexString", "internal/bytealg.MakeNoZero"], named := ["unicode/utf8.first", "unicode/utf8.acceptRanges", "muniment/line.forms", "internal/bytealg.MaxLen"], apart := false, laid := [("unicode/utf8.acceptRanges", laid_unicode_utf8_acceptRanges), ("muniment/line.forms", laid_muniment_line_forms), ("unicode/utf8.first", laid_unicode_utf8_first)] }
def LineVerbsSaid : Prop := lineVerbsRow.holds Tryd.pinned (OpenSpec.ofChange lineVerbsSpec)

/-- ITS FALSE NEIGHBOUR: 'it returns false'. Refute it at one input. -/
def lineVerbsWrong : ChangeSpec := { name := "lineVerbs", fn := fun _ => fun
  | [d1, d2] => { results := [.lit (.bool false)], args := [d1, d2] }
  | _ => none }
def LineVerbsWrongFalsely : Prop := lineVerbsRow.holds Tryd.pinned (OpenSpec.ofChange lineVerbsWrong)

/-- 'munimentlaw05.LineWords': WHATEVER THE INPUT: true; the input reads as it did. -/
def lineWordsSpec : ChangeSpec := { name := "lineWords", fn := fun _ => fun
  | [d] => { results := [.lit (.bool true)], args := [d] }
  | _ => none }
def lineWordsRow : OpenClaim := { program := "ytpmnipaimoaagaadoor", sum := "2ca8cf6e71563d6a83dddfbad163f5242af314bc4760c047c7f72fe3eab64062", func := "muniment/munimentlaw05.LineWords", spec := "lineWords", inPlace := ["internal/abi.NoEscape"], named := ["unicode/utf8.first", "unicode/utf8.acceptRanges"], apart := false, laid := [("unicode/utf8.acceptRanges", laid_unicode_utf8_acceptRanges), ("unicode/utf8.first", laid_unicode_utf8_first)] }
def LineWordsSaid : Prop := lineWordsRow.holds Tryd.pinned (OpenSpec.ofChange lineWordsSpec)

/-- ITS FALSE NEIGHBOUR: 'it returns false'. Refute it at one input. -/
def lineWordsWrong : ChangeSpec := { name := "lineWords", fn := fun _ => fun
  | [d] => { results := [.lit (.bool false)], args := [d] }
  | _ => none }
def LineWordsWrongFalsely : Prop := lineWordsRow.holds Tryd.pinned (OpenSpec.ofChange lineWordsWrong)

/-- 'munimentlaw05.LineJoins': WHATEVER THE INPUT: true; the input reads as it did. -/
def lineJoinsSpec : ChangeSpec := { name := "lineJoins", fn := fun _ => fun
  | [d1, d2] => { results := [.lit (.bool true)], args := [d1, d2] }
  | _ => none }
def lineJoinsRow : OpenClaim := { program := "ytpmnipaimoaagaadoor", sum := "2ca8cf6e71563d6a83dddfbad163f5242af314bc4760c047c7f72fe3eab64062", func := "muniment/munimentlaw05.LineJoins", spec := "lineJoins", inPlace := ["internal/abi.NoEscape"], named := ["unicode/utf8.first", "unicode/utf8.acceptRanges"], apart := false, laid := [("unicode/utf8.acceptRanges", laid_unicode_utf8_acceptRanges), ("unicode/utf8.first", laid_unicode_utf8_first)] }
def LineJoinsSaid : Prop := lineJoinsRow.holds Tryd.pinned (OpenSpec.ofChange lineJoinsSpec)

/-- ITS FALSE NEIGHBOUR: 'it returns false'. Refute it at one input. -/
def lineJoinsWrong : ChangeSpec := { name := "lineJoins", fn := fun _ => fun
  | [d1, d2] => { results := [.lit (.bool false)], args := [d1, d2] }
  | _ => none }
def LineJoinsWrongFalsely : Prop := lineJoinsRow.holds Tryd.pinned (OpenSpec.ofChange lineJoinsWrong)

/-- 'munimentlaw05.LineParses': WHATEVER THE INPUT: true; the input reads as it did. -/
def lineParsesSpec : ChangeSpec := { name := "lineParses", fn := fun _ => fun
  | [d] => { results := [.lit (.bool true)], args := [d] }
  | _ => none }
def lineParsesRow : OpenClaim := { program := "ytpmnipaimoaagaadoor", sum := "2ca8cf6e71563d6a83dddfbad163f5242af314bc4760c047c7f72fe3eab64062", func := "muniment/munimentlaw05.LineParses", spec := "lineParses", inPlace := ["internal/abi.NoEscape"], named := ["unicode/utf8.first", "unicode/utf8.acceptRanges", "muniment/line.forms"], apart := false, laid := [("unicode/utf8.acceptRanges", laid_unicode_utf8_acceptRanges), ("muniment/line.forms", laid_muniment_line_forms), ("unicode/utf8.first", laid_unicode_utf8_first)] }
def LineParsesSaid : Prop := lineParsesRow.holds Tryd.pinned (OpenSpec.ofChange lineParsesSpec)

/-- ITS FALSE NEIGHBOUR: 'it returns false'. Refute it at one input. -/
def lineParsesWrong : ChangeSpec := { name := "lineParses", fn := fun _ => fun
  | [d] => { results := [.lit (.bool false)], args := [d] }
  | _ => none }
def LineParsesWrongFalsely : Prop := lineParsesRow.holds Tryd.pinned (OpenSpec.ofChange lineParsesWrong)

/-- 'munimentlaw05.LineWrites': WHATEVER THE INPUT: true; the input reads as it did. -/
def lineWritesSpec : ChangeSpec := { name := "lineWrites", fn := fun _ => fun
  | [d] => { results := [.lit (.bool true)], args := [d] }
  | _ => none }
def lineWritesRow : OpenClaim := { program := "ytpmnipaimoaagaadoor", sum := "2ca8cf6e71563d6a83dddfbad163f5242af314bc4760c047c7f72fe3eab64062", func := "muniment/munimentlaw05.LineWrites", spec := "lineWrites", inPlace := ["internal/abi.NoEscape", "internal/bytealg.CountString", "internal/bytealg.IndexByteString", "internal/bytealg.IndexString", "internal/bytealg.MakeNoZero"], named := ["unicode/utf8.first", "unicode/utf8.acceptRanges", "muniment/line.forms", "internal/bytealg.MaxLen"], apart := false, laid := [("unicode/utf8.acceptRanges", laid_unicode_utf8_acceptRanges), ("muniment/line.forms", laid_muniment_line_forms), ("unicode/utf8.first", laid_unicode_utf8_first)] }
def LineWritesSaid : Prop := lineWritesRow.holds Tryd.pinned (OpenSpec.ofChange lineWritesSpec)

/-- ITS FALSE NEIGHBOUR: 'it returns false'. Refute it at one input. -/
def lineWritesWrong : ChangeSpec := { name := "lineWrites", fn := fun _ => fun
  | [d] => { results := [.lit (.bool false)], args := [d] }
  | _ => none }
def LineWritesWrongFalsely : Prop := lineWritesRow.holds Tryd.pinned (OpenSpec.ofChange lineWritesWrong)

/- THE SECOND FORM. 'bulk': how many values and letters a reading holds, each counted each time it is reached (what is shared counts as often as it is met; a slice's spare places count too). A statement '..UptoSaid' is the law's where the arguments, and the package variables that the reading takes, are together of bulk at most 1048576: NARROWER than '..Said'. Prove '..Said' where nothing that the law and all that it calls make is longer than what came in: it says more and counts as full. Else prove '..UptoSaid'. A law counts once. -/
mutual
def uptoBulk {H : Type} : DataW H → Nat
  | .lit (.string bytes) => bytes.length + 1
  | .lit _ => 1
  | .nil => 1
  | .ptr d => uptoBulk d + 1
  | .slice elems spare => uptoBulkAll elems + uptoBulkAll spare + 1
  | .agg parts => uptoBulkAll parts + 1
  | .iface _ d => uptoBulk d + 1
  | .map entries => uptoBulkEntries entries + 1
  | .held _ => 1
def uptoBulkAll {H : Type} : List (DataW H) → Nat
  | [] => 0
  | d :: r => uptoBulk d + uptoBulkAll r
def uptoBulkEntries {H : Type} : List (Lit × DataW H) → Nat
  | [] => 0
  | x :: r => uptoBulkEntry x + uptoBulkEntries r
def uptoBulkEntry {H : Type} : Lit × DataW H → Nat
  | (.string bytes, d) => bytes.length + uptoBulk d + 1
  | (_, d) => uptoBulk d + 1
 end
def uptoSmall : (H : Type) → List (DataW H) → Bool := fun _ ds => decide (uptoBulkAll ds ≤ 1048576)
def OpenSpec.upto (s : _root_.Go.ChangeSpec) : _root_.Go.OpenSpec := { _root_.Go.OpenSpec.ofChange s with cond := some uptoSmall }

/-- 'munimentlaw05.LineBack', WHERE WHAT IT READS IS OF BULK AT MOST 1048576: true; the input reads as it did. -/
def lineBackUptoRow : OpenClaim := { program := "ytpmnipaimoaagaadoor", sum := "2ca8cf6e71563d6a83dddfbad163f5242af314bc4760c047c7f72fe3eab64062", func := "muniment/munimentlaw05.LineBack", spec := "lineBack", inPlace := ["internal/abi.NoEscape", "internal/bytealg.CountString", "internal/bytealg.IndexByteString", "internal/bytealg.IndexString", "internal/bytealg.MakeNoZero"], named := ["unicode/utf8.first", "unicode/utf8.acceptRanges", "muniment/line.forms", "internal/bytealg.MaxLen"], apart := false, laid := [("unicode/utf8.acceptRanges", laid_unicode_utf8_acceptRanges), ("muniment/line.forms", laid_muniment_line_forms), ("unicode/utf8.first", laid_unicode_utf8_first)], narrowed := true }
def LineBackUptoSaid : Prop := lineBackUptoRow.holds Tryd.pinned (OpenSpec.upto lineBackSpec)

/-- 'munimentlaw05.LineVerbs', WHERE WHAT IT READS IS OF BULK AT MOST 1048576: true; the input reads as it did. -/
def lineVerbsUptoRow : OpenClaim := { program := "ytpmnipaimoaagaadoor", sum := "2ca8cf6e71563d6a83dddfbad163f5242af314bc4760c047c7f72fe3eab64062", func := "muniment/munimentlaw05.LineVerbs", spec := "lineVerbs", inPlace := ["internal/abi.NoEscape", "internal/bytealg.CountString", "internal/bytealg.IndexByteString", "internal/bytealg.IndexString", "internal/bytealg.MakeNoZero"], named := ["unicode/utf8.first", "unicode/utf8.acceptRanges", "muniment/line.forms", "internal/bytealg.MaxLen"], apart := false, laid := [("unicode/utf8.acceptRanges", laid_unicode_utf8_acceptRanges), ("muniment/line.forms", laid_muniment_line_forms), ("unicode/utf8.first", laid_unicode_utf8_first)], narrowed := true }
def LineVerbsUptoSaid : Prop := lineVerbsUptoRow.holds Tryd.pinned (OpenSpec.upto lineVerbsSpec)

/-- 'munimentlaw05.LineWords', WHERE WHAT IT READS IS OF BULK AT MOST 1048576: true; the input reads as it did. -/
def lineWordsUptoRow : OpenClaim := { program := "ytpmnipaimoaagaadoor", sum := "2ca8cf6e71563d6a83dddfbad163f5242af314bc4760c047c7f72fe3eab64062", func := "muniment/munimentlaw05.LineWords", spec := "lineWords", inPlace := ["internal/abi.NoEscape"], named := ["unicode/utf8.first", "unicode/utf8.acceptRanges"], apart := false, laid := [("unicode/utf8.acceptRanges", laid_unicode_utf8_acceptRanges), ("unicode/utf8.first", laid_unicode_utf8_first)], narrowed := true }
def LineWordsUptoSaid : Prop := lineWordsUptoRow.holds Tryd.pinned (OpenSpec.upto lineWordsSpec)

/-- 'munimentlaw05.LineJoins', WHERE WHAT IT READS IS OF BULK AT MOST 1048576: true; the input reads as it did. -/
def lineJoinsUptoRow : OpenClaim := { program := "ytpmnipaimoaagaadoor", sum := "2ca8cf6e71563d6a83dddfbad163f5242af314bc4760c047c7f72fe3eab64062", func := "muniment/munimentlaw05.LineJoins", spec := "lineJoins", inPlace := ["internal/abi.NoEscape"], named := ["unicode/utf8.first", "unicode/utf8.acceptRanges"], apart := false, laid := [("unicode/utf8.acceptRanges", laid_unicode_utf8_acceptRanges), ("unicode/utf8.first", laid_unicode_utf8_first)], narrowed := true }
def LineJoinsUptoSaid : Prop := lineJoinsUptoRow.holds Tryd.pinned (OpenSpec.upto lineJoinsSpec)

/-- 'munimentlaw05.LineParses', WHERE WHAT IT READS IS OF BULK AT MOST 1048576: true; the input reads as it did. -/
def lineParsesUptoRow : OpenClaim := { program := "ytpmnipaimoaagaadoor", sum := "2ca8cf6e71563d6a83dddfbad163f5242af314bc4760c047c7f72fe3eab64062", func := "muniment/munimentlaw05.LineParses", spec := "lineParses", inPlace := ["internal/abi.NoEscape"], named := ["unicode/utf8.first", "unicode/utf8.acceptRanges", "muniment/line.forms"], apart := false, laid := [("unicode/utf8.acceptRanges", laid_unicode_utf8_acceptRanges), ("muniment/line.forms", laid_muniment_line_forms), ("unicode/utf8.first", laid_unicode_utf8_first)], narrowed := true }
def LineParsesUptoSaid : Prop := lineParsesUptoRow.holds Tryd.pinned (OpenSpec.upto lineParsesSpec)

/-- 'munimentlaw05.LineWrites', WHERE WHAT IT READS IS OF BULK AT MOST 1048576: true; the input reads as it did. -/
def lineWritesUptoRow : OpenClaim := { program := "ytpmnipaimoaagaadoor", sum := "2ca8cf6e71563d6a83dddfbad163f5242af314bc4760c047c7f72fe3eab64062", func := "muniment/munimentlaw05.LineWrites", spec := "lineWrites", inPlace := ["internal/abi.NoEscape", "internal/bytealg.CountString", "internal/bytealg.IndexByteString", "internal/bytealg.IndexString", "internal/bytealg.MakeNoZero"], named := ["unicode/utf8.first", "unicode/utf8.acceptRanges", "muniment/line.forms", "internal/bytealg.MaxLen"], apart := false, laid := [("unicode/utf8.acceptRanges", laid_unicode_utf8_acceptRanges), ("muniment/line.forms", laid_muniment_line_forms), ("unicode/utf8.first", laid_unicode_utf8_first)], narrowed := true }
def LineWritesUptoSaid : Prop := lineWritesUptoRow.holds Tryd.pinned (OpenSpec.upto lineWritesSpec)

end Rows
end Go.Proofs.YtpmnipaimoaagaaDoor
