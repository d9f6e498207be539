/-
  NARROWER THAN 'FOR EVERY INPUT', by the rows' own cells (each row's printed sentence says how): CodecBases: laid · CodecSigns: laid · CodecStands: laid · CodecEncodes: laid · CodecDecodes: laid · CodecCuts: laid · CodecKeys: laid · CodecRuns: laid.
  DERIVED. THE GIVEN ROWS OF THIS SEAT. 8 by the template 'for every input the law returns true; each argument reads behind the call as it read before'; 0 by the template 'total and deterministic' (their statements: YtapijncpploihaaDoorTotals.lean).
  GIVEN WITH THE SEED: the statements are not yours to turn. If you find one false, say at which input.
  Laid BY PROGRAM, IN A SANDBOX (cutbox-rows.mjs): the forced cells as the released guide's own fill.sh prints them over the translation 6ad58cc08a833482… (all of the seat's roots in one cut). By AI agents, Wed Nov 11 2026. No macro, syntax, notation, axiom, sorry.
-/
import Derived.Test.YtapijncpploihaaDoorChecked
import GoSem.PinnedTables
import GoSem.Claim
import GoSem.ClaimJoined
import GoSem.ClaimMapViews
import Derived.JoinedTies
import Derived.KernelRfl
namespace Go.Proofs.YtapijncpploihaaDoor
/- THE CELL 'sum', in the pinned program and in every row, IS THE sha256 OF THE DUMP (.gsa) THAT YtapijncpploihaaDoorProg.lean LOADS. Nothing in Lean hashes anything: it is a label: what it is worth is what the hold of that sum in a sandbox is worth. -/
noncomputable def Tryd.pinned : Pinned := { name := "ytapijncpploihaadoor", sum := "6ad58cc08a8334828cfede2390dc1e1af14bf28cb3413303ad933e9d1afc0ad6", checked := Tryd.checked }
namespace Rows
def none {H : Type} : Left H := { results := [], args := [] }

/- WHAT THE LISTED PACKAGE-LEVEL VARIABLES READ AS WHEN THE CALL BEGINS. Each datum BY PROGRAM (the guide's laid-datum.mjs) off the statement by which the dump's own 'gosem.cut.vars' lays the variable. In a bare row this is a premise. The card (YtapijncpploihaaDoorCards.lean) ties it to the program's text. -/
def laid_unicode_utf8_acceptRanges {H : Type} : DataW H := .agg [.agg [.lit (.int .u8 128), .lit (.int .u8 191)], .agg [.lit (.int .u8 160), .lit (.int .u8 191)], .agg [.lit (.int .u8 128), .lit (.int .u8 159)], .agg [.lit (.int .u8 144), .lit (.int .u8 191)], .agg [.lit (.int .u8 128), .lit (.int .u8 143)], .agg [.lit (.int .u8 0), .lit (.int .u8 0)], .agg [.lit (.int .u8 0), .lit (.int .u8 0)], .agg [.lit (.int .u8 0), .lit (.int .u8 0)], .agg [.lit (.int .u8 0), .lit (.int .u8 0)], .agg [.lit (.int .u8 0), .lit (.int .u8 0)], .agg [.lit (.int .u8 0), .lit (.int .u8 0)], .agg [.lit (.int .u8 0), .lit (.int .u8 0)], .agg [.lit (.int .u8 0), .lit (.int .u8 0)], .agg [.lit (.int .u8 0), .lit (.int .u8 0)], .agg [.lit (.int .u8 0), .lit (.int .u8 0)], .agg [.lit (.int .u8 0), .lit (.int .u8 0)]]
/-- One of Go's own tables, pinned by name: the form's constant. -/
def laid_unicode_utf8_first : DataW Unit := Go.Pinned.utf8First

/-- 'munimentlaw04.CodecBases': WHATEVER THE INPUT: true; the input reads as it did. -/
def codecBasesSpec : ChangeSpec := { name := "codecBases", fn := fun _ => fun
  | [d1, d2] => { results := [.lit (.bool true)], args := [d1, d2] }
  | _ => none }
def codecBasesRow : OpenClaim := { program := "ytapijncpploihaadoor", sum := "6ad58cc08a8334828cfede2390dc1e1af14bf28cb3413303ad933e9d1afc0ad6", func := "muniment/munimentlaw04.CodecBases", spec := "codecBases", named := ["unicode/utf8.first", "unicode/utf8.acceptRanges"], apart := false, laid := [("unicode/utf8.acceptRanges", laid_unicode_utf8_acceptRanges), ("unicode/utf8.first", laid_unicode_utf8_first)] }
def CodecBasesSaid : Prop := codecBasesRow.holds Tryd.pinned (OpenSpec.ofChange codecBasesSpec)

/-- ITS FALSE NEIGHBOUR: 'it returns false'. Refute it at one input. -/
def codecBasesWrong : ChangeSpec := { name := "codecBases", fn := fun _ => fun
  | [d1, d2] => { results := [.lit (.bool false)], args := [d1, d2] }
  | _ => none }
def CodecBasesWrongFalsely : Prop := codecBasesRow.holds Tryd.pinned (OpenSpec.ofChange codecBasesWrong)

/-- 'munimentlaw04.CodecSigns': WHATEVER THE INPUT: true; the input reads as it did. -/
def codecSignsSpec : ChangeSpec := { name := "codecSigns", fn := fun _ => fun
  | [d1, d2, d3] => { results := [.lit (.bool true)], args := [d1, d2, d3] }
  | _ => none }
def codecSignsRow : OpenClaim := { program := "ytapijncpploihaadoor", sum := "6ad58cc08a8334828cfede2390dc1e1af14bf28cb3413303ad933e9d1afc0ad6", func := "muniment/munimentlaw04.CodecSigns", spec := "codecSigns", named := ["unicode/utf8.first", "unicode/utf8.acceptRanges"], apart := false, laid := [("unicode/utf8.acceptRanges", laid_unicode_utf8_acceptRanges), ("unicode/utf8.first", laid_unicode_utf8_first)] }
def CodecSignsSaid : Prop := codecSignsRow.holds Tryd.pinned (OpenSpec.ofChange codecSignsSpec)

/-- ITS FALSE NEIGHBOUR: 'it returns false'. Refute it at one input. -/
def codecSignsWrong : ChangeSpec := { name := "codecSigns", fn := fun _ => fun
  | [d1, d2, d3] => { results := [.lit (.bool false)], args := [d1, d2, d3] }
  | _ => none }
def CodecSignsWrongFalsely : Prop := codecSignsRow.holds Tryd.pinned (OpenSpec.ofChange codecSignsWrong)

/-- 'munimentlaw04.CodecStands': WHATEVER THE INPUT: true; the input reads as it did. -/
def codecStandsSpec : ChangeSpec := { name := "codecStands", fn := fun _ => fun
  | [d1, d2, d3, d4] => { results := [.lit (.bool true)], args := [d1, d2, d3, d4] }
  | _ => none }
def codecStandsRow : OpenClaim := { program := "ytapijncpploihaadoor", sum := "6ad58cc08a8334828cfede2390dc1e1af14bf28cb3413303ad933e9d1afc0ad6", func := "muniment/munimentlaw04.CodecStands", spec := "codecStands", named := ["unicode/utf8.first", "unicode/utf8.acceptRanges"], apart := false, laid := [("unicode/utf8.acceptRanges", laid_unicode_utf8_acceptRanges), ("unicode/utf8.first", laid_unicode_utf8_first)] }
def CodecStandsSaid : Prop := codecStandsRow.holds Tryd.pinned (OpenSpec.ofChange codecStandsSpec)

/-- ITS FALSE NEIGHBOUR: 'it returns false'. Refute it at one input. -/
def codecStandsWrong : ChangeSpec := { name := "codecStands", fn := fun _ => fun
  | [d1, d2, d3, d4] => { results := [.lit (.bool false)], args := [d1, d2, d3, d4] }
  | _ => none }
def CodecStandsWrongFalsely : Prop := codecStandsRow.holds Tryd.pinned (OpenSpec.ofChange codecStandsWrong)

/-- 'munimentlaw04.CodecEncodes': WHATEVER THE INPUT: true; the input reads as it did. -/
def codecEncodesSpec : ChangeSpec := { name := "codecEncodes", fn := fun _ => fun
  | [d] => { results := [.lit (.bool true)], args := [d] }
  | _ => none }
def codecEncodesRow : OpenClaim := { program := "ytapijncpploihaadoor", sum := "6ad58cc08a8334828cfede2390dc1e1af14bf28cb3413303ad933e9d1afc0ad6", func := "muniment/munimentlaw04.CodecEncodes", spec := "codecEncodes", unfollowed := true, recurses := true, named := ["unicode/utf8.first", "unicode/utf8.acceptRanges"], apart := false, laid := [("unicode/utf8.acceptRanges", laid_unicode_utf8_acceptRanges), ("unicode/utf8.first", laid_unicode_utf8_first)] }
def CodecEncodesSaid : Prop := codecEncodesRow.holds Tryd.pinned (OpenSpec.ofChange codecEncodesSpec)

/-- ITS FALSE NEIGHBOUR: 'it returns false'. Refute it at one input. -/
def codecEncodesWrong : ChangeSpec := { name := "codecEncodes", fn := fun _ => fun
  | [d] => { results := [.lit (.bool false)], args := [d] }
  | _ => none }
def CodecEncodesWrongFalsely : Prop := codecEncodesRow.holds Tryd.pinned (OpenSpec.ofChange codecEncodesWrong)

/-- 'munimentlaw04.CodecDecodes': WHATEVER THE INPUT: true; the input reads as it did. -/
def codecDecodesSpec : ChangeSpec := { name := "codecDecodes", fn := fun _ => fun
  | [d] => { results := [.lit (.bool true)], args := [d] }
  | _ => none }
def codecDecodesRow : OpenClaim := { program := "ytapijncpploihaadoor", sum := "6ad58cc08a8334828cfede2390dc1e1af14bf28cb3413303ad933e9d1afc0ad6", func := "muniment/munimentlaw04.CodecDecodes", spec := "codecDecodes", unfollowed := true, recurses := true, named := ["unicode/utf8.first", "unicode/utf8.acceptRanges"], apart := false, laid := [("unicode/utf8.acceptRanges", laid_unicode_utf8_acceptRanges), ("unicode/utf8.first", laid_unicode_utf8_first)] }
def CodecDecodesSaid : Prop := codecDecodesRow.holds Tryd.pinned (OpenSpec.ofChange codecDecodesSpec)

/-- ITS FALSE NEIGHBOUR: 'it returns false'. Refute it at one input. -/
def codecDecodesWrong : ChangeSpec := { name := "codecDecodes", fn := fun _ => fun
  | [d] => { results := [.lit (.bool false)], args := [d] }
  | _ => none }
def CodecDecodesWrongFalsely : Prop := codecDecodesRow.holds Tryd.pinned (OpenSpec.ofChange codecDecodesWrong)

/-- 'munimentlaw04.CodecCuts': WHATEVER THE INPUT: true; the input reads as it did. -/
def codecCutsSpec : ChangeSpec := { name := "codecCuts", fn := fun _ => fun
  | [d1, d2, d3] => { results := [.lit (.bool true)], args := [d1, d2, d3] }
  | _ => none }
def codecCutsRow : OpenClaim := { program := "ytapijncpploihaadoor", sum := "6ad58cc08a8334828cfede2390dc1e1af14bf28cb3413303ad933e9d1afc0ad6", func := "muniment/munimentlaw04.CodecCuts", spec := "codecCuts", unfollowed := true, recurses := true, named := ["unicode/utf8.first", "unicode/utf8.acceptRanges"], apart := false, laid := [("unicode/utf8.acceptRanges", laid_unicode_utf8_acceptRanges), ("unicode/utf8.first", laid_unicode_utf8_first)] }
def CodecCutsSaid : Prop := codecCutsRow.holds Tryd.pinned (OpenSpec.ofChange codecCutsSpec)

/-- ITS FALSE NEIGHBOUR: 'it returns false'. Refute it at one input. -/
def codecCutsWrong : ChangeSpec := { name := "codecCuts", fn := fun _ => fun
  | [d1, d2, d3] => { results := [.lit (.bool false)], args := [d1, d2, d3] }
  | _ => none }
def CodecCutsWrongFalsely : Prop := codecCutsRow.holds Tryd.pinned (OpenSpec.ofChange codecCutsWrong)

/-- 'munimentlaw04.CodecKeys': WHATEVER THE INPUT: true; the input reads as it did. -/
def codecKeysSpec : ChangeSpec := { name := "codecKeys", fn := fun _ => fun
  | [d1, d2, d3, d4] => { results := [.lit (.bool true)], args := [d1, d2, d3, d4] }
  | _ => none }
def codecKeysRow : OpenClaim := { program := "ytapijncpploihaadoor", sum := "6ad58cc08a8334828cfede2390dc1e1af14bf28cb3413303ad933e9d1afc0ad6", func := "muniment/munimentlaw04.CodecKeys", spec := "codecKeys", named := ["unicode/utf8.first", "unicode/utf8.acceptRanges"], apart := false, laid := [("unicode/utf8.acceptRanges", laid_unicode_utf8_acceptRanges), ("unicode/utf8.first", laid_unicode_utf8_first)] }
def CodecKeysSaid : Prop := codecKeysRow.holds Tryd.pinned (OpenSpec.ofChange codecKeysSpec)

/-- ITS FALSE NEIGHBOUR: 'it returns false'. Refute it at one input. -/
def codecKeysWrong : ChangeSpec := { name := "codecKeys", fn := fun _ => fun
  | [d1, d2, d3, d4] => { results := [.lit (.bool false)], args := [d1, d2, d3, d4] }
  | _ => none }
def CodecKeysWrongFalsely : Prop := codecKeysRow.holds Tryd.pinned (OpenSpec.ofChange codecKeysWrong)

/-- 'munimentlaw04.CodecRuns': WHATEVER THE INPUT: true; the input reads as it did. -/
def codecRunsSpec : ChangeSpec := { name := "codecRuns", fn := fun _ => fun
  | [d1, d2] => { results := [.lit (.bool true)], args := [d1, d2] }
  | _ => none }
def codecRunsRow : OpenClaim := { program := "ytapijncpploihaadoor", sum := "6ad58cc08a8334828cfede2390dc1e1af14bf28cb3413303ad933e9d1afc0ad6", func := "muniment/munimentlaw04.CodecRuns", spec := "codecRuns", named := ["unicode/utf8.first", "unicode/utf8.acceptRanges"], apart := false, laid := [("unicode/utf8.acceptRanges", laid_unicode_utf8_acceptRanges), ("unicode/utf8.first", laid_unicode_utf8_first)] }
def CodecRunsSaid : Prop := codecRunsRow.holds Tryd.pinned (OpenSpec.ofChange codecRunsSpec)

/-- ITS FALSE NEIGHBOUR: 'it returns false'. Refute it at one input. -/
def codecRunsWrong : ChangeSpec := { name := "codecRuns", fn := fun _ => fun
  | [d1, d2] => { results := [.lit (.bool false)], args := [d1, d2] }
  | _ => none }
def CodecRunsWrongFalsely : Prop := codecRunsRow.holds Tryd.pinned (OpenSpec.ofChange codecRunsWrong)

/- THE SECOND FORM. 'bulk': how many values and letters a reading holds, each counted each time it is reached (what is shared counts as often as it is met; a slice's spare places count too). A statement '..UptoSaid' is the law's where the arguments, and the package variables that the reading takes, are together of bulk at most 1048576: NARROWER than '..Said'. Prove '..Said' where nothing that the law and all that it calls make is longer than what came in: it says more and counts as full. Else prove '..UptoSaid'. A law counts once. -/
mutual
def uptoBulk {H : Type} : DataW H → Nat
  | .lit (.string bytes) => bytes.length + 1
  | .lit _ => 1
  | .nil => 1
  | .ptr d => uptoBulk d + 1
  | .slice elems spare => uptoBulkAll elems + uptoBulkAll spare + 1
  | .agg parts => uptoBulkAll parts + 1
  | .iface _ d => uptoBulk d + 1
  | .map entries => uptoBulkEntries entries + 1
  | .held _ => 1
def uptoBulkAll {H : Type} : List (DataW H) → Nat
  | [] => 0
  | d :: r => uptoBulk d + uptoBulkAll r
def uptoBulkEntries {H : Type} : List (Lit × DataW H) → Nat
  | [] => 0
  | x :: r => uptoBulkEntry x + uptoBulkEntries r
def uptoBulkEntry {H : Type} : Lit × DataW H → Nat
  | (.string bytes, d) => bytes.length + uptoBulk d + 1
  | (_, d) => uptoBulk d + 1
 end
def uptoSmall : (H : Type) → List (DataW H) → Bool := fun _ ds => decide (uptoBulkAll ds ≤ 1048576)
def OpenSpec.upto (s : _root_.Go.ChangeSpec) : _root_.Go.OpenSpec := { _root_.Go.OpenSpec.ofChange s with cond := some uptoSmall }

/-- 'munimentlaw04.CodecBases', WHERE WHAT IT READS IS OF BULK AT MOST 1048576: true; the input reads as it did. -/
def codecBasesUptoRow : OpenClaim := { program := "ytapijncpploihaadoor", sum := "6ad58cc08a8334828cfede2390dc1e1af14bf28cb3413303ad933e9d1afc0ad6", func := "muniment/munimentlaw04.CodecBases", spec := "codecBases", named := ["unicode/utf8.first", "unicode/utf8.acceptRanges"], apart := false, laid := [("unicode/utf8.acceptRanges", laid_unicode_utf8_acceptRanges), ("unicode/utf8.first", laid_unicode_utf8_first)], narrowed := true }
def CodecBasesUptoSaid : Prop := codecBasesUptoRow.holds Tryd.pinned (OpenSpec.upto codecBasesSpec)

/-- 'munimentlaw04.CodecSigns', WHERE WHAT IT READS IS OF BULK AT MOST 1048576: true; the input reads as it did. -/
def codecSignsUptoRow : OpenClaim := { program := "ytapijncpploihaadoor", sum := "6ad58cc08a8334828cfede2390dc1e1af14bf28cb3413303ad933e9d1afc0ad6", func := "muniment/munimentlaw04.CodecSigns", spec := "codecSigns", named := ["unicode/utf8.first", "unicode/utf8.acceptRanges"], apart := false, laid := [("unicode/utf8.acceptRanges", laid_unicode_utf8_acceptRanges), ("unicode/utf8.first", laid_unicode_utf8_first)], narrowed := true }
def CodecSignsUptoSaid : Prop := codecSignsUptoRow.holds Tryd.pinned (OpenSpec.upto codecSignsSpec)

/-- 'munimentlaw04.CodecStands', WHERE WHAT IT READS IS OF BULK AT MOST 1048576: true; the input reads as it did. -/
def codecStandsUptoRow : OpenClaim := { program := "ytapijncpploihaadoor", sum := "6ad58cc08a8334828cfede2390dc1e1af14bf28cb3413303ad933e9d1afc0ad6", func := "muniment/munimentlaw04.CodecStands", spec := "codecStands", named := ["unicode/utf8.first", "unicode/utf8.acceptRanges"], apart := false, laid := [("unicode/utf8.acceptRanges", laid_unicode_utf8_acceptRanges), ("unicode/utf8.first", laid_unicode_utf8_first)], narrowed := true }
def CodecStandsUptoSaid : Prop := codecStandsUptoRow.holds Tryd.pinned (OpenSpec.upto codecStandsSpec)

/-- 'munimentlaw04.CodecEncodes', WHERE WHAT IT READS IS OF BULK AT MOST 1048576: true; the input reads as it did. -/
def codecEncodesUptoRow : OpenClaim := { program := "ytapijncpploihaadoor", sum := "6ad58cc08a8334828cfede2390dc1e1af14bf28cb3413303ad933e9d1afc0ad6", func := "muniment/munimentlaw04.CodecEncodes", spec := "codecEncodes", unfollowed := true, recurses := true, named := ["unicode/utf8.first", "unicode/utf8.acceptRanges"], apart := false, laid := [("unicode/utf8.acceptRanges", laid_unicode_utf8_acceptRanges), ("unicode/utf8.first", laid_unicode_utf8_first)], narrowed := true }
def CodecEncodesUptoSaid : Prop := codecEncodesUptoRow.holds Tryd.pinned (OpenSpec.upto codecEncodesSpec)

/-- 'munimentlaw04.CodecDecodes', WHERE WHAT IT READS IS OF BULK AT MOST 1048576: true; the input reads as it did. -/
def codecDecodesUptoRow : OpenClaim := { program := "ytapijncpploihaadoor", sum := "6ad58cc08a8334828cfede2390dc1e1af14bf28cb3413303ad933e9d1afc0ad6", func := "muniment/munimentlaw04.CodecDecodes", spec := "codecDecodes", unfollowed := true, recurses := true, named := ["unicode/utf8.first", "unicode/utf8.acceptRanges"], apart := false, laid := [("unicode/utf8.acceptRanges", laid_unicode_utf8_acceptRanges), ("unicode/utf8.first", laid_unicode_utf8_first)], narrowed := true }
def CodecDecodesUptoSaid : Prop := codecDecodesUptoRow.holds Tryd.pinned (OpenSpec.upto codecDecodesSpec)

/-- 'munimentlaw04.CodecCuts', WHERE WHAT IT READS IS OF BULK AT MOST 1048576: true; the input reads as it did. -/
def codecCutsUptoRow : OpenClaim := { program := "ytapijncpploihaadoor", sum := "6ad58cc08a8334828cfede2390dc1e1af14bf28cb3413303ad933e9d1afc0ad6", func := "muniment/munimentlaw04.CodecCuts", spec := "codecCuts", unfollowed := true, recurses := true, named := ["unicode/utf8.first", "unicode/utf8.acceptRanges"], apart := false, laid := [("unicode/utf8.acceptRanges", laid_unicode_utf8_acceptRanges), ("unicode/utf8.first", laid_unicode_utf8_first)], narrowed := true }
def CodecCutsUptoSaid : Prop := codecCutsUptoRow.holds Tryd.pinned (OpenSpec.upto codecCutsSpec)

/-- 'munimentlaw04.CodecKeys', WHERE WHAT IT READS IS OF BULK AT MOST 1048576: true; the input reads as it did. -/
def codecKeysUptoRow : OpenClaim := { program := "ytapijncpploihaadoor", sum := "6ad58cc08a8334828cfede2390dc1e1af14bf28cb3413303ad933e9d1afc0ad6", func := "muniment/munimentlaw04.CodecKeys", spec := "codecKeys", named := ["unicode/utf8.first", "unicode/utf8.acceptRanges"], apart := false, laid := [("unicode/utf8.acceptRanges", laid_unicode_utf8_acceptRanges), ("unicode/utf8.first", laid_unicode_utf8_first)], narrowed := true }
def CodecKeysUptoSaid : Prop := codecKeysUptoRow.holds Tryd.pinned (OpenSpec.upto codecKeysSpec)

/-- 'munimentlaw04.CodecRuns', WHERE WHAT IT READS IS OF BULK AT MOST 1048576: true; the input reads as it did. -/
def codecRunsUptoRow : OpenClaim := { program := "ytapijncpploihaadoor", sum := "6ad58cc08a8334828cfede2390dc1e1af14bf28cb3413303ad933e9d1afc0ad6", func := "muniment/munimentlaw04.CodecRuns", spec := "codecRuns", named := ["unicode/utf8.first", "unicode/utf8.acceptRanges"], apart := false, laid := [("unicode/utf8.acceptRanges", laid_unicode_utf8_acceptRanges), ("unicode/utf8.first", laid_unicode_utf8_first)], narrowed := true }
def CodecRunsUptoSaid : Prop := codecRunsUptoRow.holds Tryd.pinned (OpenSpec.upto codecRunsSpec)

end Rows
end Go.Proofs.YtapijncpploihaaDoor
