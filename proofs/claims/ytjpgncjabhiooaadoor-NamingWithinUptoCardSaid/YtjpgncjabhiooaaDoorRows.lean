/-
  NARROWER THAN 'FOR EVERY INPUT', by the rows' own cells (each row's printed sentence says how): NamingOnce: laid · NamingClasses: laid · NamingWithin: laid · NamingCounts: laid · NamingPlaces: laid · NamingFolds: laid.
  DERIVED. THE GIVEN ROWS OF THIS SEAT. 6 by the template 'for every input the law returns true; each argument reads behind the call as it read before'; 0 by the template 'total and deterministic' (their statements: YtjpgncjabhiooaaDoorTotals.lean).
  GIVEN WITH THE SEED: the statements are not yours to turn. If you find one false, say at which input.
  Laid BY PROGRAM, IN A SANDBOX (cutbox-rows.mjs): the forced cells as the released guide's own fill.sh prints them over the translation 43877057bbd9f613… (all of the seat's roots in one cut). By AI agents, Wed Nov 11 2026. No macro, syntax, notation, axiom, sorry.
-/
import Derived.Test.YtjpgncjabhiooaaDoorChecked
import GoSem.PinnedTables
import GoSem.Claim
import GoSem.ClaimJoined
import GoSem.ClaimMapViews
import Derived.JoinedTies
import Derived.KernelRfl
namespace Go.Proofs.YtjpgncjabhiooaaDoor
/- THE CELL 'sum', in the pinned program and in every row, IS THE sha256 OF THE DUMP (.gsa) THAT YtjpgncjabhiooaaDoorProg.lean LOADS. Nothing in Lean hashes anything: it is a label: what it is worth is what the hold of that sum in a sandbox is worth. -/
noncomputable def Tryd.pinned : Pinned := { name := "ytjpgncjabhiooaadoor", sum := "43877057bbd9f61388588e9a3ec30601f615c74da240d325dc8137b2f0a7ae07", checked := Tryd.checked }
namespace Rows
def none {H : Type} : Left H := { results := [], args := [] }

/- WHAT THE LISTED PACKAGE-LEVEL VARIABLES READ AS WHEN THE CALL BEGINS. Each datum BY PROGRAM (the guide's laid-datum.mjs) off the statement by which the dump's own 'gosem.cut.vars' lays the variable. In a bare row this is a premise. The card (YtjpgncjabhiooaaDoorCards.lean) ties it to the program's text. -/
def laid_unicode_utf8_acceptRanges {H : Type} : DataW H := .agg [.agg [.lit (.int .u8 128), .lit (.int .u8 191)], .agg [.lit (.int .u8 160), .lit (.int .u8 191)], .agg [.lit (.int .u8 128), .lit (.int .u8 159)], .agg [.lit (.int .u8 144), .lit (.int .u8 191)], .agg [.lit (.int .u8 128), .lit (.int .u8 143)], .agg [.lit (.int .u8 0), .lit (.int .u8 0)], .agg [.lit (.int .u8 0), .lit (.int .u8 0)], .agg [.lit (.int .u8 0), .lit (.int .u8 0)], .agg [.lit (.int .u8 0), .lit (.int .u8 0)], .agg [.lit (.int .u8 0), .lit (.int .u8 0)], .agg [.lit (.int .u8 0), .lit (.int .u8 0)], .agg [.lit (.int .u8 0), .lit (.int .u8 0)], .agg [.lit (.int .u8 0), .lit (.int .u8 0)], .agg [.lit (.int .u8 0), .lit (.int .u8 0)], .agg [.lit (.int .u8 0), .lit (.int .u8 0)], .agg [.lit (.int .u8 0), .lit (.int .u8 0)]]
/-- One of Go's own tables, pinned by name: the form's constant. -/
def laid_unicode_utf8_first : DataW Unit := Go.Pinned.utf8First

/-- 'munimentlaw03.NamingOnce': WHATEVER THE INPUT: true; the input reads as it did. -/
def namingOnceSpec : ChangeSpec := { name := "namingOnce", fn := fun _ => fun
  | [d] => { results := [.lit (.bool true)], args := [d] }
  | _ => none }
def namingOnceRow : OpenClaim := { program := "ytjpgncjabhiooaadoor", sum := "43877057bbd9f61388588e9a3ec30601f615c74da240d325dc8137b2f0a7ae07", func := "muniment/munimentlaw03.NamingOnce", spec := "namingOnce", named := ["unicode/utf8.first", "unicode/utf8.acceptRanges"], apart := false, laid := [("unicode/utf8.acceptRanges", laid_unicode_utf8_acceptRanges), ("unicode/utf8.first", laid_unicode_utf8_first)] }
def NamingOnceSaid : Prop := namingOnceRow.holds Tryd.pinned (OpenSpec.ofChange namingOnceSpec)

/-- ITS FALSE NEIGHBOUR: 'it returns false'. Refute it at one input. -/
def namingOnceWrong : ChangeSpec := { name := "namingOnce", fn := fun _ => fun
  | [d] => { results := [.lit (.bool false)], args := [d] }
  | _ => none }
def NamingOnceWrongFalsely : Prop := namingOnceRow.holds Tryd.pinned (OpenSpec.ofChange namingOnceWrong)

/-- 'munimentlaw03.NamingClasses': WHATEVER THE INPUT: true; the input reads as it did. -/
def namingClassesSpec : ChangeSpec := { name := "namingClasses", fn := fun _ => fun
  | [d] => { results := [.lit (.bool true)], args := [d] }
  | _ => none }
def namingClassesRow : OpenClaim := { program := "ytjpgncjabhiooaadoor", sum := "43877057bbd9f61388588e9a3ec30601f615c74da240d325dc8137b2f0a7ae07", func := "muniment/munimentlaw03.NamingClasses", spec := "namingClasses", named := ["unicode/utf8.first", "unicode/utf8.acceptRanges"], apart := false, laid := [("unicode/utf8.acceptRanges", laid_unicode_utf8_acceptRanges), ("unicode/utf8.first", laid_unicode_utf8_first)] }
def NamingClassesSaid : Prop := namingClassesRow.holds Tryd.pinned (OpenSpec.ofChange namingClassesSpec)

/-- ITS FALSE NEIGHBOUR: 'it returns false'. Refute it at one input. -/
def namingClassesWrong : ChangeSpec := { name := "namingClasses", fn := fun _ => fun
  | [d] => { results := [.lit (.bool false)], args := [d] }
  | _ => none }
def NamingClassesWrongFalsely : Prop := namingClassesRow.holds Tryd.pinned (OpenSpec.ofChange namingClassesWrong)

/-- 'munimentlaw03.NamingWithin': WHATEVER THE INPUT: true; the input reads as it did. -/
def namingWithinSpec : ChangeSpec := { name := "namingWithin", fn := fun _ => fun
  | [d1, d2, d3] => { results := [.lit (.bool true)], args := [d1, d2, d3] }
  | _ => none }
def namingWithinRow : OpenClaim := { program := "ytjpgncjabhiooaadoor", sum := "43877057bbd9f61388588e9a3ec30601f615c74da240d325dc8137b2f0a7ae07", func := "muniment/munimentlaw03.NamingWithin", spec := "namingWithin", named := ["unicode/utf8.first", "unicode/utf8.acceptRanges"], apart := false, laid := [("unicode/utf8.acceptRanges", laid_unicode_utf8_acceptRanges), ("unicode/utf8.first", laid_unicode_utf8_first)] }
def NamingWithinSaid : Prop := namingWithinRow.holds Tryd.pinned (OpenSpec.ofChange namingWithinSpec)

/-- ITS FALSE NEIGHBOUR: 'it returns false'. Refute it at one input. -/
def namingWithinWrong : ChangeSpec := { name := "namingWithin", fn := fun _ => fun
  | [d1, d2, d3] => { results := [.lit (.bool false)], args := [d1, d2, d3] }
  | _ => none }
def NamingWithinWrongFalsely : Prop := namingWithinRow.holds Tryd.pinned (OpenSpec.ofChange namingWithinWrong)

/-- 'munimentlaw03.NamingCounts': WHATEVER THE INPUT: true; the input reads as it did. -/
def namingCountsSpec : ChangeSpec := { name := "namingCounts", fn := fun _ => fun
  | [d1, d2] => { results := [.lit (.bool true)], args := [d1, d2] }
  | _ => none }
def namingCountsRow : OpenClaim := { program := "ytjpgncjabhiooaadoor", sum := "43877057bbd9f61388588e9a3ec30601f615c74da240d325dc8137b2f0a7ae07", func := "muniment/munimentlaw03.NamingCounts", spec := "namingCounts", named := ["unicode/utf8.first", "unicode/utf8.acceptRanges"], apart := false, laid := [("unicode/utf8.acceptRanges", laid_unicode_utf8_acceptRanges), ("unicode/utf8.first", laid_unicode_utf8_first)] }
def NamingCountsSaid : Prop := namingCountsRow.holds Tryd.pinned (OpenSpec.ofChange namingCountsSpec)

/-- ITS FALSE NEIGHBOUR: 'it returns false'. Refute it at one input. -/
def namingCountsWrong : ChangeSpec := { name := "namingCounts", fn := fun _ => fun
  | [d1, d2] => { results := [.lit (.bool false)], args := [d1, d2] }
  | _ => none }
def NamingCountsWrongFalsely : Prop := namingCountsRow.holds Tryd.pinned (OpenSpec.ofChange namingCountsWrong)

/-- 'munimentlaw03.NamingPlaces': WHATEVER THE INPUT: true; the input reads as it did. -/
def namingPlacesSpec : ChangeSpec := { name := "namingPlaces", fn := fun _ => fun
  | [d] => { results := [.lit (.bool true)], args := [d] }
  | _ => none }
def namingPlacesRow : OpenClaim := { program := "ytjpgncjabhiooaadoor", sum := "43877057bbd9f61388588e9a3ec30601f615c74da240d325dc8137b2f0a7ae07", func := "muniment/munimentlaw03.NamingPlaces", spec := "namingPlaces", named := ["unicode/utf8.first", "unicode/utf8.acceptRanges"], apart := false, laid := [("unicode/utf8.acceptRanges", laid_unicode_utf8_acceptRanges), ("unicode/utf8.first", laid_unicode_utf8_first)] }
def NamingPlacesSaid : Prop := namingPlacesRow.holds Tryd.pinned (OpenSpec.ofChange namingPlacesSpec)

/-- ITS FALSE NEIGHBOUR: 'it returns false'. Refute it at one input. -/
def namingPlacesWrong : ChangeSpec := { name := "namingPlaces", fn := fun _ => fun
  | [d] => { results := [.lit (.bool false)], args := [d] }
  | _ => none }
def NamingPlacesWrongFalsely : Prop := namingPlacesRow.holds Tryd.pinned (OpenSpec.ofChange namingPlacesWrong)

/-- 'munimentlaw03.NamingFolds': WHATEVER THE INPUT: true; the input reads as it did. -/
def namingFoldsSpec : ChangeSpec := { name := "namingFolds", fn := fun _ => fun
  | [d] => { results := [.lit (.bool true)], args := [d] }
  | _ => none }
def namingFoldsRow : OpenClaim := { program := "ytjpgncjabhiooaadoor", sum := "43877057bbd9f61388588e9a3ec30601f615c74da240d325dc8137b2f0a7ae07", func := "muniment/munimentlaw03.NamingFolds", spec := "namingFolds", named := ["unicode/utf8.first", "unicode/utf8.acceptRanges"], apart := false, laid := [("unicode/utf8.acceptRanges", laid_unicode_utf8_acceptRanges), ("unicode/utf8.first", laid_unicode_utf8_first)] }
def NamingFoldsSaid : Prop := namingFoldsRow.holds Tryd.pinned (OpenSpec.ofChange namingFoldsSpec)

/-- ITS FALSE NEIGHBOUR: 'it returns false'. Refute it at one input. -/
def namingFoldsWrong : ChangeSpec := { name := "namingFolds", fn := fun _ => fun
  | [d] => { results := [.lit (.bool false)], args := [d] }
  | _ => none }
def NamingFoldsWrongFalsely : Prop := namingFoldsRow.holds Tryd.pinned (OpenSpec.ofChange namingFoldsWrong)

/- THE SECOND FORM. 'bulk': how many values and letters a reading holds, each counted each time it is reached (what is shared counts as often as it is met; a slice's spare places count too). A statement '..UptoSaid' is the law's where the arguments, and the package variables that the reading takes, are together of bulk at most 1048576: NARROWER than '..Said'. Prove '..Said' where nothing that the law and all that it calls make is longer than what came in: it says more and counts as full. Else prove '..UptoSaid'. A law counts once. -/
mutual
def uptoBulk {H : Type} : DataW H → Nat
  | .lit (.string bytes) => bytes.length + 1
  | .lit _ => 1
  | .nil => 1
  | .ptr d => uptoBulk d + 1
  | .slice elems spare => uptoBulkAll elems + uptoBulkAll spare + 1
  | .agg parts => uptoBulkAll parts + 1
  | .iface _ d => uptoBulk d + 1
  | .map entries => uptoBulkEntries entries + 1
  | .held _ => 1
def uptoBulkAll {H : Type} : List (DataW H) → Nat
  | [] => 0
  | d :: r => uptoBulk d + uptoBulkAll r
def uptoBulkEntries {H : Type} : List (Lit × DataW H) → Nat
  | [] => 0
  | x :: r => uptoBulkEntry x + uptoBulkEntries r
def uptoBulkEntry {H : Type} : Lit × DataW H → Nat
  | (.string bytes, d) => bytes.length + uptoBulk d + 1
  | (_, d) => uptoBulk d + 1
 end
def uptoSmall : (H : Type) → List (DataW H) → Bool := fun _ ds => decide (uptoBulkAll ds ≤ 1048576)
def OpenSpec.upto (s : _root_.Go.ChangeSpec) : _root_.Go.OpenSpec := { _root_.Go.OpenSpec.ofChange s with cond := some uptoSmall }

/-- 'munimentlaw03.NamingOnce', WHERE WHAT IT READS IS OF BULK AT MOST 1048576: true; the input reads as it did. -/
def namingOnceUptoRow : OpenClaim := { program := "ytjpgncjabhiooaadoor", sum := "43877057bbd9f61388588e9a3ec30601f615c74da240d325dc8137b2f0a7ae07", func := "muniment/munimentlaw03.NamingOnce", spec := "namingOnce", named := ["unicode/utf8.first", "unicode/utf8.acceptRanges"], apart := false, laid := [("unicode/utf8.acceptRanges", laid_unicode_utf8_acceptRanges), ("unicode/utf8.first", laid_unicode_utf8_first)], narrowed := true }
def NamingOnceUptoSaid : Prop := namingOnceUptoRow.holds Tryd.pinned (OpenSpec.upto namingOnceSpec)

/-- 'munimentlaw03.NamingClasses', WHERE WHAT IT READS IS OF BULK AT MOST 1048576: true; the input reads as it did. -/
def namingClassesUptoRow : OpenClaim := { program := "ytjpgncjabhiooaadoor", sum := "43877057bbd9f61388588e9a3ec30601f615c74da240d325dc8137b2f0a7ae07", func := "muniment/munimentlaw03.NamingClasses", spec := "namingClasses", named := ["unicode/utf8.first", "unicode/utf8.acceptRanges"], apart := false, laid := [("unicode/utf8.acceptRanges", laid_unicode_utf8_acceptRanges), ("unicode/utf8.first", laid_unicode_utf8_first)], narrowed := true }
def NamingClassesUptoSaid : Prop := namingClassesUptoRow.holds Tryd.pinned (OpenSpec.upto namingClassesSpec)

/-- 'munimentlaw03.NamingWithin', WHERE WHAT IT READS IS OF BULK AT MOST 1048576: true; the input reads as it did. -/
def namingWithinUptoRow : OpenClaim := { program := "ytjpgncjabhiooaadoor", sum := "43877057bbd9f61388588e9a3ec30601f615c74da240d325dc8137b2f0a7ae07", func := "muniment/munimentlaw03.NamingWithin", spec := "namingWithin", named := ["unicode/utf8.first", "unicode/utf8.acceptRanges"], apart := false, laid := [("unicode/utf8.acceptRanges", laid_unicode_utf8_acceptRanges), ("unicode/utf8.first", laid_unicode_utf8_first)], narrowed := true }
def NamingWithinUptoSaid : Prop := namingWithinUptoRow.holds Tryd.pinned (OpenSpec.upto namingWithinSpec)

/-- 'munimentlaw03.NamingCounts', WHERE WHAT IT READS IS OF BULK AT MOST 1048576: true; the input reads as it did. -/
def namingCountsUptoRow : OpenClaim := { program := "ytjpgncjabhiooaadoor", sum := "43877057bbd9f61388588e9a3ec30601f615c74da240d325dc8137b2f0a7ae07", func := "muniment/munimentlaw03.NamingCounts", spec := "namingCounts", named := ["unicode/utf8.first", "unicode/utf8.acceptRanges"], apart := false, laid := [("unicode/utf8.acceptRanges", laid_unicode_utf8_acceptRanges), ("unicode/utf8.first", laid_unicode_utf8_first)], narrowed := true }
def NamingCountsUptoSaid : Prop := namingCountsUptoRow.holds Tryd.pinned (OpenSpec.upto namingCountsSpec)

/-- 'munimentlaw03.NamingPlaces', WHERE WHAT IT READS IS OF BULK AT MOST 1048576: true; the input reads as it did. -/
def namingPlacesUptoRow : OpenClaim := { program := "ytjpgncjabhiooaadoor", sum := "43877057bbd9f61388588e9a3ec30601f615c74da240d325dc8137b2f0a7ae07", func := "muniment/munimentlaw03.NamingPlaces", spec := "namingPlaces", named := ["unicode/utf8.first", "unicode/utf8.acceptRanges"], apart := false, laid := [("unicode/utf8.acceptRanges", laid_unicode_utf8_acceptRanges), ("unicode/utf8.first", laid_unicode_utf8_first)], narrowed := true }
def NamingPlacesUptoSaid : Prop := namingPlacesUptoRow.holds Tryd.pinned (OpenSpec.upto namingPlacesSpec)

/-- 'munimentlaw03.NamingFolds', WHERE WHAT IT READS IS OF BULK AT MOST 1048576: true; the input reads as it did. -/
def namingFoldsUptoRow : OpenClaim := { program := "ytjpgncjabhiooaadoor", sum := "43877057bbd9f61388588e9a3ec30601f615c74da240d325dc8137b2f0a7ae07", func := "muniment/munimentlaw03.NamingFolds", spec := "namingFolds", named := ["unicode/utf8.first", "unicode/utf8.acceptRanges"], apart := false, laid := [("unicode/utf8.acceptRanges", laid_unicode_utf8_acceptRanges), ("unicode/utf8.first", laid_unicode_utf8_first)], narrowed := true }
def NamingFoldsUptoSaid : Prop := namingFoldsUptoRow.holds Tryd.pinned (OpenSpec.upto namingFoldsSpec)

end Rows
end Go.Proofs.YtjpgncjabhiooaaDoor
