/-
  No cell of these rows narrows 'for every input' (looked for: loops, veiled, ifaces, maps, wideKeys, modest, calm, conditions, laid).
  DERIVED. THE GIVEN ROWS OF THIS SEAT. 8 by the template 'for every input the law returns true; each argument reads behind the call as it read before'; 0 by the template 'total and deterministic' (their statements: YtoneacebiaekkaaTotals.lean).
  GIVEN WITH THE SEED: the statements are not yours to turn. If you find one false, say at which input.
  Laid BY PROGRAM, IN A SANDBOX (cutbox-rows.mjs): the forced cells as the released guide's own fill.sh prints them over the translation 867986d965364dff… (all of the seat's roots in one cut). By AI agents, Wed Nov 11 2026. No macro, syntax, notation, axiom, sorry.
-/
import Derived.Test.YtoneacebiaekkaaChecked
import GoSem.Claim
import GoSem.ClaimJoined
import GoSem.ClaimMapViews
import Derived.JoinedTies
import Derived.KernelRfl
namespace Go.Proofs.Ytoneacebiaekkaa
/- THE CELL 'sum', in the pinned program and in every row, IS THE sha256 OF THE DUMP (.gsa) THAT YtoneacebiaekkaaProg.lean LOADS. Nothing in Lean hashes anything: it is a label: what it is worth is what the hold of that sum in a sandbox is worth. -/
noncomputable def Try.pinned : Pinned := { name := "ytoneacebiaekkaa", sum := "867986d965364dff4d2b674ac3f3eb4a177b8a3ce2755f8ff4a19078248dae3a", checked := Try.checked }
namespace Rows
def none {H : Type} : Left H := { results := [], args := [] }

/-- 'munimentlaw02.OctetAbove': WHATEVER THE INPUT: true; the input reads as it did. -/
def octetAboveSpec : ChangeSpec := { name := "octetAbove", fn := fun _ => fun
  | [d1, d2, d3] => { results := [.lit (.bool true)], args := [d1, d2, d3] }
  | _ => none }
def octetAboveRow : OpenClaim := { program := "ytoneacebiaekkaa", sum := "867986d965364dff4d2b674ac3f3eb4a177b8a3ce2755f8ff4a19078248dae3a", func := "muniment/munimentlaw02.OctetAbove", spec := "octetAbove", apart := false }
def OctetAboveSaid : Prop := octetAboveRow.holds Try.pinned (OpenSpec.ofChange octetAboveSpec)

/-- ITS FALSE NEIGHBOUR: 'it returns false'. Refute it at one input. -/
def octetAboveWrong : ChangeSpec := { name := "octetAbove", fn := fun _ => fun
  | [d1, d2, d3] => { results := [.lit (.bool false)], args := [d1, d2, d3] }
  | _ => none }
def OctetAboveWrongFalsely : Prop := octetAboveRow.holds Try.pinned (OpenSpec.ofChange octetAboveWrong)

/-- 'munimentlaw02.OctetSums': WHATEVER THE INPUT: true; the input reads as it did. -/
def octetSumsSpec : ChangeSpec := { name := "octetSums", fn := fun _ => fun
  | [d1, d2, d3] => { results := [.lit (.bool true)], args := [d1, d2, d3] }
  | _ => none }
def octetSumsRow : OpenClaim := { program := "ytoneacebiaekkaa", sum := "867986d965364dff4d2b674ac3f3eb4a177b8a3ce2755f8ff4a19078248dae3a", func := "muniment/munimentlaw02.OctetSums", spec := "octetSums", apart := false }
def OctetSumsSaid : Prop := octetSumsRow.holds Try.pinned (OpenSpec.ofChange octetSumsSpec)

/-- ITS FALSE NEIGHBOUR: 'it returns false'. Refute it at one input. -/
def octetSumsWrong : ChangeSpec := { name := "octetSums", fn := fun _ => fun
  | [d1, d2, d3] => { results := [.lit (.bool false)], args := [d1, d2, d3] }
  | _ => none }
def OctetSumsWrongFalsely : Prop := octetSumsRow.holds Try.pinned (OpenSpec.ofChange octetSumsWrong)

/-- 'munimentlaw02.OctetLists': WHATEVER THE INPUT: true; the input reads as it did. -/
def octetListsSpec : ChangeSpec := { name := "octetLists", fn := fun _ => fun
  | [d1, d2] => { results := [.lit (.bool true)], args := [d1, d2] }
  | _ => none }
def octetListsRow : OpenClaim := { program := "ytoneacebiaekkaa", sum := "867986d965364dff4d2b674ac3f3eb4a177b8a3ce2755f8ff4a19078248dae3a", func := "muniment/munimentlaw02.OctetLists", spec := "octetLists", apart := false }
def OctetListsSaid : Prop := octetListsRow.holds Try.pinned (OpenSpec.ofChange octetListsSpec)

/-- ITS FALSE NEIGHBOUR: 'it returns false'. Refute it at one input. -/
def octetListsWrong : ChangeSpec := { name := "octetLists", fn := fun _ => fun
  | [d1, d2] => { results := [.lit (.bool false)], args := [d1, d2] }
  | _ => none }
def OctetListsWrongFalsely : Prop := octetListsRow.holds Try.pinned (OpenSpec.ofChange octetListsWrong)

/-- 'munimentlaw02.OctetStands': WHATEVER THE INPUT: true; the input reads as it did. -/
def octetStandsSpec : ChangeSpec := { name := "octetStands", fn := fun _ => fun
  | [d1, d2, d3, d4, d5, d6] => { results := [.lit (.bool true)], args := [d1, d2, d3, d4, d5, d6] }
  | _ => none }
def octetStandsRow : OpenClaim := { program := "ytoneacebiaekkaa", sum := "867986d965364dff4d2b674ac3f3eb4a177b8a3ce2755f8ff4a19078248dae3a", func := "muniment/munimentlaw02.OctetStands", spec := "octetStands", apart := false }
def OctetStandsSaid : Prop := octetStandsRow.holds Try.pinned (OpenSpec.ofChange octetStandsSpec)

/-- ITS FALSE NEIGHBOUR: 'it returns false'. Refute it at one input. -/
def octetStandsWrong : ChangeSpec := { name := "octetStands", fn := fun _ => fun
  | [d1, d2, d3, d4, d5, d6] => { results := [.lit (.bool false)], args := [d1, d2, d3, d4, d5, d6] }
  | _ => none }
def OctetStandsWrongFalsely : Prop := octetStandsRow.holds Try.pinned (OpenSpec.ofChange octetStandsWrong)

/-- 'munimentlaw02.OctetTexts': WHATEVER THE INPUT: true; the input reads as it did. -/
def octetTextsSpec : ChangeSpec := { name := "octetTexts", fn := fun _ => fun
  | [d1, d2, d3] => { results := [.lit (.bool true)], args := [d1, d2, d3] }
  | _ => none }
def octetTextsRow : OpenClaim := { program := "ytoneacebiaekkaa", sum := "867986d965364dff4d2b674ac3f3eb4a177b8a3ce2755f8ff4a19078248dae3a", func := "muniment/munimentlaw02.OctetTexts", spec := "octetTexts", apart := false }
def OctetTextsSaid : Prop := octetTextsRow.holds Try.pinned (OpenSpec.ofChange octetTextsSpec)

/-- ITS FALSE NEIGHBOUR: 'it returns false'. Refute it at one input. -/
def octetTextsWrong : ChangeSpec := { name := "octetTexts", fn := fun _ => fun
  | [d1, d2, d3] => { results := [.lit (.bool false)], args := [d1, d2, d3] }
  | _ => none }
def OctetTextsWrongFalsely : Prop := octetTextsRow.holds Try.pinned (OpenSpec.ofChange octetTextsWrong)

/-- 'munimentlaw02.OctetNumbers': WHATEVER THE INPUT: true; the input reads as it did. -/
def octetNumbersSpec : ChangeSpec := { name := "octetNumbers", fn := fun _ => fun
  | [d1, d2] => { results := [.lit (.bool true)], args := [d1, d2] }
  | _ => none }
def octetNumbersRow : OpenClaim := { program := "ytoneacebiaekkaa", sum := "867986d965364dff4d2b674ac3f3eb4a177b8a3ce2755f8ff4a19078248dae3a", func := "muniment/munimentlaw02.OctetNumbers", spec := "octetNumbers", apart := false }
def OctetNumbersSaid : Prop := octetNumbersRow.holds Try.pinned (OpenSpec.ofChange octetNumbersSpec)

/-- ITS FALSE NEIGHBOUR: 'it returns false'. Refute it at one input. -/
def octetNumbersWrong : ChangeSpec := { name := "octetNumbers", fn := fun _ => fun
  | [d1, d2] => { results := [.lit (.bool false)], args := [d1, d2] }
  | _ => none }
def OctetNumbersWrongFalsely : Prop := octetNumbersRow.holds Try.pinned (OpenSpec.ofChange octetNumbersWrong)

/-- 'munimentlaw02.OctetReads': WHATEVER THE INPUT: true; the input reads as it did. -/
def octetReadsSpec : ChangeSpec := { name := "octetReads", fn := fun _ => fun
  | [d1, d2] => { results := [.lit (.bool true)], args := [d1, d2] }
  | _ => none }
def octetReadsRow : OpenClaim := { program := "ytoneacebiaekkaa", sum := "867986d965364dff4d2b674ac3f3eb4a177b8a3ce2755f8ff4a19078248dae3a", func := "muniment/munimentlaw02.OctetReads", spec := "octetReads", apart := false }
def OctetReadsSaid : Prop := octetReadsRow.holds Try.pinned (OpenSpec.ofChange octetReadsSpec)

/-- ITS FALSE NEIGHBOUR: 'it returns false'. Refute it at one input. -/
def octetReadsWrong : ChangeSpec := { name := "octetReads", fn := fun _ => fun
  | [d1, d2] => { results := [.lit (.bool false)], args := [d1, d2] }
  | _ => none }
def OctetReadsWrongFalsely : Prop := octetReadsRow.holds Try.pinned (OpenSpec.ofChange octetReadsWrong)

/-- 'munimentlaw02.OctetRuns': WHATEVER THE INPUT: true; the input reads as it did. -/
def octetRunsSpec : ChangeSpec := { name := "octetRuns", fn := fun _ => fun
  | [d1, d2] => { results := [.lit (.bool true)], args := [d1, d2] }
  | _ => none }
def octetRunsRow : OpenClaim := { program := "ytoneacebiaekkaa", sum := "867986d965364dff4d2b674ac3f3eb4a177b8a3ce2755f8ff4a19078248dae3a", func := "muniment/munimentlaw02.OctetRuns", spec := "octetRuns", apart := false }
def OctetRunsSaid : Prop := octetRunsRow.holds Try.pinned (OpenSpec.ofChange octetRunsSpec)

/-- ITS FALSE NEIGHBOUR: 'it returns false'. Refute it at one input. -/
def octetRunsWrong : ChangeSpec := { name := "octetRuns", fn := fun _ => fun
  | [d1, d2] => { results := [.lit (.bool false)], args := [d1, d2] }
  | _ => none }
def OctetRunsWrongFalsely : Prop := octetRunsRow.holds Try.pinned (OpenSpec.ofChange octetRunsWrong)

/- THE SECOND FORM. 'bulk': how many values and letters a reading holds, each counted each time it is reached (what is shared counts as often as it is met; a slice's spare places count too). A statement '..UptoSaid' is the law's where the arguments, and the package variables that the reading takes, are together of bulk at most 1048576: NARROWER than '..Said'. Prove '..Said' where nothing that the law and all that it calls make is longer than what came in: it says more and counts as full. Else prove '..UptoSaid'. A law counts once. -/
mutual
def uptoBulk {H : Type} : DataW H → Nat
  | .lit (.string bytes) => bytes.length + 1
  | .lit _ => 1
  | .nil => 1
  | .ptr d => uptoBulk d + 1
  | .slice elems spare => uptoBulkAll elems + uptoBulkAll spare + 1
  | .agg parts => uptoBulkAll parts + 1
  | .iface _ d => uptoBulk d + 1
  | .map entries => uptoBulkEntries entries + 1
  | .held _ => 1
def uptoBulkAll {H : Type} : List (DataW H) → Nat
  | [] => 0
  | d :: r => uptoBulk d + uptoBulkAll r
def uptoBulkEntries {H : Type} : List (Lit × DataW H) → Nat
  | [] => 0
  | x :: r => uptoBulkEntry x + uptoBulkEntries r
def uptoBulkEntry {H : Type} : Lit × DataW H → Nat
  | (.string bytes, d) => bytes.length + uptoBulk d + 1
  | (_, d) => uptoBulk d + 1
 end
def uptoSmall : (H : Type) → List (DataW H) → Bool := fun _ ds => decide (uptoBulkAll ds ≤ 1048576)
def OpenSpec.upto (s : _root_.Go.ChangeSpec) : _root_.Go.OpenSpec := { _root_.Go.OpenSpec.ofChange s with cond := some uptoSmall }

/-- 'munimentlaw02.OctetAbove', WHERE WHAT IT READS IS OF BULK AT MOST 1048576: true; the input reads as it did. -/
def octetAboveUptoRow : OpenClaim := { program := "ytoneacebiaekkaa", sum := "867986d965364dff4d2b674ac3f3eb4a177b8a3ce2755f8ff4a19078248dae3a", func := "muniment/munimentlaw02.OctetAbove", spec := "octetAbove", apart := false, narrowed := true }
def OctetAboveUptoSaid : Prop := octetAboveUptoRow.holds Try.pinned (OpenSpec.upto octetAboveSpec)

/-- 'munimentlaw02.OctetSums', WHERE WHAT IT READS IS OF BULK AT MOST 1048576: true; the input reads as it did. -/
def octetSumsUptoRow : OpenClaim := { program := "ytoneacebiaekkaa", sum := "867986d965364dff4d2b674ac3f3eb4a177b8a3ce2755f8ff4a19078248dae3a", func := "muniment/munimentlaw02.OctetSums", spec := "octetSums", apart := false, narrowed := true }
def OctetSumsUptoSaid : Prop := octetSumsUptoRow.holds Try.pinned (OpenSpec.upto octetSumsSpec)

/-- 'munimentlaw02.OctetLists', WHERE WHAT IT READS IS OF BULK AT MOST 1048576: true; the input reads as it did. -/
def octetListsUptoRow : OpenClaim := { program := "ytoneacebiaekkaa", sum := "867986d965364dff4d2b674ac3f3eb4a177b8a3ce2755f8ff4a19078248dae3a", func := "muniment/munimentlaw02.OctetLists", spec := "octetLists", apart := false, narrowed := true }
def OctetListsUptoSaid : Prop := octetListsUptoRow.holds Try.pinned (OpenSpec.upto octetListsSpec)

/-- 'munimentlaw02.OctetStands', WHERE WHAT IT READS IS OF BULK AT MOST 1048576: true; the input reads as it did. -/
def octetStandsUptoRow : OpenClaim := { program := "ytoneacebiaekkaa", sum := "867986d965364dff4d2b674ac3f3eb4a177b8a3ce2755f8ff4a19078248dae3a", func := "muniment/munimentlaw02.OctetStands", spec := "octetStands", apart := false, narrowed := true }
def OctetStandsUptoSaid : Prop := octetStandsUptoRow.holds Try.pinned (OpenSpec.upto octetStandsSpec)

/-- 'munimentlaw02.OctetTexts', WHERE WHAT IT READS IS OF BULK AT MOST 1048576: true; the input reads as it did. -/
def octetTextsUptoRow : OpenClaim := { program := "ytoneacebiaekkaa", sum := "867986d965364dff4d2b674ac3f3eb4a177b8a3ce2755f8ff4a19078248dae3a", func := "muniment/munimentlaw02.OctetTexts", spec := "octetTexts", apart := false, narrowed := true }
def OctetTextsUptoSaid : Prop := octetTextsUptoRow.holds Try.pinned (OpenSpec.upto octetTextsSpec)

/-- 'munimentlaw02.OctetNumbers', WHERE WHAT IT READS IS OF BULK AT MOST 1048576: true; the input reads as it did. -/
def octetNumbersUptoRow : OpenClaim := { program := "ytoneacebiaekkaa", sum := "867986d965364dff4d2b674ac3f3eb4a177b8a3ce2755f8ff4a19078248dae3a", func := "muniment/munimentlaw02.OctetNumbers", spec := "octetNumbers", apart := false, narrowed := true }
def OctetNumbersUptoSaid : Prop := octetNumbersUptoRow.holds Try.pinned (OpenSpec.upto octetNumbersSpec)

/-- 'munimentlaw02.OctetReads', WHERE WHAT IT READS IS OF BULK AT MOST 1048576: true; the input reads as it did. -/
def octetReadsUptoRow : OpenClaim := { program := "ytoneacebiaekkaa", sum := "867986d965364dff4d2b674ac3f3eb4a177b8a3ce2755f8ff4a19078248dae3a", func := "muniment/munimentlaw02.OctetReads", spec := "octetReads", apart := false, narrowed := true }
def OctetReadsUptoSaid : Prop := octetReadsUptoRow.holds Try.pinned (OpenSpec.upto octetReadsSpec)

/-- 'munimentlaw02.OctetRuns', WHERE WHAT IT READS IS OF BULK AT MOST 1048576: true; the input reads as it did. -/
def octetRunsUptoRow : OpenClaim := { program := "ytoneacebiaekkaa", sum := "867986d965364dff4d2b674ac3f3eb4a177b8a3ce2755f8ff4a19078248dae3a", func := "muniment/munimentlaw02.OctetRuns", spec := "octetRuns", apart := false, narrowed := true }
def OctetRunsUptoSaid : Prop := octetRunsUptoRow.holds Try.pinned (OpenSpec.upto octetRunsSpec)

end Rows
end Go.Proofs.Ytoneacebiaekkaa
