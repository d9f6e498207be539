/-
  DERIVED. GIVEN WITH THE SEED: THE CARDS: each row of YtpmnipaimoaagaaDoorRows.lean that lists a variable, with what it lists TIED to the program's text (the seventh form; the later family's looks); each row that meets fmt, with fmt's text TOLD by the authors' own Lean function (tested against real Go, not proved from fmt's source: count such statements apart). THE CARD IS WHAT COUNTS. Prove the row's statement (the work); the ties are given (YtpmnipaimoaagaaDoorTie.lean); close each card by the builder's one call (the guide's Derived/Test/ToyasCard.lean, 'card_holds'). Laid BY PROGRAM, IN A SANDBOX (cutbox-door.mjs). By AI agents, Wed Nov 11 2026. No macro, syntax, notation, axiom, sorry.
-/
import Derived.Test.YtpmnipaimoaagaaDoorRows
import GoSem.ClaimSeven
namespace Go.Proofs.YtpmnipaimoaagaaDoor
namespace Rows

/-- THE TIED CARD OF 'munimentlaw05.LineBack'. -/
def lineBackCard : Claim7 := { stood := { row := lineBackRow, standIns := [], harness := (true, "349249f10caeda3208f55bce6d0ccefa6d6de5810b2796891170e4b0f91f7fd4"), looks := false }, kinds := [], alts := [], laidByText := true, laidKinds := [.data, .data, .pinned], laidTests := true, laidLooks := .later }
def LineBackCardSaid : Prop := Claim7.holds Tryd.pinned (.plain (OpenSpec.ofChange lineBackSpec)) lineBackCard

/-- THE TIED CARD OF 'munimentlaw05.LineVerbs'. -/
def lineVerbsCard : Claim7 := { stood := { row := lineVerbsRow, standIns := [], harness := (true, "349249f10caeda3208f55bce6d0ccefa6d6de5810b2796891170e4b0f91f7fd4"), looks := false }, kinds := [], alts := [], laidByText := true, laidKinds := [.data, .data, .pinned], laidTests := true, laidLooks := .later }
def LineVerbsCardSaid : Prop := Claim7.holds Tryd.pinned (.plain (OpenSpec.ofChange lineVerbsSpec)) lineVerbsCard

/-- THE TIED CARD OF 'munimentlaw05.LineWords'. -/
def lineWordsCard : Claim7 := { stood := { row := lineWordsRow, standIns := [], harness := (true, "349249f10caeda3208f55bce6d0ccefa6d6de5810b2796891170e4b0f91f7fd4"), looks := false }, kinds := [], alts := [], laidByText := true, laidKinds := [.data, .pinned], laidTests := true, laidLooks := .later }
def LineWordsCardSaid : Prop := Claim7.holds Tryd.pinned (.plain (OpenSpec.ofChange lineWordsSpec)) lineWordsCard

/-- THE TIED CARD OF 'munimentlaw05.LineJoins'. -/
def lineJoinsCard : Claim7 := { stood := { row := lineJoinsRow, standIns := [], harness := (true, "349249f10caeda3208f55bce6d0ccefa6d6de5810b2796891170e4b0f91f7fd4"), looks := false }, kinds := [], alts := [], laidByText := true, laidKinds := [.data, .pinned], laidTests := true, laidLooks := .later }
def LineJoinsCardSaid : Prop := Claim7.holds Tryd.pinned (.plain (OpenSpec.ofChange lineJoinsSpec)) lineJoinsCard

/-- THE TIED CARD OF 'munimentlaw05.LineParses'. -/
def lineParsesCard : Claim7 := { stood := { row := lineParsesRow, standIns := [], harness := (true, "349249f10caeda3208f55bce6d0ccefa6d6de5810b2796891170e4b0f91f7fd4"), looks := false }, kinds := [], alts := [], laidByText := true, laidKinds := [.data, .data, .pinned], laidTests := true, laidLooks := .later }
def LineParsesCardSaid : Prop := Claim7.holds Tryd.pinned (.plain (OpenSpec.ofChange lineParsesSpec)) lineParsesCard

/-- THE TIED CARD OF 'munimentlaw05.LineWrites'. -/
def lineWritesCard : Claim7 := { stood := { row := lineWritesRow, standIns := [], harness := (true, "349249f10caeda3208f55bce6d0ccefa6d6de5810b2796891170e4b0f91f7fd4"), looks := false }, kinds := [], alts := [], laidByText := true, laidKinds := [.data, .data, .pinned], laidTests := true, laidLooks := .later }
def LineWritesCardSaid : Prop := Claim7.holds Tryd.pinned (.plain (OpenSpec.ofChange lineWritesSpec)) lineWritesCard

/-- THE SECOND FORM's CARD OF 'munimentlaw05.LineBack'. -/
def lineBackUptoCard : Claim7 := { stood := { row := lineBackUptoRow, standIns := [], harness := (true, "349249f10caeda3208f55bce6d0ccefa6d6de5810b2796891170e4b0f91f7fd4"), looks := false }, kinds := [], alts := [], laidByText := true, laidKinds := [.data, .data, .pinned], laidTests := true, laidLooks := .later }
def LineBackUptoCardSaid : Prop := Claim7.holds Tryd.pinned (.plain (OpenSpec.upto lineBackSpec)) lineBackUptoCard

/-- THE SECOND FORM's CARD OF 'munimentlaw05.LineVerbs'. -/
def lineVerbsUptoCard : Claim7 := { stood := { row := lineVerbsUptoRow, standIns := [], harness := (true, "349249f10caeda3208f55bce6d0ccefa6d6de5810b2796891170e4b0f91f7fd4"), looks := false }, kinds := [], alts := [], laidByText := true, laidKinds := [.data, .data, .pinned], laidTests := true, laidLooks := .later }
def LineVerbsUptoCardSaid : Prop := Claim7.holds Tryd.pinned (.plain (OpenSpec.upto lineVerbsSpec)) lineVerbsUptoCard

/-- THE SECOND FORM's CARD OF 'munimentlaw05.LineWords'. -/
def lineWordsUptoCard : Claim7 := { stood := { row := lineWordsUptoRow, standIns := [], harness := (true, "349249f10caeda3208f55bce6d0ccefa6d6de5810b2796891170e4b0f91f7fd4"), looks := false }, kinds := [], alts := [], laidByText := true, laidKinds := [.data, .pinned], laidTests := true, laidLooks := .later }
def LineWordsUptoCardSaid : Prop := Claim7.holds Tryd.pinned (.plain (OpenSpec.upto lineWordsSpec)) lineWordsUptoCard

/-- THE SECOND FORM's CARD OF 'munimentlaw05.LineJoins'. -/
def lineJoinsUptoCard : Claim7 := { stood := { row := lineJoinsUptoRow, standIns := [], harness := (true, "349249f10caeda3208f55bce6d0ccefa6d6de5810b2796891170e4b0f91f7fd4"), looks := false }, kinds := [], alts := [], laidByText := true, laidKinds := [.data, .pinned], laidTests := true, laidLooks := .later }
def LineJoinsUptoCardSaid : Prop := Claim7.holds Tryd.pinned (.plain (OpenSpec.upto lineJoinsSpec)) lineJoinsUptoCard

/-- THE SECOND FORM's CARD OF 'munimentlaw05.LineParses'. -/
def lineParsesUptoCard : Claim7 := { stood := { row := lineParsesUptoRow, standIns := [], harness := (true, "349249f10caeda3208f55bce6d0ccefa6d6de5810b2796891170e4b0f91f7fd4"), looks := false }, kinds := [], alts := [], laidByText := true, laidKinds := [.data, .data, .pinned], laidTests := true, laidLooks := .later }
def LineParsesUptoCardSaid : Prop := Claim7.holds Tryd.pinned (.plain (OpenSpec.upto lineParsesSpec)) lineParsesUptoCard

/-- THE SECOND FORM's CARD OF 'munimentlaw05.LineWrites'. -/
def lineWritesUptoCard : Claim7 := { stood := { row := lineWritesUptoRow, standIns := [], harness := (true, "349249f10caeda3208f55bce6d0ccefa6d6de5810b2796891170e4b0f91f7fd4"), looks := false }, kinds := [], alts := [], laidByText := true, laidKinds := [.data, .data, .pinned], laidTests := true, laidLooks := .later }
def LineWritesUptoCardSaid : Prop := Claim7.holds Tryd.pinned (.plain (OpenSpec.upto lineWritesSpec)) lineWritesUptoCard
end Rows
end Go.Proofs.YtpmnipaimoaagaaDoor
