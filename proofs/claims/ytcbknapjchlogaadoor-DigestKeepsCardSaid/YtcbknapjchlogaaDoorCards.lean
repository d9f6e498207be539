/-
  DERIVED. GIVEN WITH THE SEED: THE CARDS: each row of YtcbknapjchlogaaDoorRows.lean that lists a variable, with what it lists TIED to the program's text (the seventh form; the later family's looks); each row that meets fmt, with fmt's text TOLD by the authors' own Lean function (tested against real Go, not proved from fmt's source: count such statements apart). THE CARD IS WHAT COUNTS. Prove the row's statement (the work); the ties are given (YtcbknapjchlogaaDoorTie.lean); close each card by the builder's one call (the guide's Derived/Test/ToyasCard.lean, 'card_holds'). Laid BY PROGRAM, IN A SANDBOX (cutbox-door.mjs). By AI agents, Wed Nov 11 2026. No macro, syntax, notation, axiom, sorry.
-/
import Derived.Test.YtcbknapjchlogaaDoorRows
import GoSem.ClaimSeven
namespace Go.Proofs.YtcbknapjchlogaaDoor
namespace Rows

/-- THE TIED CARD OF 'munimentlaw01.DigestSums'. -/
def digestSumsCard : Claim7 := { stood := { row := digestSumsRow, standIns := [], harness := (true, "0d208d2c3ea859b1d38759a85e8f1ecdc81d5b064934a977fa279f73455e4437"), looks := false }, kinds := [], alts := [], laidByText := true, laidKinds := [.data, .data], laidTests := true, laidLooks := .later }
def DigestSumsCardSaid : Prop := Claim7.holds Tryd.pinned (.plain (OpenSpec.ofChange digestSumsSpec)) digestSumsCard

/-- THE TIED CARD OF 'munimentlaw01.DigestHex'. -/
def digestHexCard : Claim7 := { stood := { row := digestHexRow, standIns := [], harness := (true, "0d208d2c3ea859b1d38759a85e8f1ecdc81d5b064934a977fa279f73455e4437"), looks := false }, kinds := [], alts := [], laidByText := true, laidKinds := [.data, .data], laidTests := true, laidLooks := .later }
def DigestHexCardSaid : Prop := Claim7.holds Tryd.pinned (.plain (OpenSpec.ofChange digestHexSpec)) digestHexCard

/-- THE TIED CARD OF 'munimentlaw01.DigestTags'. -/
def digestTagsCard : Claim7 := { stood := { row := digestTagsRow, standIns := [], harness := (true, "0d208d2c3ea859b1d38759a85e8f1ecdc81d5b064934a977fa279f73455e4437"), looks := false }, kinds := [], alts := [], laidByText := true, laidKinds := [.data, .data], laidTests := true, laidLooks := .later }
def DigestTagsCardSaid : Prop := Claim7.holds Tryd.pinned (.plain (OpenSpec.ofChange digestTagsSpec)) digestTagsCard

/-- THE TIED CARD OF 'munimentlaw01.DigestKeys'. -/
def digestKeysCard : Claim7 := { stood := { row := digestKeysRow, standIns := [], harness := (true, "0d208d2c3ea859b1d38759a85e8f1ecdc81d5b064934a977fa279f73455e4437"), looks := false }, kinds := [], alts := [], laidByText := true, laidKinds := [.data, .data], laidTests := true, laidLooks := .later }
def DigestKeysCardSaid : Prop := Claim7.holds Tryd.pinned (.plain (OpenSpec.ofChange digestKeysSpec)) digestKeysCard

/-- THE TIED CARD OF 'munimentlaw01.DigestStretches'. -/
def digestStretchesCard : Claim7 := { stood := { row := digestStretchesRow, standIns := [], harness := (true, "0d208d2c3ea859b1d38759a85e8f1ecdc81d5b064934a977fa279f73455e4437"), looks := false }, kinds := [], alts := [], laidByText := true, laidKinds := [.data, .data], laidTests := true, laidLooks := .later }
def DigestStretchesCardSaid : Prop := Claim7.holds Tryd.pinned (.plain (OpenSpec.ofChange digestStretchesSpec)) digestStretchesCard

/-- THE TIED CARD OF 'munimentlaw01.DigestFirst'. -/
def digestFirstCard : Claim7 := { stood := { row := digestFirstRow, standIns := [], harness := (true, "0d208d2c3ea859b1d38759a85e8f1ecdc81d5b064934a977fa279f73455e4437"), looks := false }, kinds := [], alts := [], laidByText := true, laidKinds := [.data, .data], laidTests := true, laidLooks := .later }
def DigestFirstCardSaid : Prop := Claim7.holds Tryd.pinned (.plain (OpenSpec.ofChange digestFirstSpec)) digestFirstCard

/-- THE TIED CARD OF 'munimentlaw01.DigestKeeps'. -/
def digestKeepsCard : Claim7 := { stood := { row := digestKeepsRow, standIns := [], harness := (true, "0d208d2c3ea859b1d38759a85e8f1ecdc81d5b064934a977fa279f73455e4437"), looks := false }, kinds := [], alts := [], laidByText := true, laidKinds := [.data, .data], laidTests := true, laidLooks := .later }
def DigestKeepsCardSaid : Prop := Claim7.holds Tryd.pinned (.plain (OpenSpec.ofChange digestKeepsSpec)) digestKeepsCard

/-- THE SECOND FORM's CARD OF 'munimentlaw01.DigestSums'. -/
def digestSumsUptoCard : Claim7 := { stood := { row := digestSumsUptoRow, standIns := [], harness := (true, "0d208d2c3ea859b1d38759a85e8f1ecdc81d5b064934a977fa279f73455e4437"), looks := false }, kinds := [], alts := [], laidByText := true, laidKinds := [.data, .data], laidTests := true, laidLooks := .later }
def DigestSumsUptoCardSaid : Prop := Claim7.holds Tryd.pinned (.plain (OpenSpec.upto digestSumsSpec)) digestSumsUptoCard

/-- THE SECOND FORM's CARD OF 'munimentlaw01.DigestHex'. -/
def digestHexUptoCard : Claim7 := { stood := { row := digestHexUptoRow, standIns := [], harness := (true, "0d208d2c3ea859b1d38759a85e8f1ecdc81d5b064934a977fa279f73455e4437"), looks := false }, kinds := [], alts := [], laidByText := true, laidKinds := [.data, .data], laidTests := true, laidLooks := .later }
def DigestHexUptoCardSaid : Prop := Claim7.holds Tryd.pinned (.plain (OpenSpec.upto digestHexSpec)) digestHexUptoCard

/-- THE SECOND FORM's CARD OF 'munimentlaw01.DigestTags'. -/
def digestTagsUptoCard : Claim7 := { stood := { row := digestTagsUptoRow, standIns := [], harness := (true, "0d208d2c3ea859b1d38759a85e8f1ecdc81d5b064934a977fa279f73455e4437"), looks := false }, kinds := [], alts := [], laidByText := true, laidKinds := [.data, .data], laidTests := true, laidLooks := .later }
def DigestTagsUptoCardSaid : Prop := Claim7.holds Tryd.pinned (.plain (OpenSpec.upto digestTagsSpec)) digestTagsUptoCard

/-- THE SECOND FORM's CARD OF 'munimentlaw01.DigestKeys'. -/
def digestKeysUptoCard : Claim7 := { stood := { row := digestKeysUptoRow, standIns := [], harness := (true, "0d208d2c3ea859b1d38759a85e8f1ecdc81d5b064934a977fa279f73455e4437"), looks := false }, kinds := [], alts := [], laidByText := true, laidKinds := [.data, .data], laidTests := true, laidLooks := .later }
def DigestKeysUptoCardSaid : Prop := Claim7.holds Tryd.pinned (.plain (OpenSpec.upto digestKeysSpec)) digestKeysUptoCard

/-- THE SECOND FORM's CARD OF 'munimentlaw01.DigestStretches'. -/
def digestStretchesUptoCard : Claim7 := { stood := { row := digestStretchesUptoRow, standIns := [], harness := (true, "0d208d2c3ea859b1d38759a85e8f1ecdc81d5b064934a977fa279f73455e4437"), looks := false }, kinds := [], alts := [], laidByText := true, laidKinds := [.data, .data], laidTests := true, laidLooks := .later }
def DigestStretchesUptoCardSaid : Prop := Claim7.holds Tryd.pinned (.plain (OpenSpec.upto digestStretchesSpec)) digestStretchesUptoCard

/-- THE SECOND FORM's CARD OF 'munimentlaw01.DigestFirst'. -/
def digestFirstUptoCard : Claim7 := { stood := { row := digestFirstUptoRow, standIns := [], harness := (true, "0d208d2c3ea859b1d38759a85e8f1ecdc81d5b064934a977fa279f73455e4437"), looks := false }, kinds := [], alts := [], laidByText := true, laidKinds := [.data, .data], laidTests := true, laidLooks := .later }
def DigestFirstUptoCardSaid : Prop := Claim7.holds Tryd.pinned (.plain (OpenSpec.upto digestFirstSpec)) digestFirstUptoCard

/-- THE SECOND FORM's CARD OF 'munimentlaw01.DigestKeeps'. -/
def digestKeepsUptoCard : Claim7 := { stood := { row := digestKeepsUptoRow, standIns := [], harness := (true, "0d208d2c3ea859b1d38759a85e8f1ecdc81d5b064934a977fa279f73455e4437"), looks := false }, kinds := [], alts := [], laidByText := true, laidKinds := [.data, .data], laidTests := true, laidLooks := .later }
def DigestKeepsUptoCardSaid : Prop := Claim7.holds Tryd.pinned (.plain (OpenSpec.upto digestKeepsSpec)) digestKeepsUptoCard
end Rows
end Go.Proofs.YtcbknapjchlogaaDoor
