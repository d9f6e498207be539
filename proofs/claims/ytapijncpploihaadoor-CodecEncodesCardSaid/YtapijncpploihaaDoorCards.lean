/-
  DERIVED. GIVEN WITH THE SEED: THE CARDS: each row of YtapijncpploihaaDoorRows.lean that lists a variable, with what it lists TIED to the program's text (the seventh form; the later family's looks); each row that meets fmt, with fmt's text TOLD by the authors' own Lean function (tested against real Go, not proved from fmt's source: count such statements apart). THE CARD IS WHAT COUNTS. Prove the row's statement (the work); the ties are given (YtapijncpploihaaDoorTie.lean); close each card by the builder's one call (the guide's Derived/Test/ToyasCard.lean, 'card_holds'). Laid BY PROGRAM, IN A SANDBOX (cutbox-door.mjs). By AI agents, Wed Nov 11 2026. No macro, syntax, notation, axiom, sorry.
-/
import Derived.Test.YtapijncpploihaaDoorRows
import GoSem.ClaimSeven
namespace Go.Proofs.YtapijncpploihaaDoor
namespace Rows

/-- THE TIED CARD OF 'munimentlaw04.CodecBases'. -/
def codecBasesCard : Claim7 := { stood := { row := codecBasesRow, standIns := [], harness := (true, "ef1c41ebccc627c0a1d285a711513498c24b3d338154d65a5e4848c7d4fb2346"), looks := true }, kinds := [], alts := [], laidByText := true, laidKinds := [.data, .pinned], laidTests := true, laidLooks := .later }
def CodecBasesCardSaid : Prop := Claim7.holds Tryd.pinned (.plain (OpenSpec.ofChange codecBasesSpec)) codecBasesCard

/-- THE TIED CARD OF 'munimentlaw04.CodecSigns'. -/
def codecSignsCard : Claim7 := { stood := { row := codecSignsRow, standIns := [], harness := (true, "ef1c41ebccc627c0a1d285a711513498c24b3d338154d65a5e4848c7d4fb2346"), looks := true }, kinds := [], alts := [], laidByText := true, laidKinds := [.data, .pinned], laidTests := true, laidLooks := .later }
def CodecSignsCardSaid : Prop := Claim7.holds Tryd.pinned (.plain (OpenSpec.ofChange codecSignsSpec)) codecSignsCard

/-- THE TIED CARD OF 'munimentlaw04.CodecStands'. -/
def codecStandsCard : Claim7 := { stood := { row := codecStandsRow, standIns := [], harness := (true, "ef1c41ebccc627c0a1d285a711513498c24b3d338154d65a5e4848c7d4fb2346"), looks := true }, kinds := [], alts := [], laidByText := true, laidKinds := [.data, .pinned], laidTests := true, laidLooks := .later }
def CodecStandsCardSaid : Prop := Claim7.holds Tryd.pinned (.plain (OpenSpec.ofChange codecStandsSpec)) codecStandsCard

/-- THE TIED CARD OF 'munimentlaw04.CodecEncodes'. -/
def codecEncodesCard : Claim7 := { stood := { row := codecEncodesRow, standIns := [], harness := (true, "ef1c41ebccc627c0a1d285a711513498c24b3d338154d65a5e4848c7d4fb2346"), looks := true }, kinds := [], alts := [], laidByText := true, laidKinds := [.data, .pinned], laidTests := true, laidLooks := .later }
def CodecEncodesCardSaid : Prop := Claim7.holds Tryd.pinned (.plain (OpenSpec.ofChange codecEncodesSpec)) codecEncodesCard

/-- THE TIED CARD OF 'munimentlaw04.CodecDecodes'. -/
def codecDecodesCard : Claim7 := { stood := { row := codecDecodesRow, standIns := [], harness := (true, "ef1c41ebccc627c0a1d285a711513498c24b3d338154d65a5e4848c7d4fb2346"), looks := true }, kinds := [], alts := [], laidByText := true, laidKinds := [.data, .pinned], laidTests := true, laidLooks := .later }
def CodecDecodesCardSaid : Prop := Claim7.holds Tryd.pinned (.plain (OpenSpec.ofChange codecDecodesSpec)) codecDecodesCard

/-- THE TIED CARD OF 'munimentlaw04.CodecCuts'. -/
def codecCutsCard : Claim7 := { stood := { row := codecCutsRow, standIns := [], harness := (true, "ef1c41ebccc627c0a1d285a711513498c24b3d338154d65a5e4848c7d4fb2346"), looks := true }, kinds := [], alts := [], laidByText := true, laidKinds := [.data, .pinned], laidTests := true, laidLooks := .later }
def CodecCutsCardSaid : Prop := Claim7.holds Tryd.pinned (.plain (OpenSpec.ofChange codecCutsSpec)) codecCutsCard

/-- THE TIED CARD OF 'munimentlaw04.CodecKeys'. -/
def codecKeysCard : Claim7 := { stood := { row := codecKeysRow, standIns := [], harness := (true, "ef1c41ebccc627c0a1d285a711513498c24b3d338154d65a5e4848c7d4fb2346"), looks := true }, kinds := [], alts := [], laidByText := true, laidKinds := [.data, .pinned], laidTests := true, laidLooks := .later }
def CodecKeysCardSaid : Prop := Claim7.holds Tryd.pinned (.plain (OpenSpec.ofChange codecKeysSpec)) codecKeysCard

/-- THE TIED CARD OF 'munimentlaw04.CodecRuns'. -/
def codecRunsCard : Claim7 := { stood := { row := codecRunsRow, standIns := [], harness := (true, "ef1c41ebccc627c0a1d285a711513498c24b3d338154d65a5e4848c7d4fb2346"), looks := true }, kinds := [], alts := [], laidByText := true, laidKinds := [.data, .pinned], laidTests := true, laidLooks := .later }
def CodecRunsCardSaid : Prop := Claim7.holds Tryd.pinned (.plain (OpenSpec.ofChange codecRunsSpec)) codecRunsCard

/-- THE SECOND FORM's CARD OF 'munimentlaw04.CodecBases'. -/
def codecBasesUptoCard : Claim7 := { stood := { row := codecBasesUptoRow, standIns := [], harness := (true, "ef1c41ebccc627c0a1d285a711513498c24b3d338154d65a5e4848c7d4fb2346"), looks := true }, kinds := [], alts := [], laidByText := true, laidKinds := [.data, .pinned], laidTests := true, laidLooks := .later }
def CodecBasesUptoCardSaid : Prop := Claim7.holds Tryd.pinned (.plain (OpenSpec.upto codecBasesSpec)) codecBasesUptoCard

/-- THE SECOND FORM's CARD OF 'munimentlaw04.CodecSigns'. -/
def codecSignsUptoCard : Claim7 := { stood := { row := codecSignsUptoRow, standIns := [], harness := (true, "ef1c41ebccc627c0a1d285a711513498c24b3d338154d65a5e4848c7d4fb2346"), looks := true }, kinds := [], alts := [], laidByText := true, laidKinds := [.data, .pinned], laidTests := true, laidLooks := .later }
def CodecSignsUptoCardSaid : Prop := Claim7.holds Tryd.pinned (.plain (OpenSpec.upto codecSignsSpec)) codecSignsUptoCard

/-- THE SECOND FORM's CARD OF 'munimentlaw04.CodecStands'. -/
def codecStandsUptoCard : Claim7 := { stood := { row := codecStandsUptoRow, standIns := [], harness := (true, "ef1c41ebccc627c0a1d285a711513498c24b3d338154d65a5e4848c7d4fb2346"), looks := true }, kinds := [], alts := [], laidByText := true, laidKinds := [.data, .pinned], laidTests := true, laidLooks := .later }
def CodecStandsUptoCardSaid : Prop := Claim7.holds Tryd.pinned (.plain (OpenSpec.upto codecStandsSpec)) codecStandsUptoCard

/-- THE SECOND FORM's CARD OF 'munimentlaw04.CodecEncodes'. -/
def codecEncodesUptoCard : Claim7 := { stood := { row := codecEncodesUptoRow, standIns := [], harness := (true, "ef1c41ebccc627c0a1d285a711513498c24b3d338154d65a5e4848c7d4fb2346"), looks := true }, kinds := [], alts := [], laidByText := true, laidKinds := [.data, .pinned], laidTests := true, laidLooks := .later }
def CodecEncodesUptoCardSaid : Prop := Claim7.holds Tryd.pinned (.plain (OpenSpec.upto codecEncodesSpec)) codecEncodesUptoCard

/-- THE SECOND FORM's CARD OF 'munimentlaw04.CodecDecodes'. -/
def codecDecodesUptoCard : Claim7 := { stood := { row := codecDecodesUptoRow, standIns := [], harness := (true, "ef1c41ebccc627c0a1d285a711513498c24b3d338154d65a5e4848c7d4fb2346"), looks := true }, kinds := [], alts := [], laidByText := true, laidKinds := [.data, .pinned], laidTests := true, laidLooks := .later }
def CodecDecodesUptoCardSaid : Prop := Claim7.holds Tryd.pinned (.plain (OpenSpec.upto codecDecodesSpec)) codecDecodesUptoCard

/-- THE SECOND FORM's CARD OF 'munimentlaw04.CodecCuts'. -/
def codecCutsUptoCard : Claim7 := { stood := { row := codecCutsUptoRow, standIns := [], harness := (true, "ef1c41ebccc627c0a1d285a711513498c24b3d338154d65a5e4848c7d4fb2346"), looks := true }, kinds := [], alts := [], laidByText := true, laidKinds := [.data, .pinned], laidTests := true, laidLooks := .later }
def CodecCutsUptoCardSaid : Prop := Claim7.holds Tryd.pinned (.plain (OpenSpec.upto codecCutsSpec)) codecCutsUptoCard

/-- THE SECOND FORM's CARD OF 'munimentlaw04.CodecKeys'. -/
def codecKeysUptoCard : Claim7 := { stood := { row := codecKeysUptoRow, standIns := [], harness := (true, "ef1c41ebccc627c0a1d285a711513498c24b3d338154d65a5e4848c7d4fb2346"), looks := true }, kinds := [], alts := [], laidByText := true, laidKinds := [.data, .pinned], laidTests := true, laidLooks := .later }
def CodecKeysUptoCardSaid : Prop := Claim7.holds Tryd.pinned (.plain (OpenSpec.upto codecKeysSpec)) codecKeysUptoCard

/-- THE SECOND FORM's CARD OF 'munimentlaw04.CodecRuns'. -/
def codecRunsUptoCard : Claim7 := { stood := { row := codecRunsUptoRow, standIns := [], harness := (true, "ef1c41ebccc627c0a1d285a711513498c24b3d338154d65a5e4848c7d4fb2346"), looks := true }, kinds := [], alts := [], laidByText := true, laidKinds := [.data, .pinned], laidTests := true, laidLooks := .later }
def CodecRunsUptoCardSaid : Prop := Claim7.holds Tryd.pinned (.plain (OpenSpec.upto codecRunsSpec)) codecRunsUptoCard
end Rows
end Go.Proofs.YtapijncpploihaaDoor
