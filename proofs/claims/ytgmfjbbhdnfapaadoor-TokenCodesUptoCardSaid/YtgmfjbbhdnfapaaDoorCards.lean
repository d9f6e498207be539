/-
  DERIVED. GIVEN WITH THE SEED: THE CARDS: each row of YtgmfjbbhdnfapaaDoorRows.lean that lists a variable, with what it lists TIED to the program's text (the seventh form; the later family's looks); each row that meets fmt, with fmt's text TOLD by the authors' own Lean function (tested against real Go, not proved from fmt's source: count such statements apart). THE CARD IS WHAT COUNTS. Prove the row's statement (the work); the ties are given (YtgmfjbbhdnfapaaDoorTie.lean); close each card by the builder's one call (the guide's Derived/Test/ToyasCard.lean, 'card_holds'). Laid BY PROGRAM, IN A SANDBOX (cutbox-door.mjs). By AI agents, Wed Nov 11 2026. No macro, syntax, notation, axiom, sorry.
-/
import Derived.Test.YtgmfjbbhdnfapaaDoorRows
import GoSem.ClaimSeven
namespace Go.Proofs.YtgmfjbbhdnfapaaDoor
namespace Rows

/-- THE TIED CARD OF 'munimentlaw18.PassMakes'. -/
def passMakesCard : Claim7 := { stood := { row := passMakesRow, standIns := [], harness := (true, "d8ee55046db53ef2ae59b676108c44564bb15742b14e31e62de9b47356801b1a"), looks := false }, kinds := [], alts := [], laidByText := true, laidKinds := [.data, .data], laidTests := true, laidLooks := .later }
def PassMakesCardSaid : Prop := Claim7.holds Tryd.pinned (.plain (OpenSpec.ofChange passMakesSpec)) passMakesCard

/-- THE TIED CARD OF 'munimentlaw18.PassChecks'. -/
def passChecksCard : Claim7 := { stood := { row := passChecksRow, standIns := [], harness := (true, "d8ee55046db53ef2ae59b676108c44564bb15742b14e31e62de9b47356801b1a"), looks := false }, kinds := [], alts := [], laidByText := true, laidKinds := [.data, .data], laidTests := true, laidLooks := .later }
def PassChecksCardSaid : Prop := Claim7.holds Tryd.pinned (.plain (OpenSpec.ofChange passChecksSpec)) passChecksCard

/-- THE TIED CARD OF 'munimentlaw18.PassSalts'. -/
def passSaltsCard : Claim7 := { stood := { row := passSaltsRow, standIns := [], harness := (true, "d8ee55046db53ef2ae59b676108c44564bb15742b14e31e62de9b47356801b1a"), looks := false }, kinds := [], alts := [], laidByText := true, laidKinds := [.data, .data], laidTests := true, laidLooks := .later }
def PassSaltsCardSaid : Prop := Claim7.holds Tryd.pinned (.plain (OpenSpec.ofChange passSaltsSpec)) passSaltsCard

/-- THE TIED CARD OF 'munimentlaw18.PassTexts'. -/
def passTextsCard : Claim7 := { stood := { row := passTextsRow, standIns := [], harness := (true, "d8ee55046db53ef2ae59b676108c44564bb15742b14e31e62de9b47356801b1a"), looks := false }, kinds := [], alts := [], laidByText := true, laidKinds := [.data, .data], laidTests := true, laidLooks := .later }
def PassTextsCardSaid : Prop := Claim7.holds Tryd.pinned (.plain (OpenSpec.ofChange passTextsSpec)) passTextsCard

/-- THE TIED CARD OF 'munimentlaw18.PassRounds'. -/
def passRoundsCard : Claim7 := { stood := { row := passRoundsRow, standIns := [], harness := (true, "d8ee55046db53ef2ae59b676108c44564bb15742b14e31e62de9b47356801b1a"), looks := false }, kinds := [], alts := [], laidByText := true, laidKinds := [.data, .data], laidTests := true, laidLooks := .later }
def PassRoundsCardSaid : Prop := Claim7.holds Tryd.pinned (.plain (OpenSpec.ofChange passRoundsSpec)) passRoundsCard

/-- THE TIED CARD OF 'munimentlaw19.TokenCodes'. -/
def tokenCodesCard : Claim7 := { stood := { row := tokenCodesRow, standIns := [], harness := (true, "d8ee55046db53ef2ae59b676108c44564bb15742b14e31e62de9b47356801b1a"), looks := false }, kinds := [], alts := [], laidByText := true, laidKinds := [.data, .data, .data, .pinned], laidTests := true, laidLooks := .later }
def TokenCodesCardSaid : Prop := Claim7.holds Tryd.pinned (.plain (OpenSpec.ofChange tokenCodesSpec)) tokenCodesCard

/-- THE TIED CARD OF 'munimentlaw19.TokenSigns'. -/
def tokenSignsCard : Claim7 := { stood := { row := tokenSignsRow, standIns := [], harness := (true, "d8ee55046db53ef2ae59b676108c44564bb15742b14e31e62de9b47356801b1a"), looks := false }, kinds := [], alts := [], laidByText := true, laidKinds := [.data, .data, .data, .pinned], laidTests := true, laidLooks := .later }
def TokenSignsCardSaid : Prop := Claim7.holds Tryd.pinned (.plain (OpenSpec.ofChange tokenSignsSpec)) tokenSignsCard

/-- THE TIED CARD OF 'munimentlaw19.TokenVerifies'. -/
def tokenVerifiesCard : Claim7 := { stood := { row := tokenVerifiesRow, standIns := [], harness := (true, "d8ee55046db53ef2ae59b676108c44564bb15742b14e31e62de9b47356801b1a"), looks := false }, kinds := [], alts := [], laidByText := true, laidKinds := [.data, .data, .data, .pinned], laidTests := true, laidLooks := .later }
def TokenVerifiesCardSaid : Prop := Claim7.holds Tryd.pinned (.plain (OpenSpec.ofChange tokenVerifiesSpec)) tokenVerifiesCard

/-- THE TIED CARD OF 'munimentlaw19.TokenForged'. -/
def tokenForgedCard : Claim7 := { stood := { row := tokenForgedRow, standIns := [], harness := (true, "d8ee55046db53ef2ae59b676108c44564bb15742b14e31e62de9b47356801b1a"), looks := false }, kinds := [], alts := [], laidByText := true, laidKinds := [.data, .data, .data, .pinned], laidTests := true, laidLooks := .later }
def TokenForgedCardSaid : Prop := Claim7.holds Tryd.pinned (.plain (OpenSpec.ofChange tokenForgedSpec)) tokenForgedCard

/-- THE TIED CARD OF 'munimentlaw19.TokenKeys'. -/
def tokenKeysCard : Claim7 := { stood := { row := tokenKeysRow, standIns := [], harness := (true, "d8ee55046db53ef2ae59b676108c44564bb15742b14e31e62de9b47356801b1a"), looks := false }, kinds := [], alts := [], laidByText := true, laidKinds := [.data, .data, .data, .pinned], laidTests := true, laidLooks := .later }
def TokenKeysCardSaid : Prop := Claim7.holds Tryd.pinned (.plain (OpenSpec.ofChange tokenKeysSpec)) tokenKeysCard

/-- THE TIED CARD OF 'munimentlaw19.TokenTold'. -/
def tokenToldCard : Claim7 := { stood := { row := tokenToldRow, standIns := [], harness := (true, "d8ee55046db53ef2ae59b676108c44564bb15742b14e31e62de9b47356801b1a"), looks := false }, kinds := [], alts := [], laidByText := true, laidKinds := [.data, .data, .data, .pinned], laidTests := true, laidLooks := .later }
def TokenToldCardSaid : Prop := Claim7.holds Tryd.pinned (.plain (OpenSpec.ofChange tokenToldSpec)) tokenToldCard

/-- THE SECOND FORM's CARD OF 'munimentlaw18.PassMakes'. -/
def passMakesUptoCard : Claim7 := { stood := { row := passMakesUptoRow, standIns := [], harness := (true, "d8ee55046db53ef2ae59b676108c44564bb15742b14e31e62de9b47356801b1a"), looks := false }, kinds := [], alts := [], laidByText := true, laidKinds := [.data, .data], laidTests := true, laidLooks := .later }
def PassMakesUptoCardSaid : Prop := Claim7.holds Tryd.pinned (.plain (OpenSpec.upto passMakesSpec)) passMakesUptoCard

/-- THE SECOND FORM's CARD OF 'munimentlaw18.PassChecks'. -/
def passChecksUptoCard : Claim7 := { stood := { row := passChecksUptoRow, standIns := [], harness := (true, "d8ee55046db53ef2ae59b676108c44564bb15742b14e31e62de9b47356801b1a"), looks := false }, kinds := [], alts := [], laidByText := true, laidKinds := [.data, .data], laidTests := true, laidLooks := .later }
def PassChecksUptoCardSaid : Prop := Claim7.holds Tryd.pinned (.plain (OpenSpec.upto passChecksSpec)) passChecksUptoCard

/-- THE SECOND FORM's CARD OF 'munimentlaw18.PassSalts'. -/
def passSaltsUptoCard : Claim7 := { stood := { row := passSaltsUptoRow, standIns := [], harness := (true, "d8ee55046db53ef2ae59b676108c44564bb15742b14e31e62de9b47356801b1a"), looks := false }, kinds := [], alts := [], laidByText := true, laidKinds := [.data, .data], laidTests := true, laidLooks := .later }
def PassSaltsUptoCardSaid : Prop := Claim7.holds Tryd.pinned (.plain (OpenSpec.upto passSaltsSpec)) passSaltsUptoCard

/-- THE SECOND FORM's CARD OF 'munimentlaw18.PassTexts'. -/
def passTextsUptoCard : Claim7 := { stood := { row := passTextsUptoRow, standIns := [], harness := (true, "d8ee55046db53ef2ae59b676108c44564bb15742b14e31e62de9b47356801b1a"), looks := false }, kinds := [], alts := [], laidByText := true, laidKinds := [.data, .data], laidTests := true, laidLooks := .later }
def PassTextsUptoCardSaid : Prop := Claim7.holds Tryd.pinned (.plain (OpenSpec.upto passTextsSpec)) passTextsUptoCard

/-- THE SECOND FORM's CARD OF 'munimentlaw18.PassRounds'. -/
def passRoundsUptoCard : Claim7 := { stood := { row := passRoundsUptoRow, standIns := [], harness := (true, "d8ee55046db53ef2ae59b676108c44564bb15742b14e31e62de9b47356801b1a"), looks := false }, kinds := [], alts := [], laidByText := true, laidKinds := [.data, .data], laidTests := true, laidLooks := .later }
def PassRoundsUptoCardSaid : Prop := Claim7.holds Tryd.pinned (.plain (OpenSpec.upto passRoundsSpec)) passRoundsUptoCard

/-- THE SECOND FORM's CARD OF 'munimentlaw19.TokenCodes'. -/
def tokenCodesUptoCard : Claim7 := { stood := { row := tokenCodesUptoRow, standIns := [], harness := (true, "d8ee55046db53ef2ae59b676108c44564bb15742b14e31e62de9b47356801b1a"), looks := false }, kinds := [], alts := [], laidByText := true, laidKinds := [.data, .data, .data, .pinned], laidTests := true, laidLooks := .later }
def TokenCodesUptoCardSaid : Prop := Claim7.holds Tryd.pinned (.plain (OpenSpec.upto tokenCodesSpec)) tokenCodesUptoCard

/-- THE SECOND FORM's CARD OF 'munimentlaw19.TokenSigns'. -/
def tokenSignsUptoCard : Claim7 := { stood := { row := tokenSignsUptoRow, standIns := [], harness := (true, "d8ee55046db53ef2ae59b676108c44564bb15742b14e31e62de9b47356801b1a"), looks := false }, kinds := [], alts := [], laidByText := true, laidKinds := [.data, .data, .data, .pinned], laidTests := true, laidLooks := .later }
def TokenSignsUptoCardSaid : Prop := Claim7.holds Tryd.pinned (.plain (OpenSpec.upto tokenSignsSpec)) tokenSignsUptoCard

/-- THE SECOND FORM's CARD OF 'munimentlaw19.TokenVerifies'. -/
def tokenVerifiesUptoCard : Claim7 := { stood := { row := tokenVerifiesUptoRow, standIns := [], harness := (true, "d8ee55046db53ef2ae59b676108c44564bb15742b14e31e62de9b47356801b1a"), looks := false }, kinds := [], alts := [], laidByText := true, laidKinds := [.data, .data, .data, .pinned], laidTests := true, laidLooks := .later }
def TokenVerifiesUptoCardSaid : Prop := Claim7.holds Tryd.pinned (.plain (OpenSpec.upto tokenVerifiesSpec)) tokenVerifiesUptoCard

/-- THE SECOND FORM's CARD OF 'munimentlaw19.TokenForged'. -/
def tokenForgedUptoCard : Claim7 := { stood := { row := tokenForgedUptoRow, standIns := [], harness := (true, "d8ee55046db53ef2ae59b676108c44564bb15742b14e31e62de9b47356801b1a"), looks := false }, kinds := [], alts := [], laidByText := true, laidKinds := [.data, .data, .data, .pinned], laidTests := true, laidLooks := .later }
def TokenForgedUptoCardSaid : Prop := Claim7.holds Tryd.pinned (.plain (OpenSpec.upto tokenForgedSpec)) tokenForgedUptoCard

/-- THE SECOND FORM's CARD OF 'munimentlaw19.TokenKeys'. -/
def tokenKeysUptoCard : Claim7 := { stood := { row := tokenKeysUptoRow, standIns := [], harness := (true, "d8ee55046db53ef2ae59b676108c44564bb15742b14e31e62de9b47356801b1a"), looks := false }, kinds := [], alts := [], laidByText := true, laidKinds := [.data, .data, .data, .pinned], laidTests := true, laidLooks := .later }
def TokenKeysUptoCardSaid : Prop := Claim7.holds Tryd.pinned (.plain (OpenSpec.upto tokenKeysSpec)) tokenKeysUptoCard

/-- THE SECOND FORM's CARD OF 'munimentlaw19.TokenTold'. -/
def tokenToldUptoCard : Claim7 := { stood := { row := tokenToldUptoRow, standIns := [], harness := (true, "d8ee55046db53ef2ae59b676108c44564bb15742b14e31e62de9b47356801b1a"), looks := false }, kinds := [], alts := [], laidByText := true, laidKinds := [.data, .data, .data, .pinned], laidTests := true, laidLooks := .later }
def TokenToldUptoCardSaid : Prop := Claim7.holds Tryd.pinned (.plain (OpenSpec.upto tokenToldSpec)) tokenToldUptoCard
end Rows
end Go.Proofs.YtgmfjbbhdnfapaaDoor
