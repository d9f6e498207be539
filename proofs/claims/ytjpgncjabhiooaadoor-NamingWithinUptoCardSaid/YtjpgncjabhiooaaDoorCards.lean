/-
  DERIVED. GIVEN WITH THE SEED: THE CARDS: each row of YtjpgncjabhiooaaDoorRows.lean that lists a variable, with what it lists TIED to the program's text (the seventh form; the later family's looks); each row that meets fmt, with fmt's text TOLD by the authors' own Lean function (tested against real Go, not proved from fmt's source: count such statements apart). THE CARD IS WHAT COUNTS. Prove the row's statement (the work); the ties are given (YtjpgncjabhiooaaDoorTie.lean); close each card by the builder's one call (the guide's Derived/Test/ToyasCard.lean, 'card_holds'). Laid BY PROGRAM, IN A SANDBOX (cutbox-door.mjs). By AI agents, Wed Nov 11 2026. No macro, syntax, notation, axiom, sorry.
-/
import Derived.Test.YtjpgncjabhiooaaDoorRows
import GoSem.ClaimSeven
namespace Go.Proofs.YtjpgncjabhiooaaDoor
namespace Rows

/-- THE TIED CARD OF 'munimentlaw03.NamingOnce'. -/
def namingOnceCard : Claim7 := { stood := { row := namingOnceRow, standIns := [], harness := (true, "c6199655054c846666d5187c357ab7e844fb8f7e2642b5d331871fee1ebffd7a"), looks := false }, kinds := [], alts := [], laidByText := true, laidKinds := [.data, .pinned], laidTests := true, laidLooks := .later }
def NamingOnceCardSaid : Prop := Claim7.holds Tryd.pinned (.plain (OpenSpec.ofChange namingOnceSpec)) namingOnceCard

/-- THE TIED CARD OF 'munimentlaw03.NamingClasses'. -/
def namingClassesCard : Claim7 := { stood := { row := namingClassesRow, standIns := [], harness := (true, "c6199655054c846666d5187c357ab7e844fb8f7e2642b5d331871fee1ebffd7a"), looks := false }, kinds := [], alts := [], laidByText := true, laidKinds := [.data, .pinned], laidTests := true, laidLooks := .later }
def NamingClassesCardSaid : Prop := Claim7.holds Tryd.pinned (.plain (OpenSpec.ofChange namingClassesSpec)) namingClassesCard

/-- THE TIED CARD OF 'munimentlaw03.NamingWithin'. -/
def namingWithinCard : Claim7 := { stood := { row := namingWithinRow, standIns := [], harness := (true, "c6199655054c846666d5187c357ab7e844fb8f7e2642b5d331871fee1ebffd7a"), looks := false }, kinds := [], alts := [], laidByText := true, laidKinds := [.data, .pinned], laidTests := true, laidLooks := .later }
def NamingWithinCardSaid : Prop := Claim7.holds Tryd.pinned (.plain (OpenSpec.ofChange namingWithinSpec)) namingWithinCard

/-- THE TIED CARD OF 'munimentlaw03.NamingCounts'. -/
def namingCountsCard : Claim7 := { stood := { row := namingCountsRow, standIns := [], harness := (true, "c6199655054c846666d5187c357ab7e844fb8f7e2642b5d331871fee1ebffd7a"), looks := false }, kinds := [], alts := [], laidByText := true, laidKinds := [.data, .pinned], laidTests := true, laidLooks := .later }
def NamingCountsCardSaid : Prop := Claim7.holds Tryd.pinned (.plain (OpenSpec.ofChange namingCountsSpec)) namingCountsCard

/-- THE TIED CARD OF 'munimentlaw03.NamingPlaces'. -/
def namingPlacesCard : Claim7 := { stood := { row := namingPlacesRow, standIns := [], harness := (true, "c6199655054c846666d5187c357ab7e844fb8f7e2642b5d331871fee1ebffd7a"), looks := false }, kinds := [], alts := [], laidByText := true, laidKinds := [.data, .pinned], laidTests := true, laidLooks := .later }
def NamingPlacesCardSaid : Prop := Claim7.holds Tryd.pinned (.plain (OpenSpec.ofChange namingPlacesSpec)) namingPlacesCard

/-- THE TIED CARD OF 'munimentlaw03.NamingFolds'. -/
def namingFoldsCard : Claim7 := { stood := { row := namingFoldsRow, standIns := [], harness := (true, "c6199655054c846666d5187c357ab7e844fb8f7e2642b5d331871fee1ebffd7a"), looks := false }, kinds := [], alts := [], laidByText := true, laidKinds := [.data, .pinned], laidTests := true, laidLooks := .later }
def NamingFoldsCardSaid : Prop := Claim7.holds Tryd.pinned (.plain (OpenSpec.ofChange namingFoldsSpec)) namingFoldsCard

/-- THE SECOND FORM's CARD OF 'munimentlaw03.NamingOnce'. -/
def namingOnceUptoCard : Claim7 := { stood := { row := namingOnceUptoRow, standIns := [], harness := (true, "c6199655054c846666d5187c357ab7e844fb8f7e2642b5d331871fee1ebffd7a"), looks := false }, kinds := [], alts := [], laidByText := true, laidKinds := [.data, .pinned], laidTests := true, laidLooks := .later }
def NamingOnceUptoCardSaid : Prop := Claim7.holds Tryd.pinned (.plain (OpenSpec.upto namingOnceSpec)) namingOnceUptoCard

/-- THE SECOND FORM's CARD OF 'munimentlaw03.NamingClasses'. -/
def namingClassesUptoCard : Claim7 := { stood := { row := namingClassesUptoRow, standIns := [], harness := (true, "c6199655054c846666d5187c357ab7e844fb8f7e2642b5d331871fee1ebffd7a"), looks := false }, kinds := [], alts := [], laidByText := true, laidKinds := [.data, .pinned], laidTests := true, laidLooks := .later }
def NamingClassesUptoCardSaid : Prop := Claim7.holds Tryd.pinned (.plain (OpenSpec.upto namingClassesSpec)) namingClassesUptoCard

/-- THE SECOND FORM's CARD OF 'munimentlaw03.NamingWithin'. -/
def namingWithinUptoCard : Claim7 := { stood := { row := namingWithinUptoRow, standIns := [], harness := (true, "c6199655054c846666d5187c357ab7e844fb8f7e2642b5d331871fee1ebffd7a"), looks := false }, kinds := [], alts := [], laidByText := true, laidKinds := [.data, .pinned], laidTests := true, laidLooks := .later }
def NamingWithinUptoCardSaid : Prop := Claim7.holds Tryd.pinned (.plain (OpenSpec.upto namingWithinSpec)) namingWithinUptoCard

/-- THE SECOND FORM's CARD OF 'munimentlaw03.NamingCounts'. -/
def namingCountsUptoCard : Claim7 := { stood := { row := namingCountsUptoRow, standIns := [], harness := (true, "c6199655054c846666d5187c357ab7e844fb8f7e2642b5d331871fee1ebffd7a"), looks := false }, kinds := [], alts := [], laidByText := true, laidKinds := [.data, .pinned], laidTests := true, laidLooks := .later }
def NamingCountsUptoCardSaid : Prop := Claim7.holds Tryd.pinned (.plain (OpenSpec.upto namingCountsSpec)) namingCountsUptoCard

/-- THE SECOND FORM's CARD OF 'munimentlaw03.NamingPlaces'. -/
def namingPlacesUptoCard : Claim7 := { stood := { row := namingPlacesUptoRow, standIns := [], harness := (true, "c6199655054c846666d5187c357ab7e844fb8f7e2642b5d331871fee1ebffd7a"), looks := false }, kinds := [], alts := [], laidByText := true, laidKinds := [.data, .pinned], laidTests := true, laidLooks := .later }
def NamingPlacesUptoCardSaid : Prop := Claim7.holds Tryd.pinned (.plain (OpenSpec.upto namingPlacesSpec)) namingPlacesUptoCard

/-- THE SECOND FORM's CARD OF 'munimentlaw03.NamingFolds'. -/
def namingFoldsUptoCard : Claim7 := { stood := { row := namingFoldsUptoRow, standIns := [], harness := (true, "c6199655054c846666d5187c357ab7e844fb8f7e2642b5d331871fee1ebffd7a"), looks := false }, kinds := [], alts := [], laidByText := true, laidKinds := [.data, .pinned], laidTests := true, laidLooks := .later }
def NamingFoldsUptoCardSaid : Prop := Claim7.holds Tryd.pinned (.plain (OpenSpec.upto namingFoldsSpec)) namingFoldsUptoCard
end Rows
end Go.Proofs.YtjpgncjabhiooaaDoor
