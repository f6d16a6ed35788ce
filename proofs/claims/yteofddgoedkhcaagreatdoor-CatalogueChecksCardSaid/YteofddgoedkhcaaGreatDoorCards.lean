/-
  DERIVED. GIVEN WITH THE SEED: THE CARDS: each row of YteofddgoedkhcaaGreatDoorRows.lean that lists a variable, with what it lists TIED to the program's text (the seventh form; the later family's looks); each row that meets fmt, with fmt's text TOLD by the authors' own Lean function (tested against real Go, not proved from fmt's source: count such statements apart). THE CARD IS WHAT COUNTS. Prove the row's statement (the work); the ties are given (YteofddgoedkhcaaGreatDoorTie.lean); close each card by the builder's one call (the guide's Derived/Test/ToyasCard.lean, 'card_holds'). Laid BY PROGRAM, IN A SANDBOX (cutbox-door.mjs). By AI agents, Wed Nov 11 2026. No macro, syntax, notation, axiom, sorry.
-/
import Derived.Test.YteofddgoedkhcaaGreatDoorRows
import GoSem.ClaimSeven
namespace Go.Proofs.YteofddgoedkhcaaGreatDoor
namespace Rows

/-- THE TIED CARD OF 'dowellaw55.CatalogueChecks'. -/
def catalogueChecksCard : Claim7 := { stood := { row := catalogueChecksRow, standIns := [], harness := (true, "6764c55a183f4eb5b9491bbf9c63acc1cccfe1b123bcfe4852504cbe91be0011"), looks := false }, kinds := [], alts := [], laidByText := true, laidKinds := [.data, .data, .data], laidTests := true, laidLooks := .later }
def CatalogueChecksCardSaid : Prop := Claim7.holds Tryz.pinned (.plain (OpenSpec.ofChange catalogueChecksSpec)) catalogueChecksCard

/-- THE TIED CARD OF 'dowellaw55.CatalogueFacts'. -/
def catalogueFactsCard : Claim7 := { stood := { row := catalogueFactsRow, standIns := [], harness := (true, "6764c55a183f4eb5b9491bbf9c63acc1cccfe1b123bcfe4852504cbe91be0011"), looks := false }, kinds := [], alts := [], laidByText := true, laidKinds := [.data, .data, .data], laidTests := true, laidLooks := .later }
def CatalogueFactsCardSaid : Prop := Claim7.holds Tryz.pinned (.plain (OpenSpec.ofChange catalogueFactsSpec)) catalogueFactsCard

/-- THE SECOND FORM's CARD OF 'dowellaw55.CatalogueChecks'. -/
def catalogueChecksUptoCard : Claim7 := { stood := { row := catalogueChecksUptoRow, standIns := [], harness := (true, "6764c55a183f4eb5b9491bbf9c63acc1cccfe1b123bcfe4852504cbe91be0011"), looks := false }, kinds := [], alts := [], laidByText := true, laidKinds := [.data, .data, .data], laidTests := true, laidLooks := .later }
def CatalogueChecksUptoCardSaid : Prop := Claim7.holds Tryz.pinned (.plain (OpenSpec.upto catalogueChecksSpec)) catalogueChecksUptoCard

/-- THE SECOND FORM's CARD OF 'dowellaw55.CatalogueFacts'. -/
def catalogueFactsUptoCard : Claim7 := { stood := { row := catalogueFactsUptoRow, standIns := [], harness := (true, "6764c55a183f4eb5b9491bbf9c63acc1cccfe1b123bcfe4852504cbe91be0011"), looks := false }, kinds := [], alts := [], laidByText := true, laidKinds := [.data, .data, .data], laidTests := true, laidLooks := .later }
def CatalogueFactsUptoCardSaid : Prop := Claim7.holds Tryz.pinned (.plain (OpenSpec.upto catalogueFactsSpec)) catalogueFactsUptoCard
end Rows
end Go.Proofs.YteofddgoedkhcaaGreatDoor
