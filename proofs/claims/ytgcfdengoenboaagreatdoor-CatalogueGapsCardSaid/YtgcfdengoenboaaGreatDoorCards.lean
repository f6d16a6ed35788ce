/-
  DERIVED. GIVEN WITH THE SEED: THE CARDS: each row of YtgcfdengoenboaaGreatDoorRows.lean that lists a variable, with what it lists TIED to the program's text (the seventh form; the later family's looks); each row that meets fmt, with fmt's text TOLD by the authors' own Lean function (tested against real Go, not proved from fmt's source: count such statements apart). THE CARD IS WHAT COUNTS. Prove the row's statement (the work); the ties are given (YtgcfdengoenboaaGreatDoorTie.lean); close each card by the builder's one call (the guide's Derived/Test/ToyasCard.lean, 'card_holds'). Laid BY PROGRAM, IN A SANDBOX (cutbox-door.mjs). By AI agents, Wed Nov 11 2026. No macro, syntax, notation, axiom, sorry.
-/
import Derived.Test.YtgcfdengoenboaaGreatDoorRows
import GoSem.ClaimSeven
namespace Go.Proofs.YtgcfdengoenboaaGreatDoor
namespace Rows

/-- THE TIED CARD OF 'dowellaw55.CatalogueGaps'. -/
def catalogueGapsCard : Claim7 := { stood := { row := catalogueGapsRow, standIns := [], harness := (true, "8af120175fb0d94070cdb367db71e62eb9e95c879ebbef53336245fcf12551e0"), looks := true }, kinds := [], alts := [], laidByText := true, laidKinds := [.data, .data, .data, .data, .sentinel, .sentinel, .pinned], laidTests := true, laidLooks := .later }
def CatalogueGapsCardSaid : Prop := Claim7.holds Tryz.pinned (.plain (OpenSpec.ofChange catalogueGapsSpec)) catalogueGapsCard

/-- THE SECOND FORM's CARD OF 'dowellaw55.CatalogueGaps'. -/
def catalogueGapsUptoCard : Claim7 := { stood := { row := catalogueGapsUptoRow, standIns := [], harness := (true, "8af120175fb0d94070cdb367db71e62eb9e95c879ebbef53336245fcf12551e0"), looks := true }, kinds := [], alts := [], laidByText := true, laidKinds := [.data, .data, .data, .data, .sentinel, .sentinel, .pinned], laidTests := true, laidLooks := .later }
def CatalogueGapsUptoCardSaid : Prop := Claim7.holds Tryz.pinned (.plain (OpenSpec.upto catalogueGapsSpec)) catalogueGapsUptoCard
end Rows
end Go.Proofs.YtgcfdengoenboaaGreatDoor
