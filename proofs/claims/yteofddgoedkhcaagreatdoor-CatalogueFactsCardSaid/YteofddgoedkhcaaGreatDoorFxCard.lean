/- CatalogueFacts: for any recipe, Known returns the facts of the table: the card. Conditions: none beyond those of the given card (its listed tables start as the program's text lays them). -/
import Derived.Test.YteofddgoedkhcaaGreatDoorFxRow
import Derived.Test.YteofddgoedkhcaaGreatDoorTie
import Derived.Test.YteofddgoedkhcaaGreatDoorCards
import Derived.SevenTiedAt
namespace Go.Proofs.YteofddgoedkhcaaGreatDoor
open Go Go.Proofs

theorem facts_card : Rows.CatalogueFactsCardSaid :=
  Claim7.holds_tied_plain_at .later [] [.data, .data, .data] true (true, "6764c55a183f4eb5b9491bbf9c63acc1cccfe1b123bcfe4852504cbe91be0011") false
    Go.Proofs.TF.over (fun _ h => by cases h) (by kernel_rfl) (fun _ h => by cases h) catalogueFacts_row_tie rfl ⟨rfl, rfl⟩ (by kernel_rfl) rfl
    (fun f fn hf hfn => by
      obtain rfl : f = 4 := Option.some.inj ((show Tryz.prog.funcNamed "dowel/dowellaw55.CatalogueFacts" = some 4 by kernel_rfl).symm.trans hf) |>.symm
      obtain rfl : fn = Tryz.f4 := (Option.some.inj (Tryz.func4.symm.trans hfn)).symm
      exact ⟨by kernel_rfl, fun j t ht => by
        rw [Tryz.params4] at ht
        have h5 : t = 5 := by
          rcases j with _ | _ | _ | j
          · simpa using ht.symm
          · simpa using ht.symm
          · simpa using ht.symm
          · simp at ht
        subst h5
        exact (show Tryz.prog.wantsStandIn 5 = false by kernel_rfl)⟩)
    (by kernel_rfl)
#print axioms facts_card
end Go.Proofs.YteofddgoedkhcaaGreatDoor
