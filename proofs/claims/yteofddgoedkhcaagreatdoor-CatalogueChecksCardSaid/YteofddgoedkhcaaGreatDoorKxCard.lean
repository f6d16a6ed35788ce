/- CatalogueChecks: for any three ints, Check returns OK or the first error, and so do Make and Known; Most and Name answer for any kind: the card. Conditions: none beyond those of the given card (its listed tables start as the program's text lays them). -/
import Derived.Test.YteofddgoedkhcaaGreatDoorKxRow
import Derived.Test.YteofddgoedkhcaaGreatDoorTie
import Derived.Test.YteofddgoedkhcaaGreatDoorCards
import Derived.SevenTiedAt
namespace Go.Proofs.YteofddgoedkhcaaGreatDoor
open Go Go.Proofs

theorem checks_card : Rows.CatalogueChecksCardSaid :=
  Claim7.holds_tied_plain_at .later [] [.data, .data, .data] true (true, "6764c55a183f4eb5b9491bbf9c63acc1cccfe1b123bcfe4852504cbe91be0011") false
    Go.Proofs.TK.over (fun _ h => by cases h) (by kernel_rfl) (fun _ h => by cases h) catalogueChecks_row_tie rfl ⟨rfl, rfl⟩ (by kernel_rfl) rfl
    (fun f fn hf hfn => by
      obtain rfl : f = 3 := Option.some.inj ((show Tryz.prog.funcNamed "dowel/dowellaw55.CatalogueChecks" = some 3 by kernel_rfl).symm.trans hf) |>.symm
      obtain rfl : fn = Tryz.f3 := (Option.some.inj (Tryz.func3.symm.trans hfn)).symm
      exact ⟨by kernel_rfl, fun j t ht => by
        rw [Tryz.params3] at ht
        have h3 : t = 3 := by
          rcases j with _ | _ | _ | j
          · simpa using ht.symm
          · simpa using ht.symm
          · simpa using ht.symm
          · simp at ht
        subst h3
        exact (show Tryz.prog.wantsStandIn 3 = false by kernel_rfl)⟩)
    (by kernel_rfl)
#print axioms checks_card
end Go.Proofs.YteofddgoedkhcaaGreatDoor
