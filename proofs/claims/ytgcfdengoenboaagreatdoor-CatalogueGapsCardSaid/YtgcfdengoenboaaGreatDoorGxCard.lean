/- CatalogueGaps: for any recipe, the worst cases of the requirement are Least and Greatest, and it is met: the card. Conditions: none beyond those of the given card (its listed tables start as the program's text lays them). -/
import Derived.Test.YtgcfdengoenboaaGreatDoorGxRow
import Derived.Test.YtgcfdengoenboaaGreatDoorTie
import Derived.Test.YtgcfdengoenboaaGreatDoorCards
import Derived.SevenTiedAt
namespace Go.Proofs.YtgcfdengoenboaaGreatDoor
open Go Go.Proofs

theorem gaps_card : Rows.CatalogueGapsCardSaid :=
  Claim7.holds_tied_plain_at .later [] [.data, .data, .data, .data, .sentinel, .sentinel, .pinned] true (true, "8af120175fb0d94070cdb367db71e62eb9e95c879ebbef53336245fcf12551e0") true
    Go.Proofs.TG.over (fun _ h => by cases h) (by kernel_rfl) (fun _ h => by cases h) catalogueGaps_row_tie rfl ⟨rfl, rfl⟩ (by kernel_rfl) rfl
    (fun f fn hf hfn => by
      obtain rfl : f = 3 := Option.some.inj ((show Tryz.prog.funcNamed "dowel/dowellaw55.CatalogueGaps" = some 3 by kernel_rfl).symm.trans hf) |>.symm
      obtain rfl : fn = Tryz.f3 := (Option.some.inj (Tryz.func3.symm.trans hfn)).symm
      exact ⟨by kernel_rfl, fun j t ht => by
        rw [Tryz.params3] at ht
        have h5 : t = 5 := by
          rcases j with _ | _ | _ | j
          · simpa using ht.symm
          · simpa using ht.symm
          · simpa using ht.symm
          · simp at ht
        subst h5
        exact (show Tryz.prog.wantsStandIn 5 = false by kernel_rfl)⟩)
    (by kernel_rfl)
#print axioms gaps_card
end Go.Proofs.YtgcfdengoenboaaGreatDoor
