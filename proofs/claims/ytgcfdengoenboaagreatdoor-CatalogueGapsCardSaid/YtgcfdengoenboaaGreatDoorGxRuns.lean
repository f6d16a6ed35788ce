/- Printed by a program (wip/tools/mkruns.py): the runs of the recipes. -/
import Derived.Test.YtgcfdengoenboaaGreatDoorGxRuns0
import Derived.Test.YtgcfdengoenboaaGreatDoorGxRuns1
import Derived.Test.YtgcfdengoenboaaGreatDoorGxRuns2
import Derived.Test.YtgcfdengoenboaaGreatDoorGxRuns3
import Derived.Test.YtgcfdengoenboaaGreatDoorGxRuns4
import Derived.Test.YtgcfdengoenboaaGreatDoorGxRuns5
import Derived.Test.YtgcfdengoenboaaGreatDoorGxRuns6
import Derived.Test.YtgcfdengoenboaaGreatDoorGxRuns7
import Derived.Test.YtgcfdengoenboaaGreatDoorGxRuns8
import Derived.Test.YtgcfdengoenboaaGreatDoorGxRuns9
import Derived.Test.YtgcfdengoenboaaGreatDoorGxRuns10
import Derived.Test.YtgcfdengoenboaaGreatDoorGxRuns11
namespace Go.Proofs.TG
open Go Go.Abs
theorem rest_ok {K C S : Nat} (h : IsRecipe K C S) : restF K C S = fun _ _ _ => true := by
  obtain ⟨h1, h2, h3, h4, h5, h6⟩ := h
  have hS : S = 1 ∨ S = 2 ∨ S = 3 ∨ S = 4 := by omega
  have hK : K = 1 ∨ K = 2 ∨ K = 3 ∨ K = 4 ∨ K = 5 ∨ K = 6 := by omega
  rcases hK with rfl | rfl | rfl | rfl | rfl | rfl
  · simp only [cnt] at h3 h4
    have hC : C = 2 ∨ C = 3 ∨ C = 4 ∨ C = 5 ∨ C = 6 := by omega
    rcases hC with rfl | rfl | rfl | rfl | rfl
    · rcases hS with rfl | rfl | rfl | rfl
      · exact r_1_2_1
      · exact r_1_2_2
      · exact r_1_2_3
      · exact r_1_2_4
    · rcases hS with rfl | rfl | rfl | rfl
      · exact r_1_3_1
      · exact r_1_3_2
      · exact r_1_3_3
      · exact r_1_3_4
    · rcases hS with rfl | rfl | rfl | rfl
      · exact r_1_4_1
      · exact r_1_4_2
      · exact r_1_4_3
      · exact r_1_4_4
    · rcases hS with rfl | rfl | rfl | rfl
      · exact r_1_5_1
      · exact r_1_5_2
      · exact r_1_5_3
      · exact r_1_5_4
    · rcases hS with rfl | rfl | rfl | rfl
      · exact r_1_6_1
      · exact r_1_6_2
      · exact r_1_6_3
      · exact r_1_6_4
  · simp only [cnt] at h3 h4
    have hC : C = 1 ∨ C = 2 ∨ C = 3 := by omega
    rcases hC with rfl | rfl | rfl
    · rcases hS with rfl | rfl | rfl | rfl
      · exact r_2_1_1
      · exact r_2_1_2
      · exact r_2_1_3
      · exact r_2_1_4
    · rcases hS with rfl | rfl | rfl | rfl
      · exact r_2_2_1
      · exact r_2_2_2
      · exact r_2_2_3
      · exact r_2_2_4
    · rcases hS with rfl | rfl | rfl | rfl
      · exact r_2_3_1
      · exact r_2_3_2
      · exact r_2_3_3
      · exact r_2_3_4
  · simp only [cnt] at h3 h4
    have hC : C = 1 ∨ C = 2 ∨ C = 3 := by omega
    rcases hC with rfl | rfl | rfl
    · rcases hS with rfl | rfl | rfl | rfl
      · exact r_3_1_1
      · exact r_3_1_2
      · exact r_3_1_3
      · exact r_3_1_4
    · rcases hS with rfl | rfl | rfl | rfl
      · exact r_3_2_1
      · exact r_3_2_2
      · exact r_3_2_3
      · exact r_3_2_4
    · rcases hS with rfl | rfl | rfl | rfl
      · exact r_3_3_1
      · exact r_3_3_2
      · exact r_3_3_3
      · exact r_3_3_4
  · simp only [cnt] at h3 h4
    have hC : C = 2 ∨ C = 3 ∨ C = 4 := by omega
    rcases hC with rfl | rfl | rfl
    · rcases hS with rfl | rfl | rfl | rfl
      · exact r_4_2_1
      · exact r_4_2_2
      · exact r_4_2_3
      · exact r_4_2_4
    · rcases hS with rfl | rfl | rfl | rfl
      · exact r_4_3_1
      · exact r_4_3_2
      · exact r_4_3_3
      · exact r_4_3_4
    · rcases hS with rfl | rfl | rfl | rfl
      · exact r_4_4_1
      · exact r_4_4_2
      · exact r_4_4_3
      · exact r_4_4_4
  · simp only [cnt] at h3 h4
    have hC : C = 1 ∨ C = 2 ∨ C = 3 := by omega
    rcases hC with rfl | rfl | rfl
    · rcases hS with rfl | rfl | rfl | rfl
      · exact r_5_1_1
      · exact r_5_1_2
      · exact r_5_1_3
      · exact r_5_1_4
    · rcases hS with rfl | rfl | rfl | rfl
      · exact r_5_2_1
      · exact r_5_2_2
      · exact r_5_2_3
      · exact r_5_2_4
    · rcases hS with rfl | rfl | rfl | rfl
      · exact r_5_3_1
      · exact r_5_3_2
      · exact r_5_3_3
      · exact r_5_3_4
  · simp only [cnt] at h3 h4
    have hC : C = 1 ∨ C = 2 ∨ C = 3 ∨ C = 4 := by omega
    rcases hC with rfl | rfl | rfl | rfl
    · rcases hS with rfl | rfl | rfl | rfl
      · exact r_6_1_1
      · exact r_6_1_2
      · exact r_6_1_3
      · exact r_6_1_4
    · rcases hS with rfl | rfl | rfl | rfl
      · exact r_6_2_1
      · exact r_6_2_2
      · exact r_6_2_3
      · exact r_6_2_4
    · rcases hS with rfl | rfl | rfl | rfl
      · exact r_6_3_1
      · exact r_6_3_2
      · exact r_6_3_3
      · exact r_6_3_4
    · rcases hS with rfl | rfl | rfl | rfl
      · exact r_6_4_1
      · exact r_6_4_2
      · exact r_6_4_3
      · exact r_6_4_4
end Go.Proofs.TG
