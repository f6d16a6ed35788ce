/- Printed by a program (wip/tools/mkruns.py): the runs of the recipes. -/
import Derived.Test.YtgcfdengoenboaaGreatDoorGxWalk
namespace Go.Proofs.TG
open Go Go.Abs
set_option maxRecDepth 1000000
theorem r_2_1_2 : restF 2 1 2 = fun _ _ _ => true := by kernel_rfl
theorem r_2_1_3 : restF 2 1 3 = fun _ _ _ => true := by kernel_rfl
theorem r_2_1_4 : restF 2 1 4 = fun _ _ _ => true := by kernel_rfl
theorem r_2_2_1 : restF 2 2 1 = fun _ _ _ => true := by kernel_rfl
theorem r_2_2_2 : restF 2 2 2 = fun _ _ _ => true := by kernel_rfl
theorem r_2_2_3 : restF 2 2 3 = fun _ _ _ => true := by kernel_rfl
theorem r_2_2_4 : restF 2 2 4 = fun _ _ _ => true := by kernel_rfl
end Go.Proofs.TG
