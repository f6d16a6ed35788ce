/- Printed by a program (wip/tools/mkruns.py): the runs of the recipes. -/
import Derived.Test.YtgcfdengoenboaaGreatDoorGxWalk
namespace Go.Proofs.TG
open Go Go.Abs
set_option maxRecDepth 1000000
theorem r_1_2_1 : restF 1 2 1 = fun _ _ _ => true := by kernel_rfl
theorem r_1_2_2 : restF 1 2 2 = fun _ _ _ => true := by kernel_rfl
theorem r_1_2_3 : restF 1 2 3 = fun _ _ _ => true := by kernel_rfl
theorem r_1_2_4 : restF 1 2 4 = fun _ _ _ => true := by kernel_rfl
theorem r_1_3_1 : restF 1 3 1 = fun _ _ _ => true := by kernel_rfl
theorem r_1_3_2 : restF 1 3 2 = fun _ _ _ => true := by kernel_rfl
theorem r_1_3_3 : restF 1 3 3 = fun _ _ _ => true := by kernel_rfl
end Go.Proofs.TG
