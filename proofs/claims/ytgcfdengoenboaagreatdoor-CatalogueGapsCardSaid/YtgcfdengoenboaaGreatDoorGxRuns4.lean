/- Printed by a program (wip/tools/mkruns.py): the runs of the recipes. -/
import Derived.Test.YtgcfdengoenboaaGreatDoorGxWalk
namespace Go.Proofs.TG
open Go Go.Abs
set_option maxRecDepth 1000000
theorem r_2_3_1 : restF 2 3 1 = fun _ _ _ => true := by kernel_rfl
theorem r_2_3_2 : restF 2 3 2 = fun _ _ _ => true := by kernel_rfl
theorem r_2_3_3 : restF 2 3 3 = fun _ _ _ => true := by kernel_rfl
theorem r_2_3_4 : restF 2 3 4 = fun _ _ _ => true := by kernel_rfl
theorem r_3_1_1 : restF 3 1 1 = fun _ _ _ => true := by kernel_rfl
theorem r_3_1_2 : restF 3 1 2 = fun _ _ _ => true := by kernel_rfl
theorem r_3_1_3 : restF 3 1 3 = fun _ _ _ => true := by kernel_rfl
end Go.Proofs.TG
