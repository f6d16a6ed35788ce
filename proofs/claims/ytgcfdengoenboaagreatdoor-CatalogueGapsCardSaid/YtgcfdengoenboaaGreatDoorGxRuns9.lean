/- Printed by a program (wip/tools/mkruns.py): the runs of the recipes. -/
import Derived.Test.YtgcfdengoenboaaGreatDoorGxWalk
namespace Go.Proofs.TG
open Go Go.Abs
set_option maxRecDepth 1000000
theorem r_5_2_4 : restF 5 2 4 = fun _ _ _ => true := by kernel_rfl
theorem r_5_3_1 : restF 5 3 1 = fun _ _ _ => true := by kernel_rfl
theorem r_5_3_2 : restF 5 3 2 = fun _ _ _ => true := by kernel_rfl
theorem r_5_3_3 : restF 5 3 3 = fun _ _ _ => true := by kernel_rfl
theorem r_5_3_4 : restF 5 3 4 = fun _ _ _ => true := by kernel_rfl
theorem r_6_1_1 : restF 6 1 1 = fun _ _ _ => true := by kernel_rfl
theorem r_6_1_2 : restF 6 1 2 = fun _ _ _ => true := by kernel_rfl
end Go.Proofs.TG
