/- Printed by a program (wip/tools/mkruns.py): the runs of the recipes. -/
import Derived.Test.YtgcfdengoenboaaGreatDoorGxWalk
namespace Go.Proofs.TG
open Go Go.Abs
set_option maxRecDepth 1000000
theorem r_1_5_3 : restF 1 5 3 = fun _ _ _ => true := by kernel_rfl
theorem r_1_5_4 : restF 1 5 4 = fun _ _ _ => true := by kernel_rfl
theorem r_1_6_1 : restF 1 6 1 = fun _ _ _ => true := by kernel_rfl
theorem r_1_6_2 : restF 1 6 2 = fun _ _ _ => true := by kernel_rfl
theorem r_1_6_3 : restF 1 6 3 = fun _ _ _ => true := by kernel_rfl
theorem r_1_6_4 : restF 1 6 4 = fun _ _ _ => true := by kernel_rfl
theorem r_2_1_1 : restF 2 1 1 = fun _ _ _ => true := by kernel_rfl
end Go.Proofs.TG
