/- Printed by a program (wip/tools/mkruns.py): the runs of the recipes. -/
import Derived.Test.YtgcfdengoenboaaGreatDoorGxWalk
namespace Go.Proofs.TG
open Go Go.Abs
set_option maxRecDepth 1000000
theorem r_6_1_3 : restF 6 1 3 = fun _ _ _ => true := by kernel_rfl
theorem r_6_1_4 : restF 6 1 4 = fun _ _ _ => true := by kernel_rfl
theorem r_6_2_1 : restF 6 2 1 = fun _ _ _ => true := by kernel_rfl
theorem r_6_2_2 : restF 6 2 2 = fun _ _ _ => true := by kernel_rfl
theorem r_6_2_3 : restF 6 2 3 = fun _ _ _ => true := by kernel_rfl
theorem r_6_2_4 : restF 6 2 4 = fun _ _ _ => true := by kernel_rfl
theorem r_6_3_1 : restF 6 3 1 = fun _ _ _ => true := by kernel_rfl
end Go.Proofs.TG
