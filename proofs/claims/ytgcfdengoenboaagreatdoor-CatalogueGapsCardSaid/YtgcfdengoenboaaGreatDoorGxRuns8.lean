/- Printed by a program (wip/tools/mkruns.py): the runs of the recipes. -/
import Derived.Test.YtgcfdengoenboaaGreatDoorGxWalk
namespace Go.Proofs.TG
open Go Go.Abs
set_option maxRecDepth 1000000
theorem r_5_1_1 : restF 5 1 1 = fun _ _ _ => true := by kernel_rfl
theorem r_5_1_2 : restF 5 1 2 = fun _ _ _ => true := by kernel_rfl
theorem r_5_1_3 : restF 5 1 3 = fun _ _ _ => true := by kernel_rfl
theorem r_5_1_4 : restF 5 1 4 = fun _ _ _ => true := by kernel_rfl
theorem r_5_2_1 : restF 5 2 1 = fun _ _ _ => true := by kernel_rfl
theorem r_5_2_2 : restF 5 2 2 = fun _ _ _ => true := by kernel_rfl
theorem r_5_2_3 : restF 5 2 3 = fun _ _ _ => true := by kernel_rfl
end Go.Proofs.TG
