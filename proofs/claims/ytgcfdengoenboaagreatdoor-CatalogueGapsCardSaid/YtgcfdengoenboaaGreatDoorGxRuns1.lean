/- Printed by a program (wip/tools/mkruns.py): the runs of the recipes. -/
import Derived.Test.YtgcfdengoenboaaGreatDoorGxWalk
namespace Go.Proofs.TG
open Go Go.Abs
set_option maxRecDepth 1000000
theorem r_1_3_4 : restF 1 3 4 = fun _ _ _ => true := by kernel_rfl
theorem r_1_4_1 : restF 1 4 1 = fun _ _ _ => true := by kernel_rfl
theorem r_1_4_2 : restF 1 4 2 = fun _ _ _ => true := by kernel_rfl
theorem r_1_4_3 : restF 1 4 3 = fun _ _ _ => true := by kernel_rfl
theorem r_1_4_4 : restF 1 4 4 = fun _ _ _ => true := by kernel_rfl
theorem r_1_5_1 : restF 1 5 1 = fun _ _ _ => true := by kernel_rfl
theorem r_1_5_2 : restF 1 5 2 = fun _ _ _ => true := by kernel_rfl
end Go.Proofs.TG
