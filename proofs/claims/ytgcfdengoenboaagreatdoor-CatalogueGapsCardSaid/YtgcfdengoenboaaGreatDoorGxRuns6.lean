/- Printed by a program (wip/tools/mkruns.py): the runs of the recipes. -/
import Derived.Test.YtgcfdengoenboaaGreatDoorGxWalk
namespace Go.Proofs.TG
open Go Go.Abs
set_option maxRecDepth 1000000
theorem r_3_3_3 : restF 3 3 3 = fun _ _ _ => true := by kernel_rfl
theorem r_3_3_4 : restF 3 3 4 = fun _ _ _ => true := by kernel_rfl
theorem r_4_2_1 : restF 4 2 1 = fun _ _ _ => true := by kernel_rfl
theorem r_4_2_2 : restF 4 2 2 = fun _ _ _ => true := by kernel_rfl
theorem r_4_2_3 : restF 4 2 3 = fun _ _ _ => true := by kernel_rfl
theorem r_4_2_4 : restF 4 2 4 = fun _ _ _ => true := by kernel_rfl
theorem r_4_3_1 : restF 4 3 1 = fun _ _ _ => true := by kernel_rfl
end Go.Proofs.TG
