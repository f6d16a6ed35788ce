/- Printed by a program (wip/tools/mkruns.py): the runs of the recipes. -/
import Derived.Test.YtgcfdengoenboaaGreatDoorGxWalk
namespace Go.Proofs.TG
open Go Go.Abs
set_option maxRecDepth 1000000
theorem r_4_3_2 : restF 4 3 2 = fun _ _ _ => true := by kernel_rfl
theorem r_4_3_3 : restF 4 3 3 = fun _ _ _ => true := by kernel_rfl
theorem r_4_3_4 : restF 4 3 4 = fun _ _ _ => true := by kernel_rfl
theorem r_4_4_1 : restF 4 4 1 = fun _ _ _ => true := by kernel_rfl
theorem r_4_4_2 : restF 4 4 2 = fun _ _ _ => true := by kernel_rfl
theorem r_4_4_3 : restF 4 4 3 = fun _ _ _ => true := by kernel_rfl
theorem r_4_4_4 : restF 4 4 4 = fun _ _ _ => true := by kernel_rfl
end Go.Proofs.TG
