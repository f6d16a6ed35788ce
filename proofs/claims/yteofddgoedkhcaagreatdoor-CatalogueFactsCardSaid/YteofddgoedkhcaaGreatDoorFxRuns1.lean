/- Printed by a program (wip/tools/mkruns.py): the runs of the recipes. -/
import Derived.Test.YteofddgoedkhcaaGreatDoorFxWalk
namespace Go.Proofs.TF
open Go Go.Abs
set_option maxRecDepth 1000000
theorem r_2_3_1 : restF 2 3 1 = fun _ _ _ => true := by kernel_rfl
theorem r_2_3_2 : restF 2 3 2 = fun _ _ _ => true := by kernel_rfl
theorem r_2_3_3 : restF 2 3 3 = fun _ _ _ => true := by kernel_rfl
theorem r_2_3_4 : restF 2 3 4 = fun _ _ _ => true := by kernel_rfl
theorem r_3_1_1 : restF 3 1 1 = fun _ _ _ => true := by kernel_rfl
theorem r_3_1_2 : restF 3 1 2 = fun _ _ _ => true := by kernel_rfl
theorem r_3_1_3 : restF 3 1 3 = fun _ _ _ => true := by kernel_rfl
theorem r_3_1_4 : restF 3 1 4 = fun _ _ _ => true := by kernel_rfl
theorem r_3_2_1 : restF 3 2 1 = fun _ _ _ => true := by kernel_rfl
theorem r_3_2_2 : restF 3 2 2 = fun _ _ _ => true := by kernel_rfl
theorem r_3_2_3 : restF 3 2 3 = fun _ _ _ => true := by kernel_rfl
theorem r_3_2_4 : restF 3 2 4 = fun _ _ _ => true := by kernel_rfl
theorem r_3_3_1 : restF 3 3 1 = fun _ _ _ => true := by kernel_rfl
theorem r_3_3_2 : restF 3 3 2 = fun _ _ _ => true := by kernel_rfl
theorem r_3_3_3 : restF 3 3 3 = fun _ _ _ => true := by kernel_rfl
theorem r_3_3_4 : restF 3 3 4 = fun _ _ _ => true := by kernel_rfl
theorem r_4_2_1 : restF 4 2 1 = fun _ _ _ => true := by kernel_rfl
theorem r_4_2_2 : restF 4 2 2 = fun _ _ _ => true := by kernel_rfl
theorem r_4_2_3 : restF 4 2 3 = fun _ _ _ => true := by kernel_rfl
theorem r_4_2_4 : restF 4 2 4 = fun _ _ _ => true := by kernel_rfl
theorem r_4_3_1 : restF 4 3 1 = fun _ _ _ => true := by kernel_rfl
theorem r_4_3_2 : restF 4 3 2 = fun _ _ _ => true := by kernel_rfl
theorem r_4_3_3 : restF 4 3 3 = fun _ _ _ => true := by kernel_rfl
theorem r_4_3_4 : restF 4 3 4 = fun _ _ _ => true := by kernel_rfl
theorem r_4_4_1 : restF 4 4 1 = fun _ _ _ => true := by kernel_rfl
theorem r_4_4_2 : restF 4 4 2 = fun _ _ _ => true := by kernel_rfl
theorem r_4_4_3 : restF 4 4 3 = fun _ _ _ => true := by kernel_rfl
theorem r_4_4_4 : restF 4 4 4 = fun _ _ _ => true := by kernel_rfl
end Go.Proofs.TF
