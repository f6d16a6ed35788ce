/- Printed by a program (wip/tools/mkruns.py): the runs of the recipes. -/
import Derived.Test.YteofddgoedkhcaaGreatDoorFxWalk
namespace Go.Proofs.TF
open Go Go.Abs
set_option maxRecDepth 1000000
theorem r_1_2_1 : restF 1 2 1 = fun _ _ _ => true := by kernel_rfl
theorem r_1_2_2 : restF 1 2 2 = fun _ _ _ => true := by kernel_rfl
theorem r_1_2_3 : restF 1 2 3 = fun _ _ _ => true := by kernel_rfl
theorem r_1_2_4 : restF 1 2 4 = fun _ _ _ => true := by kernel_rfl
theorem r_1_3_1 : restF 1 3 1 = fun _ _ _ => true := by kernel_rfl
theorem r_1_3_2 : restF 1 3 2 = fun _ _ _ => true := by kernel_rfl
theorem r_1_3_3 : restF 1 3 3 = fun _ _ _ => true := by kernel_rfl
theorem r_1_3_4 : restF 1 3 4 = fun _ _ _ => true := by kernel_rfl
theorem r_1_4_1 : restF 1 4 1 = fun _ _ _ => true := by kernel_rfl
theorem r_1_4_2 : restF 1 4 2 = fun _ _ _ => true := by kernel_rfl
theorem r_1_4_3 : restF 1 4 3 = fun _ _ _ => true := by kernel_rfl
theorem r_1_4_4 : restF 1 4 4 = fun _ _ _ => true := by kernel_rfl
theorem r_1_5_1 : restF 1 5 1 = fun _ _ _ => true := by kernel_rfl
theorem r_1_5_2 : restF 1 5 2 = fun _ _ _ => true := by kernel_rfl
theorem r_1_5_3 : restF 1 5 3 = fun _ _ _ => true := by kernel_rfl
theorem r_1_5_4 : restF 1 5 4 = fun _ _ _ => true := by kernel_rfl
theorem r_1_6_1 : restF 1 6 1 = fun _ _ _ => true := by kernel_rfl
theorem r_1_6_2 : restF 1 6 2 = fun _ _ _ => true := by kernel_rfl
theorem r_1_6_3 : restF 1 6 3 = fun _ _ _ => true := by kernel_rfl
theorem r_1_6_4 : restF 1 6 4 = fun _ _ _ => true := by kernel_rfl
theorem r_2_1_1 : restF 2 1 1 = fun _ _ _ => true := by kernel_rfl
theorem r_2_1_2 : restF 2 1 2 = fun _ _ _ => true := by kernel_rfl
theorem r_2_1_3 : restF 2 1 3 = fun _ _ _ => true := by kernel_rfl
theorem r_2_1_4 : restF 2 1 4 = fun _ _ _ => true := by kernel_rfl
theorem r_2_2_1 : restF 2 2 1 = fun _ _ _ => true := by kernel_rfl
theorem r_2_2_2 : restF 2 2 2 = fun _ _ _ => true := by kernel_rfl
theorem r_2_2_3 : restF 2 2 3 = fun _ _ _ => true := by kernel_rfl
theorem r_2_2_4 : restF 2 2 4 = fun _ _ _ => true := by kernel_rfl
end Go.Proofs.TF
