/- Printed by a program (wip/tools/mkruns.py): the runs of the recipes. -/
import Derived.Test.YteofddgoedkhcaaGreatDoorFxWalk
namespace Go.Proofs.TF
open Go Go.Abs
set_option maxRecDepth 1000000
theorem r_5_1_1 : restF 5 1 1 = fun _ _ _ => true := by kernel_rfl
theorem r_5_1_2 : restF 5 1 2 = fun _ _ _ => true := by kernel_rfl
theorem r_5_1_3 : restF 5 1 3 = fun _ _ _ => true := by kernel_rfl
theorem r_5_1_4 : restF 5 1 4 = fun _ _ _ => true := by kernel_rfl
theorem r_5_2_1 : restF 5 2 1 = fun _ _ _ => true := by kernel_rfl
theorem r_5_2_2 : restF 5 2 2 = fun _ _ _ => true := by kernel_rfl
theorem r_5_2_3 : restF 5 2 3 = fun _ _ _ => true := by kernel_rfl
theorem r_5_2_4 : restF 5 2 4 = fun _ _ _ => true := by kernel_rfl
theorem r_5_3_1 : restF 5 3 1 = fun _ _ _ => true := by kernel_rfl
theorem r_5_3_2 : restF 5 3 2 = fun _ _ _ => true := by kernel_rfl
theorem r_5_3_3 : restF 5 3 3 = fun _ _ _ => true := by kernel_rfl
theorem r_5_3_4 : restF 5 3 4 = fun _ _ _ => true := by kernel_rfl
theorem r_6_1_1 : restF 6 1 1 = fun _ _ _ => true := by kernel_rfl
theorem r_6_1_2 : restF 6 1 2 = fun _ _ _ => true := by kernel_rfl
theorem r_6_1_3 : restF 6 1 3 = fun _ _ _ => true := by kernel_rfl
theorem r_6_1_4 : restF 6 1 4 = fun _ _ _ => true := by kernel_rfl
theorem r_6_2_1 : restF 6 2 1 = fun _ _ _ => true := by kernel_rfl
theorem r_6_2_2 : restF 6 2 2 = fun _ _ _ => true := by kernel_rfl
theorem r_6_2_3 : restF 6 2 3 = fun _ _ _ => true := by kernel_rfl
theorem r_6_2_4 : restF 6 2 4 = fun _ _ _ => true := by kernel_rfl
theorem r_6_3_1 : restF 6 3 1 = fun _ _ _ => true := by kernel_rfl
theorem r_6_3_2 : restF 6 3 2 = fun _ _ _ => true := by kernel_rfl
theorem r_6_3_3 : restF 6 3 3 = fun _ _ _ => true := by kernel_rfl
theorem r_6_3_4 : restF 6 3 4 = fun _ _ _ => true := by kernel_rfl
theorem r_6_4_1 : restF 6 4 1 = fun _ _ _ => true := by kernel_rfl
theorem r_6_4_2 : restF 6 4 2 = fun _ _ _ => true := by kernel_rfl
theorem r_6_4_3 : restF 6 4 3 = fun _ _ _ => true := by kernel_rfl
theorem r_6_4_4 : restF 6 4 4 = fun _ _ _ => true := by kernel_rfl
end Go.Proofs.TF
