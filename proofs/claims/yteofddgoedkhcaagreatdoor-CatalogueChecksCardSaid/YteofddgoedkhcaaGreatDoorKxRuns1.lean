/- Printed by a program (wip/tools/mkruns3.py): the runs of CatalogueChecks. -/
import Derived.Test.YteofddgoedkhcaaGreatDoorKxRun
namespace Go.Proofs.TK
open Go Go.Abs
set_option maxRecDepth 1000000
theorem highK : runs (from' 7) R R = true := by kernel_rfl
theorem lowS_1_2 : runs (nr 1) (nr 2) (upTo 0) = true := by kernel_rfl
theorem lowS_1_3 : runs (nr 1) (nr 3) (upTo 0) = true := by kernel_rfl
theorem lowS_1_4 : runs (nr 1) (nr 4) (upTo 0) = true := by kernel_rfl
theorem lowS_1_5 : runs (nr 1) (nr 5) (upTo 0) = true := by kernel_rfl
theorem lowS_1_6 : runs (nr 1) (nr 6) (upTo 0) = true := by kernel_rfl
theorem lowC_2 : runs (nr 2) (upTo 0) R = true := by kernel_rfl
theorem highS_2_1 : runs (nr 2) (nr 1) (from' 65) = true := by kernel_rfl
theorem highS_2_2 : runs (nr 2) (nr 2) (from' 65) = true := by kernel_rfl
theorem highS_2_3 : runs (nr 2) (nr 3) (from' 65) = true := by kernel_rfl
theorem highC_3 : runs (nr 3) (from' 4) R = true := by kernel_rfl
theorem ok_3_1 : runs (nr 3) (nr 1) scales = true := by kernel_rfl
theorem ok_3_2 : runs (nr 3) (nr 2) scales = true := by kernel_rfl
theorem ok_3_3 : runs (nr 3) (nr 3) scales = true := by kernel_rfl
theorem lowS_4_2 : runs (nr 4) (nr 2) (upTo 0) = true := by kernel_rfl
theorem lowS_4_3 : runs (nr 4) (nr 3) (upTo 0) = true := by kernel_rfl
theorem lowS_4_4 : runs (nr 4) (nr 4) (upTo 0) = true := by kernel_rfl
theorem lowC_5 : runs (nr 5) (upTo 0) R = true := by kernel_rfl
theorem highS_5_1 : runs (nr 5) (nr 1) (from' 65) = true := by kernel_rfl
theorem highS_5_2 : runs (nr 5) (nr 2) (from' 65) = true := by kernel_rfl
theorem highS_5_3 : runs (nr 5) (nr 3) (from' 65) = true := by kernel_rfl
theorem highC_6 : runs (nr 6) (from' 5) R = true := by kernel_rfl
theorem ok_6_1 : runs (nr 6) (nr 1) scales = true := by kernel_rfl
theorem ok_6_2 : runs (nr 6) (nr 2) scales = true := by kernel_rfl
theorem ok_6_3 : runs (nr 6) (nr 3) scales = true := by kernel_rfl
theorem ok_6_4 : runs (nr 6) (nr 4) scales = true := by kernel_rfl
end Go.Proofs.TK
