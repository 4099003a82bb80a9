/- A message that moves what there is goes as it should, whichever way its two addresses stand. -/
import Derived.Test.YtbkefimllhmfjaaGreatDoorM1
import Derived.KernelRfl
set_option linter.unusedVariables false
set_option linter.unusedSimpArgs false
set_option linter.unusedSectionVars false
namespace Go.Am
theorem okM0_3_1 : leafOk (leafM0 pat3 1) = true := by kernel_rfl
theorem okM1_3_1 : leafOk (leafM1 pat3 1) = true := by kernel_rfl
theorem okM2_3_1 : leafOk (leafM2 pat3 1) = true := by kernel_rfl
theorem okM3_3_1 : leafOk (leafM3 pat3 1) = true := by kernel_rfl
theorem okM0_3_2 : leafOk (leafM0 pat3 2) = true := by kernel_rfl
theorem okM1_3_2 : leafOk (leafM1 pat3 2) = true := by kernel_rfl
theorem okM2_3_2 : leafOk (leafM2 pat3 2) = true := by kernel_rfl
theorem okM3_3_2 : leafOk (leafM3 pat3 2) = true := by kernel_rfl
end Go.Am
