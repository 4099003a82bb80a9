/- A message that moves what there is goes as it should, whichever way its two addresses stand. -/
import Derived.Test.YtbkefimllhmfjaaGreatDoorM1
import Derived.KernelRfl
set_option linter.unusedVariables false
set_option linter.unusedSimpArgs false
set_option linter.unusedSectionVars false
namespace Go.Am
theorem okM0_2_1 : leafOk (leafM0 pat2 1) = true := by kernel_rfl
theorem okM1_2_1 : leafOk (leafM1 pat2 1) = true := by kernel_rfl
theorem okM2_2_1 : leafOk (leafM2 pat2 1) = true := by kernel_rfl
theorem okM3_2_1 : leafOk (leafM3 pat2 1) = true := by kernel_rfl
theorem okM0_2_2 : leafOk (leafM0 pat2 2) = true := by kernel_rfl
theorem okM1_2_2 : leafOk (leafM1 pat2 2) = true := by kernel_rfl
theorem okM2_2_2 : leafOk (leafM2 pat2 2) = true := by kernel_rfl
theorem okM3_2_2 : leafOk (leafM3 pat2 2) = true := by kernel_rfl
end Go.Am
