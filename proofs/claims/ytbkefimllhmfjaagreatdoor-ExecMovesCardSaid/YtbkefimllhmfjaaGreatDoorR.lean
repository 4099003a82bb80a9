/- Each message that is refused is told to be refused. -/
import Derived.Test.YtbkefimllhmfjaaGreatDoorM1
import Derived.KernelRfl
set_option linter.unusedVariables false
set_option linter.unusedSimpArgs false
set_option linter.unusedSectionVars false
namespace Go.Am
theorem okE0 : leafOk (leafE0) = true := by kernel_rfl
theorem okE1 : leafOk (leafE1) = true := by kernel_rfl
theorem okE2 : leafOk (leafE2) = true := by kernel_rfl
theorem okE3 : leafOk (leafE3) = true := by kernel_rfl
theorem okG0_1 : leafOk (leafG0 1) = true := by kernel_rfl
theorem okG0_2 : leafOk (leafG0 2) = true := by kernel_rfl
theorem okG1_1 : leafOk (leafG1 1) = true := by kernel_rfl
theorem okG1_2 : leafOk (leafG1 2) = true := by kernel_rfl
theorem okF0_1 : leafOk (leafF0 1) = true := by kernel_rfl
theorem okF0_2 : leafOk (leafF0 2) = true := by kernel_rfl
theorem okF1_1 : leafOk (leafF1 1) = true := by kernel_rfl
theorem okF1_2 : leafOk (leafF1 2) = true := by kernel_rfl
end Go.Am
