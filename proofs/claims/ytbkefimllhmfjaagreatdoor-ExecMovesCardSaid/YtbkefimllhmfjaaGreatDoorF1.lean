/- The closed facts of the row, one by one. -/
import Derived.Test.YtbkefimllhmfjaaGreatDoorRows
import Derived.JoinedOf
import Derived.KernelRfl
set_option linter.unusedVariables false
set_option linter.unusedSimpArgs false
set_option linter.unusedSectionVars false
namespace Go.Proofs.YtbkefimllhmfjaaGreatDoor
open Go
abbrev factC : OpenClaim := Rows.execMovesRow
abbrev factS : ChangeSpec := (OpenSpec.ofChange Rows.execMovesSpec).bare
theorem fact1 : (factC.wf (OpenSpec.ofChange factS)) = true := by kernel_rfl
theorem fact2 : (laidOutB Tryz.prog) = true := by kernel_rfl
theorem fact3 : (mapsRowed Tryz.prog) = true := by kernel_rfl
theorem fact4 : (Tryz.f3.params.all (Tryz.prog.readableRec ·)) = true := by kernel_rfl
theorem fact5 : (namedTie Tryz.prog factC.named factS.vars) = true := by kernel_rfl
theorem fact6 : ((factC.stops == [])) = true := by kernel_rfl
theorem fact7 : ((Tryz.prog.stops == [])) = true := by kernel_rfl
theorem fact8 : ((factC.knobs == [])) = true := by kernel_rfl
theorem fact9 : ((Tryz.prog.stopKnobs == [])) = true := by kernel_rfl
theorem fact10 : ((factC.inPlace == Tryz.prog.inPlace 3)) = true := by kernel_rfl
theorem fact11 : ((factC.unfollowed == Tryz.prog.unfollowed 3)) = true := by kernel_rfl
end Go.Proofs.YtbkefimllhmfjaaGreatDoor
