/- The program's own text lays the listed variables: its initialisers' run, fact by fact. -/
import Derived.Test.YtbkefimllhmfjaaGreatDoorT1
import Derived.SevenTiedAt
set_option linter.unusedVariables false
set_option linter.unusedSimpArgs false
set_option linter.unusedSectionVars false
namespace Go.Proofs.YtbkefimllhmfjaaGreatDoor
open Go
theorem t7 (os : Os) (tape : Tape) : varsDone Tryz.prog 400 (varsId Tryz.prog) os tape = true := by kernel_rfl
theorem t8 (os : Os) (tape : Tape) : (DataW.laidRun Tryz.prog (varsWorld Tryz.prog 400 (varsId Tryz.prog) os tape).memory 8 ((tl.filter fun x => x.2.handleName?.isNone).map (·.1))).map (·.1) = some (tl.filter fun x => x.2.handleName?.isNone) := by kernel_rfl
theorem t9 (os : Os) (tape : Tape) : (DataW.laidRun Tryz.prog (varsWorld Tryz.prog 400 (varsId Tryz.prog) os tape).memory 8 ((tl.filter fun x => x.2.handleName?.isNone).map (·.1))).map (fun x => decide x.2.Nodup && laidRowsB Tryz.prog (varsWorld Tryz.prog 400 (varsId Tryz.prog) os tape).memory x.2) = some true := by kernel_rfl
theorem t10 (os : Os) (tape : Tape) : (tl.filter fun x => x.2.handleName?.isSome).all (handleAtB Tryz.prog (varsWorld Tryz.prog 400 (varsId Tryz.prog) os tape).memory) = true := by kernel_rfl
theorem own_tie : Tryz.prog.laidByTextLater tl [.data, .data, .data, .data, .data, .handle] true :=
  Program.laidByTextLater_by_run_h 400 8 t1 t2 t3 t4 t5 t6 t7 t8 t9 t10
theorem own_row_tie : Rows.execMovesRow.laidByTextAt .later Tryz.pinned [.data, .data, .data, .data, .data, .handle] true :=
  OpenClaim.laidByTextAt_later rfl rfl own_tie t0
end Go.Proofs.YtbkefimllhmfjaaGreatDoor
