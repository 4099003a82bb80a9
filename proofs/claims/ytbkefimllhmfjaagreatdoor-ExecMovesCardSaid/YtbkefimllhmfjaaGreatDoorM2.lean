/- The closed run gives true; the order of two rows of bytes is told by the first ones that differ. -/
import Derived.Test.YtbkefimllhmfjaaGreatDoorM1
import Derived.KernelRfl
set_option linter.unusedVariables false
set_option linter.unusedSimpArgs false
set_option linter.unusedSectionVars false
namespace Go.Am
open Go.Proofs
noncomputable section Mv
theorem awake_run : okB (interp Tryz.prog (domL F0) 3000 (.call 7 [] HG)) = true := by kernel_rfl

/-- two rows that are the same ahead of a place, and part there. -/
def mixL : Nat → List LF → List LF → List LF
  | 0, _, y => y
  | n + 1, a :: x, _ :: y => a :: mixL n x y
  | _, _, _ => []
def okV (b : Bool) (r : Option (List (Out LF))) : Bool := match r with
  | some [o] => (match o.ex with | .val (.bool c) => b == c | _ => false)
  | _ => false
def HE : AH LF := { next := 8, m := .nil }
def aheadAt (p : Nat) (lt : Bool) : Bool :=
  okV lt (interp Tryz.prog (domL ⟨40, [bif lt then ([(p, -1), (20 + p, 1)], 1) else ([(p, 1), (20 + p, -1)], 1)], []⟩) 3000 (.call 9 [.agg (u8L Fr), .agg (u8L (mixL p Fr To))] HE))
def upto : Nat → List Nat
  | 0 => []
  | n + 1 => n :: upto n
theorem ahead_eq : okV false (interp Tryz.prog (domL ⟨40, [], []⟩) 3000 (.call 9 [.agg (u8L Fr), .agg (u8L Fr)] HE)) = true := by kernel_rfl
theorem ahead_runs : (upto 20).all (fun p => aheadAt p true && aheadAt p false) = true := by kernel_rfl
end Mv
end Go.Am
