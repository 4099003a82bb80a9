/-
  DERIVED. GIVEN WITH THE SEED: THE CARDS: each row of YtbkefimllhmfjaaGreatDoorRows.lean that lists a variable, with what it lists TIED to the program's text (the seventh form; the later family's looks); each row that meets fmt, with fmt's text TOLD by the authors' own Lean function (tested against real Go, not proved from fmt's source: count such statements apart). THE CARD IS WHAT COUNTS. Prove the row's statement (the work); the ties are given (YtbkefimllhmfjaaGreatDoorTie.lean); close each card by the builder's one call (the guide's Derived/Test/ToyasCard.lean, 'card_holds'). Laid BY PROGRAM, IN A SANDBOX (cutbox-door.mjs). By AI agents, Wed Nov 11 2026. No macro, syntax, notation, axiom, sorry.
-/
import Derived.Test.YtbkefimllhmfjaaGreatDoorRows
import GoSem.ClaimSeven
namespace Go.Proofs.YtbkefimllhmfjaaGreatDoor
namespace Rows

/-- THE TIED CARD OF 'vouchlaw15.ExecMoves'. -/
def execMovesCard : Claim7 := { stood := { row := execMovesRow, standIns := [], harness := (true, "b6cd57c6ee6c7970030d5cafa0bd2935bbfa9bb216d76cc911f63701f0eed415"), looks := true }, kinds := [], alts := [], laidByText := true, laidKinds := [.data, .data, .data, .data, .data, .handle], laidTests := true, laidLooks := .later }
def ExecMovesCardSaid : Prop := Claim7.holds Tryz.pinned (.plain (OpenSpec.ofChange execMovesSpec)) execMovesCard

/-- THE SECOND FORM's CARD OF 'vouchlaw15.ExecMoves'. -/
def execMovesUptoCard : Claim7 := { stood := { row := execMovesUptoRow, standIns := [], harness := (true, "b6cd57c6ee6c7970030d5cafa0bd2935bbfa9bb216d76cc911f63701f0eed415"), looks := true }, kinds := [], alts := [], laidByText := true, laidKinds := [.data, .data, .data, .data, .data, .handle], laidTests := true, laidLooks := .later }
def ExecMovesUptoCardSaid : Prop := Claim7.holds Tryz.pinned (.plain (OpenSpec.upto execMovesSpec)) execMovesUptoCard
end Rows
end Go.Proofs.YtbkefimllhmfjaaGreatDoor
