/- Values that move between accounts without code: the ways that a run may take, each with what is known of the numbers there. -/
import Derived.Test.YtbkefimllhmfjaaGreatDoorProg
import Derived.Test.YtbkefimllhmfjaaGreatDoorA8
import Derived.Below
set_option linter.unusedVariables false
set_option linter.unusedSimpArgs false
set_option linter.unusedSectionVars false
namespace Go.Am
open Go.Proofs
noncomputable section Mv

def vL (i : Nat) : LF := ⟨0, [(i, 1)]⟩
def cL (n : Int) : LF := ⟨n, []⟩
def Fr : List LF := [vL 0, vL 1, vL 2, vL 3, vL 4, vL 5, vL 6, vL 7, vL 8, vL 9, vL 10, vL 11, vL 12, vL 13, vL 14, vL 15, vL 16, vL 17, vL 18, vL 19]
def To : List LF := [vL 20, vL 21, vL 22, vL 23, vL 24, vL 25, vL 26, vL 27, vL 28, vL 29, vL 30, vL 31, vL 32, vL 33, vL 34, vL 35, vL 36, vL 37, vL 38, vL 39]
def Ze : List LF := [cL 0, cL 0, cL 0, cL 0, cL 0, cL 0, cL 0, cL 0, cL 0, cL 0, cL 0, cL 0, cL 0, cL 0, cL 0, cL 0, cL 0, cL 0, cL 0, cL 0]
def F0 : Facts := ⟨0, [], []⟩
def u8L : List LF → List (AV LF)
  | [] => []
  | a :: r => .int .u8 a :: u8L r

/-- what package errors keeps: the type 'error'. -/
def GV : AV LF := .iface 161 (.agg [.ptr 7 36])
def HG : AH LF := { next := 8, m := Tr.nil.set 0 (.cells (Row.ofList [GV]) true) }

def okB (r : Option (List (Out LF))) : Bool := match r with
  | some [o] => (match o.ex with | .val (.bool true) => true | _ => false)
  | _ => false

def looksG (H : AH LF) : Bool :=
  Nat.ble 8 H.next && match H.blk 0 with
  | .cells row _ => Nat.ble 1 row.sz && AV.beq (domL F0) (row.get 0) GV
  | _ => false

/-- calls whose answers are known: a closed run that gives true; the order of two rows of bytes. -/
def tblM (D : Dom LF) : FuncId → List (AV LF) → AH LF → Option (AV LF) := fun f args H =>
  bif Nat.beq f 7 then (match args with
    | [] => bif looksG H then some (.bool true) else none
    | _ => none)
  else bif Nat.beq f 9 then (match args with
    | [.agg a, .agg b] => match u8s a, u8s b with
      | some x, some y => bif Nat.beq x.length 20 && Nat.beq y.length 20 then (D.lex x y).map fun n => .bool (iblt n 0) else none
      | _, _ => none
    | _ => none)
  else none

structure Leaf where
  fs : Facts
  a : List LF
  b : List LF
  bl : LF
  vl : LF
  g : LF
  e : LF

def leafOk (L : Leaf) : Bool :=
  okB (interpS Tryz.prog (domL L.fs) (tblM (domL L.fs)) 3000 (.call 3 [.agg (u8L L.a), .agg (u8L L.b), .int .u64 L.bl, .int .u64 L.vl, .int .u64 L.g, .int .i64 L.e] HG))

def gok : List (List (Nat × Int) × Int) := [([(42, 1)], 0), ([(42, -1)], -4294967295)]
def gbad : List (List (Nat × Int) × Int) := [([(42, 1)], 4294967296), ([(42, -1)], -18446744073709551615)]
def gall : List (List (Nat × Int) × Int) := [([(42, 1)], 0), ([(42, -1)], -18446744073709551615)]
def vall : List (List (Nat × Int) × Int) := [([(41, 1)], 0), ([(41, -1)], -18446744073709551615)]
def vpos : List (List (Nat × Int) × Int) := [([(41, 1)], 1), ([(41, -1)], -18446744073709551615)]
def bpos : List (List (Nat × Int) × Int) := [([(40, 1)], 1), ([(40, -1)], -18446744073709551615)]
def eneg : List (List (Nat × Int) × Int) := [([(43, 1)], -9223372036854775808), ([(43, -1)], 0)]
def ebig : List (List (Nat × Int) × Int) := [([(43, 1)], 3), ([(43, -1)], -9223372036854775807)]

/-- no engine; too much gas; more than there is. -/
def leafE0 : Leaf := ⟨⟨40, vall ++ gall ++ eneg, []⟩, Fr, To, cL 0, vL 41, vL 42, vL 43⟩
def leafE1 : Leaf := ⟨⟨40, vall ++ gall ++ ebig, []⟩, Fr, To, cL 0, vL 41, vL 42, vL 43⟩
def leafE2 : Leaf := ⟨⟨40, vall ++ gall ++ eneg ++ bpos, []⟩, Fr, To, vL 40, vL 41, vL 42, vL 43⟩
def leafE3 : Leaf := ⟨⟨40, vall ++ gall ++ ebig ++ bpos, []⟩, Fr, To, vL 40, vL 41, vL 42, vL 43⟩
def leafG0 (e : Int) : Leaf := ⟨⟨40, vall ++ gbad, []⟩, Fr, To, cL 0, vL 41, vL 42, cL e⟩
def leafG1 (e : Int) : Leaf := ⟨⟨40, vall ++ gbad ++ bpos, []⟩, Fr, To, vL 40, vL 41, vL 42, cL e⟩
def leafF0 (e : Int) : Leaf := ⟨⟨40, vpos ++ gok, []⟩, Fr, To, cL 0, vL 41, vL 42, cL e⟩
def leafF1 (e : Int) : Leaf := ⟨⟨40, vpos ++ gok ++ bpos ++ [([(40, -1), (41, 1)], 1)], []⟩, Fr, To, vL 40, vL 41, vL 42, cL e⟩

/-- how the two addresses stand. -/
structure Pat where
  a : List LF
  b : List LF
  ne : List (List LF × List LF × Int)
def pat0 : Pat := ⟨Ze, Ze, []⟩
def pat1 : Pat := ⟨Fr, Fr, [(Fr, Ze, 1)]⟩
def pat2 : Pat := ⟨Ze, To, [(To, Ze, 1)]⟩
def pat3 : Pat := ⟨Fr, Ze, [(Fr, Ze, 1)]⟩
def pat4 : Pat := ⟨Fr, To, [(Fr, To, -1), (Fr, Ze, 1), (To, Ze, 1)]⟩
def pat5 : Pat := ⟨Fr, To, [(Fr, To, 1), (Fr, Ze, 1), (To, Ze, 1)]⟩

/-- nothing there; nothing moves; all of it; a part. -/
def leafM0 (p : Pat) (e : Int) : Leaf := ⟨⟨40, gok, p.ne⟩, p.a, p.b, cL 0, cL 0, vL 42, cL e⟩
def leafM1 (p : Pat) (e : Int) : Leaf := ⟨⟨40, gok ++ bpos, p.ne⟩, p.a, p.b, vL 40, cL 0, vL 42, cL e⟩
def leafM2 (p : Pat) (e : Int) : Leaf := ⟨⟨40, gok ++ bpos, p.ne⟩, p.a, p.b, vL 40, vL 40, vL 42, cL e⟩
def leafM3 (p : Pat) (e : Int) : Leaf := ⟨⟨40, gok ++ bpos ++ vpos ++ [([(40, 1), (41, -1)], 1)], p.ne⟩, p.a, p.b, vL 40, vL 41, vL 42, cL e⟩

end Mv
end Go.Am
