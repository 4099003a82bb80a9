/- An abstract machine for programs of the model: its values, its memory, its operations, its runs. -/
import GoSem.Step
set_option linter.unusedVariables false
set_option linter.unusedSimpArgs false
set_option linter.unusedSectionVars false
namespace Go.Am
noncomputable section Am

/-! A trie over natural numbers. -/
inductive Tr (α : Type) where
  | nil
  | node (l : Tr α) (v : Option α) (r : Tr α)

namespace Tr
variable {α : Type}
noncomputable def get (t : Tr α) : Nat → Option α :=
  Tr.rec (motive := fun _ => Nat → Option α) (fun _ => none) (fun _ v _ gl gr i => Bool.rec (Bool.rec (gr (Nat.sub (Nat.div i 2) 1)) (gl (Nat.div i 2)) (Nat.beq (Nat.mod i 2) 1)) v (Nat.beq i 0)) t

noncomputable def setF (f : Nat) : Tr α → Nat → α → Tr α :=
  Nat.rec (motive := fun _ => Tr α → Nat → α → Tr α) (fun t _ _ => t) (fun _ ih t i x =>
    Tr.rec (motive := fun _ => Tr α)
      (Bool.rec (Bool.rec (.node .nil none (ih .nil (Nat.sub (Nat.div i 2) 1) x)) (.node (ih .nil (Nat.div i 2) x) none .nil) (Nat.beq (Nat.mod i 2) 1)) (.node .nil (some x) .nil) (Nat.beq i 0))
      (fun l v r _ _ => Bool.rec (Bool.rec (.node l v (ih r (Nat.sub (Nat.div i 2) 1) x)) (.node (ih l (Nat.div i 2) x) v r) (Nat.beq (Nat.mod i 2) 1)) (.node l (some x) r) (Nat.beq i 0)) t) f

theorem get_nil (i : Nat) : (nil : Tr α).get i = none := rfl
theorem get_node' (l r : Tr α) (v : Option α) (i : Nat) : (node l v r).get i = bif Nat.beq i 0 then v else bif Nat.beq (i % 2) 1 then l.get (i / 2) else r.get (i / 2 - 1) := by
  have e : (node l v r).get i = Bool.rec (motive := fun _ => Option α) (Bool.rec (motive := fun _ => Option α) (r.get (Nat.sub (Nat.div i 2) 1)) (l.get (Nat.div i 2)) (Nat.beq (Nat.mod i 2) 1)) v (Nat.beq i 0) := rfl
  rw [e]
  show _ = bif Nat.beq i 0 then v else bif Nat.beq (Nat.mod i 2) 1 then l.get (Nat.div i 2) else r.get (Nat.sub (Nat.div i 2) 1)
  cases Nat.beq i 0 <;> cases Nat.beq (Nat.mod i 2) 1 <;> rfl
theorem setF_zero (t : Tr α) (i : Nat) (x : α) : setF 0 t i x = t := rfl
theorem setF_nil' (f : Nat) (i : Nat) (x : α) : setF (f + 1) .nil i x = bif Nat.beq i 0 then .node .nil (some x) .nil else bif Nat.beq (i % 2) 1 then .node (setF f .nil (i / 2) x) none .nil else .node .nil none (setF f .nil (i / 2 - 1) x) := by
  have e : setF (f + 1) .nil i x = Bool.rec (motive := fun _ => Tr α) (Bool.rec (motive := fun _ => Tr α) (.node .nil none (setF f .nil (Nat.sub (Nat.div i 2) 1) x)) (.node (setF f .nil (Nat.div i 2) x) none .nil) (Nat.beq (Nat.mod i 2) 1)) (.node .nil (some x) .nil) (Nat.beq i 0) := rfl
  rw [e]
  show _ = (bif Nat.beq i 0 then .node .nil (some x) .nil else bif Nat.beq (Nat.mod i 2) 1 then .node (setF f .nil (Nat.div i 2) x) none .nil else .node .nil none (setF f .nil (Nat.sub (Nat.div i 2) 1) x) : Tr α)
  cases Nat.beq i 0 <;> cases Nat.beq (Nat.mod i 2) 1 <;> rfl
theorem setF_node (f : Nat) (l r : Tr α) (v : Option α) (i : Nat) (x : α) : setF (f + 1) (.node l v r) i x = bif Nat.beq i 0 then .node l (some x) r else bif Nat.beq (i % 2) 1 then .node (setF f l (i / 2) x) v r else .node l v (setF f r (i / 2 - 1) x) := by
  have e : setF (f + 1) (.node l v r) i x = Bool.rec (motive := fun _ => Tr α) (Bool.rec (motive := fun _ => Tr α) (.node l v (setF f r (Nat.sub (Nat.div i 2) 1) x)) (.node (setF f l (Nat.div i 2) x) v r) (Nat.beq (Nat.mod i 2) 1)) (.node l (some x) r) (Nat.beq i 0) := rfl
  rw [e]
  show _ = (bif Nat.beq i 0 then .node l (some x) r else bif Nat.beq (Nat.mod i 2) 1 then .node (setF f l (Nat.div i 2) x) v r else .node l v (setF f r (Nat.sub (Nat.div i 2) 1) x) : Tr α)
  cases Nat.beq i 0 <;> cases Nat.beq (Nat.mod i 2) 1 <;> rfl

noncomputable def set (t : Tr α) (i : Nat) (x : α) : Tr α := setF (Nat.log2 (i + 1) + 1) t i x
end Tr

/-! Abstract values over a number domain. -/
inductive AV (N : Type) where
  | junk
  | bool (b : Bool)
  | int (k : IntKind) (n : N)
  | str (s : List Nat)
  | ptr (b off : Nat)
  | nilp
  | slice (b off len cap : Nat) (ex : Bool) (es : Nat)
  | void
  | nils
  | map (r : Nat)
  | nilm
  | func (fn : Fn) (first captured : List (AV N))
  | yield (l : Nat)
  | nilf
  | iface (t : TypeId) (v : AV N)
  | nili
  | agg (cs : List (AV N))
  | tuple (vs : List (AV N))

def lexI : List Int → List Int → Int
  | [], [] => 0
  | [], _ :: _ => -1
  | _ :: _, [] => 1
  | a :: x, b :: y => if a = b then lexI x y else if a < b then -1 else 1

structure Dom (N : Type) where
  lit : Int → N
  toLit : N → Option Int
  beq : N → N → Bool
  bin : BinOp → IntKind → N → N → Option N
  cmp : BinOp → N → N → Option Bool
  conv : IntKind → N → Option N
  add64 : N → N → N → Option (N × N)
  sub64 : N → N → N → Option (N × N)
  eqs : List (N × N) → Option Bool
  lex : List N → List N → Option Int

def natsBeq : List Nat → List Nat → Bool
  | [], [] => true
  | a :: x, b :: y => Nat.beq a b && natsBeq x y
  | _, _ => false

mutual
def AV.beq {N : Type} (D : Dom N) : AV N → AV N → Bool
  | .junk, .junk => true
  | .bool a, .bool b => a == b
  | .int k a, .int l b => k == l && D.beq a b
  | .str a, .str b => natsBeq a b
  | .ptr a b, .ptr c d => Nat.beq a c && Nat.beq b d
  | .nilp, .nilp => true
  | .slice a b c d e f, .slice a' b' c' d' e' f' => Nat.beq a a' && Nat.beq b b' && Nat.beq c c' && Nat.beq d d' && e == e' && Nat.beq f f'
  | .void, .void => true
  | .nils, .nils => true
  | .map a, .map b => Nat.beq a b
  | .nilm, .nilm => true
  | .func f a b, .func g c d => f == g && AV.beqs D a c && AV.beqs D b d
  | .yield a, .yield b => Nat.beq a b
  | .nilf, .nilf => true
  | .iface t v, .iface u w => Nat.beq t u && AV.beq D v w
  | .nili, .nili => true
  | .agg a, .agg b => AV.beqs D a b
  | .tuple a, .tuple b => AV.beqs D a b
  | _, _ => false
def AV.beqs {N : Type} (D : Dom N) : List (AV N) → List (AV N) → Bool
  | [], [] => true
  | a :: x, b :: y => AV.beq D a b && AV.beqs D x y
  | _, _ => false
end

structure Row (N : Type) where
  sz : Nat
  c : Tr (AV N)
  z : List (AV N)

def Row.get {N : Type} (r : Row N) (j : Nat) : AV N :=
  match r.c.get j with
  | some v => v
  | none => match r.z[j % r.z.length]? with | some v => v | none => .junk
def Row.set {N : Type} (r : Row N) (j : Nat) (v : AV N) : Row N := { r with c := r.c.set j v }
def Row.ofList {N : Type} (l : List (AV N)) : Row N := { sz := l.length, c := .nil, z := l }

inductive ATarget (N : Type) where
  | fn (fn : Fn) (captured : List (AV N))
  | collected (r : Nat)

structure ADef (N : Type) where
  target : ATarget N
  args : List (AV N)

structure AEnt (N : Type) where
  key : AV N
  val : AV N
  born : Nat

structure ALoop (N : Type) where
  state : LoopState
  pending : Option Code
  n : Nat
  t : Tr (AV N)
  params : Array Tmp
  assign : Code
  body : Code
  defers : Nat

inductive ABlk (N : Type) where
  | dead
  | cells (row : Row N) (ro : Bool)
  | map (es : List (AEnt N)) (clock : Nat)
  | mapIter (m : Option Nat) (since : Nat) (seen : List Nat) (stepped : Nat)
  | loop (l : ALoop N)
  | deferred (calls : Option (List (ADef N)))

structure AH (N : Type) where
  next : Nat
  m : Tr (ABlk N)

structure AAct (N : Type) where
  n : Nat
  t : Tr (AV N)
  d : List (ADef N)

section
variable {N : Type} (P : Program) (D : Dom N)

def AV.isCell : AV N → Bool
  | .agg _ | .tuple _ | .junk => false
  | _ => true

def AV.cells : AV N → List (AV N)
  | .agg cs => cs
  | v => [v]

def undefA : AV N := .tuple []

def ofValue : Nat → Value → Option (AV N)
  | 0, _ => none
  | f + 1, v => match v with
    | .bool b => some (.bool b)
    | .int k n => some (.int k (D.lit n))
    | .string s => some (.str (s.data.toList.map UInt8.toNat))
    | .pointer none => some .nilp
    | .slice none 0 0 => some .nils
    | .map none => some .nilm
    | .func (.yield _) _ _ => none
    | .func fn a b => match a.toList.mapM (ofValue f), b.toList.mapM (ofValue f) with
      | some a, some b => some (.func fn a b)
      | _, _ => none
    | .nilFunc => some .nilf
    | .iface t v => (ofValue f v).map (.iface t)
    | .nilIface => some .nili
    | .agg cs => (cs.toList.mapM (ofValue f)).map .agg
    | .tuple vs => (vs.toList.mapM (ofValue f)).map .tuple
    | _ => none

def aeval (a : AAct N) : Operand → Option (AV N)
  | .tmp t => match a with | ⟨n, tr, _⟩ => bif Nat.blt t n then some ((tr.get t).getD undefA) else none
  | .const v => ofValue D 6 v
  | .global g => bif Nat.blt g P.globals.size then some (.ptr g 0) else none
  | .func f => some (.func (.func f) [] [])

theorem aeval_tmp (a : AAct N) (t : Tmp) : aeval P D a (.tmp t) = bif Nat.blt t a.n then some ((a.t.get t).getD undefA) else none := by
  cases a; rfl

def aput (a : AAct N) (dst : Option Tmp) (v : AV N) : Option (AAct N) :=
  match dst with
  | none => some a
  | some d => match a with | ⟨n, t, ds⟩ => bif Nat.blt d n then some ⟨n, t.set d v, ds⟩ else none

theorem aput_eq (a : AAct N) (dst : Option Tmp) (v : AV N) : aput a dst v = match dst with
  | none => some a
  | some d => bif Nat.blt d a.n then some { a with t := a.t.set d v } else none := by
  cases a; cases dst <;> rfl

def isAggT (t : TypeId) : Option Bool :=
  match P.underlying t with
  | some (.struct _) | some (.array _ _) => some true
  | some _ => some false
  | none => none
def sizeT (t : TypeId) : Option Nat := (P.info? t).map (·.size)
def zeroV (t : TypeId) : Option (AV N) := ((P.info? t).bind (·.zero)).bind (ofValue D 4)

def AH.blk (H : AH N) (i : Nat) : ABlk N := (H.m.get i).getD .dead
def AH.put (H : AH N) (i : Nat) (b : ABlk N) : AH N := { H with m := H.m.set i b }
def AH.new (H : AH N) (b : ABlk N) : Nat × AH N := (H.next, { next := H.next + 1, m := H.m.set H.next b })

def loadCellsA (H : AH N) (i off n : Nat) : Option (List (AV N)) :=
  match H.blk i with
  | .cells row _ => bif Nat.ble (off + n) row.sz then some ((List.range n).map fun j => row.get (off + j)) else none
  | _ => none

def setCells (row : Row N) (off : Nat) : List (AV N) → Row N
  | [] => row
  | v :: vs => setCells (row.set off v) (off + 1) vs

def storeCellsA (H : AH N) (i off : Nat) (vs : List (AV N)) : Option (AH N) :=
  match H.blk i with
  | .cells row false => bif Nat.ble (off + vs.length) row.sz && vs.all AV.isCell then some (H.put i (.cells (setCells row off vs) false)) else none
  | _ => none

def loadA (H : AH N) (t : TypeId) (i off : Nat) : Option (AV N) :=
  match isAggT P t with
  | some true => match sizeT P t with
    | some n => (loadCellsA H i off n).map .agg
    | none => none
  | some false => match loadCellsA H i off 1 with
    | some [v] => some v
    | _ => none
  | none => none

def storeA (H : AH N) (t : TypeId) (i off : Nat) (v : AV N) : Option (AH N) :=
  match v with
  | .junk => none
  | v => match sizeT P t with
    | some n => bif Nat.beq v.cells.length n then storeCellsA H i off v.cells else none
    | none => none

def partA (t : TypeId) (cs : List (AV N)) (off : Nat) : Option (AV N) :=
  match isAggT P t with
  | some true => (sizeT P t).map fun n => .agg ((cs.drop off).take n)
  | some false => cs[off]?
  | none => none

def setList : List (AV N) → Nat → List (AV N) → List (AV N)
  | cs, _, [] => cs
  | cs, off, v :: vs => setList (cs.set off v) (off + 1) vs

def fillA (place : Nat → Option (Nat × Nat)) (cells : List (AV N)) : List (Nat × AV N) → Option (List (AV N))
  | [] => some cells
  | (i, v) :: rest => match place i with
    | none => none
    | some (off, size) => match v with
      | .junk => none
      | v => bif Nat.beq v.cells.length size && Nat.ble (off + v.cells.length) cells.length then fillA place (setList cells off v.cells) rest else none

def evalParts (a : AAct N) (ps : Array (Nat × Operand)) : Option (List (Nat × AV N)) := ps.toList.mapM fun p => (aeval P D a p.2).map fun v => (p.1, v)

def buildA (t : TypeId) (parts : List (Nat × AV N)) : Option (AV N) :=
  match zeroV P D t with
  | some (.agg zero) => match P.underlying t with
    | some (.struct fields) => match fields.toList.mapM (fun f => (sizeT P f.type).map fun n => (f.offset, n)) with
      | some places => (fillA (places[·]?) zero parts).map .agg
      | none => none
    | some (.array _ elem) => match sizeT P elem with
      | some size => (fillA (fun i => some (i * size, size)) zero parts).map .agg
      | none => none
    | _ => none
  | _ => none

def rep : Nat → List (AV N) → List (AV N)
  | 0, _ => []
  | n + 1, z => z ++ rep n z

def buildSliceA (H : AH N) (t : TypeId) (len : Nat) (parts : List (Nat × AV N)) : Option (AV N × AH N) :=
  match P.underlying t with
  | some (.slice elem) => match sizeT P elem, zeroV P D elem with
    | some size, some z => bif Nat.ble (len * size) 1000000 && Nat.beq z.cells.length size && Nat.ble 1 size then
        match fillA (fun i => some (i * size, size)) (rep len z.cells) parts with
        | some cells => let (i, H) := H.new (.cells (Row.ofList cells) false); some (.slice i 0 len len true size, H)
        | none => none
      else none
    | _, _ => none
  | _ => none

def litOf : AV N → Option Int
  | .int _ n => D.toLit n
  | _ => none

/-! Comparison: pairs of numbers that must be equal; and whether all else is. -/
def eqA : Nat → TypeId → AV N → AV N → Option (Bool × List (N × N))
  | 0, _, _, _ => none
  | d + 1, t, x, y =>
    match P.underlying t, x, y with
    | some .bool, .bool a, .bool b => some (a == b, [])
    | some (.int _), .int k a, .int k' b => bif k == k' then some (true, [(a, b)]) else none
    | some .string, .str a, .str b => some (a == b, [])
    | some (.pointer _), .nilp, .nilp => some (true, [])
    | some (.pointer _), .nilp, .ptr _ _ => some (false, [])
    | some (.pointer _), .ptr _ _, .nilp => some (false, [])
    | some (.pointer e), .ptr i o, .ptr j p => match sizeT P e with
      | some (_ + 1) => bif Nat.beq i j then some (Nat.beq o p, []) else none
      | _ => none
    | some (.interface _), .nili, .nili => some (true, [])
    | some (.interface _), .nili, .iface _ _ => some (false, [])
    | some (.interface _), .iface _ _, .nili => some (false, [])
    | some (.interface _), .iface tx vx, .iface ty vy =>
      bif Nat.beq tx ty then (match P.info? tx with
        | some i => bif i.comparable then eqA d tx vx vy else none
        | none => none) else some (false, [])
    | some (.struct fields), .agg xs, .agg ys => bif P.stoodInHeld t then none else
        fields.toList.foldl (fun acc f => match acc with
          | none => none
          | some (b, l) => bif f.name == "_" then some (b, l) else match partA P f.type xs f.offset, partA P f.type ys f.offset with
            | some u, some v => match eqA d f.type u v with
              | some (b', l') => some (b && b', l ++ l')
              | none => none
            | _, _ => none) (some (true, []))
    | some (.array len elem), .agg xs, .agg ys => match sizeT P elem with
      | some n => (List.range len).foldl (fun acc i => match acc with
          | none => none
          | some (b, l) => match partA P elem xs (i * n), partA P elem ys (i * n) with
            | some u, some v => match eqA d elem u v with
              | some (b', l') => some (b && b', l ++ l')
              | none => none
            | _, _ => none) (some (true, []))
      | none => none
    | some (.slice _), .nils, .nils => some (true, [])
    | some (.slice _), .nils, .slice .. => some (false, [])
    | some (.slice _), .nils, .void => some (false, [])
    | some (.slice _), .slice .., .nils => some (false, [])
    | some (.slice _), .void, .nils => some (false, [])
    | some (.map _ _), .nilm, .nilm => some (true, [])
    | some (.map _ _), .nilm, .map _ => some (false, [])
    | some (.map _ _), .map _, .nilm => some (false, [])
    | some (.func _ _ _), .nilf, .nilf => some (true, [])
    | some (.func _ _ _), .nilf, .func _ _ _ => some (false, [])
    | some (.func _ _ _), .func _ _ _, .nilf => some (false, [])
    | some (.func _ _ _), .nilf, .yield _ => some (false, [])
    | some (.func _ _ _), .yield _, .nilf => some (false, [])
    | _, _, _ => none

def eqV (t : TypeId) (x y : AV N) : Option Bool :=
  match eqA P 12 t x y with
  | some (true, l) => D.eqs l
  | some (false, _) => some false
  | none => none

def isConstO : Operand → Bool
  | .const _ => true
  | _ => false

/-- the guard of '==' -/
def eqGuardA (op : BinOp) (t : TypeId) (x y : Operand) (a b : AV N) : Bool :=
  bif !(op matches .eql | .neq) then true else
  match a, b with
  | .nili, .nili => isConstO x || isConstO y
  | .agg _, .agg _ => !P.eqGuardType P.depth t
  | .junk, _ => false
  | _, .junk => false
  | _, _ => true

def bytesLess : List Nat → List Nat → Bool
  | _, [] => false
  | [], _ :: _ => true
  | a :: x, b :: y => Nat.blt a b || (Nat.beq a b && bytesLess x y)

def AV.noNum : AV N → Bool
  | .int _ _ => false
  | .str _ => false
  | .junk => false
  | _ => true

def binA (op : BinOp) (t : TypeId) (x y : AV N) : Option (AV N) :=
  match x, y with
  | .int k a, .int k' b =>
    match op with
    | .shl | .shr => (D.bin op k a b).map (.int k)
    | .eql | .neq | .lss | .leq | .gtr | .geq => bif k == k' then (D.cmp op a b).map .bool else none
    | _ => bif k == k' then (D.bin op k a b).map (.int k) else none
  | .str a, .str b => match op with
    | .add => bif Nat.ble (a.length + b.length) 1000000 then some (.str (a ++ b)) else none
    | .eql => some (.bool (natsBeq a b))
    | .neq => some (.bool (!natsBeq a b))
    | .lss => some (.bool (bytesLess a b))
    | _ => none
  | x, y => bif x.noNum then match op with
    | .eql => (eqV P D t x y).map .bool
    | .neq => (eqV P D t x y).map fun b => .bool (!b)
    | _ => none
    else none

def unA (op : UnOp) (x : AV N) : Option (AV N) :=
  match op, x with
  | .neg, .int k n => (D.bin .sub k (D.lit 0) n).map (.int k)
  | .xor, .int k n => (D.bin .xor k (D.lit (if k.signed then -1 else k.max)) n).map (.int k)
  | .not, .bool b => some (.bool (!b))
  | _, _ => none

def bytesLit : List (AV N) → Option (List Nat)
  | [] => some []
  | .int .u8 n :: r => match D.toLit n, bytesLit r with
    | some (.ofNat m), some l => bif Nat.blt m 256 then some (m :: l) else none
    | _, _ => none
  | _ => none

def convA (H : AH N) (src dst : TypeId) (x : AV N) : Option (AV N × AH N) :=
  match P.underlying src, P.underlying dst, x with
  | some _, some (.int k), .int _ n => (D.conv k n).map fun m => (.int k m, H)
  | some _, some .string, .str s => some (.str s, H)
  | some .string, some (.slice e), .str s => match P.underlying e with
    | some (.int .u8) => let (i, H) := H.new (.cells (Row.ofList (s.map fun b => .int .u8 (D.lit (Int.ofNat b)))) false); some (.slice i 0 s.length s.length false 1, H)
    | _ => none
  | some (.slice e), some .string, x => match P.underlying e with
    | some (.int .u8) => match x with
      | .nils => some (.str [], H)
      | .void => some (.str [], H)
      | .slice i o n _ _ es => bif Nat.beq es 1 then (match loadCellsA H i o n with
        | some cs => (bytesLit D cs).map fun s => (.str s, H)
        | none => none) else none
      | _ => none
    | _ => none
  | _, _, _ => none

def boundA (x : AV N) (y : Nat) : Option Nat :=
  match litOf D x with
  | some (.ofNat i) => bif Nat.ble i y then some i else none
  | _ => none

def sliceBoundsA (len cap : Nat) (lo hi mx : Option (AV N)) : Option (Nat × Nat × Nat) :=
  match (match mx with | some v => boundA D v cap | none => some cap) with
  | none => none
  | some m => match (match hi, mx with
      | some v, _ => boundA D v m
      | none, none => some len
      | none, some _ => none) with
    | none => none
    | some h => match (match lo with | some v => boundA D v h | none => some 0) with
      | none => none
      | some l => some (l, h, m)

/-- a slice of a row of cells at (i, o), of so many elements with so much room, known to be all or not. -/
def cutA (i o len cap : Nat) (ex : Bool) (es : Nat) (lo hi mx : Option (AV N)) : Option (AV N) :=
  match sliceBoundsA D len cap lo hi mx with
  | none => none
  | some (l, h, m) =>
    bif ex || mx.isSome then some (.slice i (bif Nat.beq m l then o else o + l * es) (h - l) (m - l) true es)
    else bif Nat.beq l 0 then some (.slice i o h m false es)
    else bif Nat.blt l m then some (.slice i (o + l * es) (h - l) (m - l) false es)
    else bif Nat.ble h l then some .void else none

def sliceA (t : TypeId) (x : AV N) (lo hi mx : Option (AV N)) : Option (AV N) :=
  match P.underlying t, x with
  | some (.array n elem), .ptr i o => match sizeT P elem with
    | some es => cutA D i o n n true es lo hi mx
    | none => none
  | some .string, .str s => bif mx.isSome then none else match sliceBoundsA D s.length s.length lo hi none with
    | some (l, h, _) => some (.str ((s.drop l).take (h - l)))
    | none => none
  | some (.slice elem), .slice i o n c ex es => match sizeT P elem with
    | some es' => bif Nat.beq es es' then cutA D i o n c ex es lo hi mx else none
    | none => none
  | some (.slice elem), .nils => match sizeT P elem, sliceBoundsA D 0 0 lo hi mx with
    | some _, some _ => some .nils
    | _, _ => none
  | some (.pointer arr), .ptr i o => match P.underlying arr with
    | some (.array n elem) => match sizeT P elem with
      | some es => cutA D i o n n true es lo hi mx
      | none => none
    | _ => none
  | _, _ => none

def fieldAddrA (s : TypeId) (x : AV N) (f : Nat) : Option (AV N) :=
  match P.underlying s, x with
  | some (.struct fields), .ptr i o => match fields[f]? with
    | some fd => match sizeT P fd.type with
      | some (_ + 1) => some (.ptr i (o + fd.offset))
      | _ => none
    | none => none
  | _, _ => none

def fieldA (s : TypeId) (x : AV N) (f : Nat) : Option (AV N) :=
  match P.underlying s, x with
  | some (.struct fields), .agg cs => match fields[f]? with
    | some fd => partA P fd.type cs fd.offset
    | none => none
  | _, _ => none

def indexAddrA (t : TypeId) (x ix : AV N) : Option (AV N) :=
  match litOf D ix with
  | some (.ofNat k) => match P.underlying t, x with
    | some (.array len elem), .ptr i o => match sizeT P elem with
      | some es => bif Nat.blt k len then some (.ptr i (o + k * es)) else none
      | none => none
    | some (.slice elem), .slice i o n _ _ es => match sizeT P elem with
      | some es' => bif Nat.blt k n && Nat.beq es es' then some (.ptr i (o + k * es)) else none
      | none => none
    | _, _ => none
  | _ => none

def indexA (t : TypeId) (x ix : AV N) : Option (AV N) :=
  match litOf D ix with
  | some (.ofNat k) => match P.underlying t, x with
    | some (.array len elem), .agg cs => match sizeT P elem with
      | some es => bif Nat.blt k len then partA P elem cs (k * es) else none
      | none => none
    | some .string, .str s => match s[k]? with
      | some b => some (.int .u8 (D.lit (Int.ofNat b)))
      | none => none
    | _, _ => none
  | _ => none

def makeSliceA (H : AH N) (t : TypeId) (len cap : AV N) : Option (AV N × AH N) :=
  match P.underlying t, litOf D len, litOf D cap with
  | some (.slice elem), some (.ofNat l), some (.ofNat c) => match P.info? elem, zeroV P D elem with
    | some info, some z => bif Nat.ble l c && Nat.ble (c * info.bytes) 1000000000 && Nat.ble c 1000000000 && Nat.beq z.cells.length info.size && Nat.ble 1 info.size then
        let (i, H) := H.new (.cells { sz := c * info.size, c := .nil, z := z.cells } false); some (.slice i 0 l c true info.size, H)
      else none
    | _, _ => none
  | _, _, _ => none

def lenOfA : AV N → Option Nat
  | .slice _ _ n _ _ _ => some n
  | .nils => some 0
  | .void => some 0
  | .str s => some s.length
  | _ => none

def firstCellsA (H : AH N) (es n : Nat) : AV N → Option (List (AV N))
  | .slice i o _ _ _ es' => bif Nat.beq es es' then loadCellsA H i o (n * es) else none
  | .nils => bif Nat.beq n 0 then some [] else none
  | .void => bif Nat.beq n 0 then some [] else none
  | .str s => bif Nat.beq es 1 && Nat.ble n s.length then some ((s.take n).map fun b => .int .u8 (D.lit (Int.ofNat b))) else none
  | _ => none

def isIntD : TypeDesc → Bool
  | .int _ => true
  | _ => false

def appendA (H : AH N) (argTypes : Array TypeId) (s x : AV N) : Option (AV N × AH N) :=
  match argTypes[0]?, argTypes[1]? with
  | some sType, some xType => match P.underlying sType, P.underlying xType with
    | some (.slice elem), some xd => match P.info? elem, zeroV P D elem with
      | some info, some z =>
        let es := info.size
        let zeros := isIntD xd
        match (bif zeros then (match litOf D x with | some (.ofNat l) => some l | _ => none) else lenOfA x) with
        | none => none
        | some n => bif Nat.ble (n * info.bytes) 1000000000 && Nat.ble n 1000000000 && Nat.ble 1 es && Nat.beq z.cells.length es then
          match (bif zeros then some (rep n z.cells) else firstCellsA D H es n x) with
          | none => none
          | some new => match s with
            | .nils => bif Nat.beq n 0 then some (.nils, H) else
                let (i, H) := H.new (.cells (Row.ofList new) false); some (.slice i 0 n n false es, H)
            | .slice i o sLen c ex es' => bif Nat.beq es es' && Nat.ble (sLen * info.bytes) 1000000000 && Nat.ble sLen 1000000000 then
                bif Nat.ble (sLen + n) c then
                  (match storeCellsA H i (o + sLen * es) new with
                  | some H => some (.slice i o (sLen + n) c ex es, H)
                  | none => none)
                else match loadCellsA H i o (sLen * es) with
                  | none => none
                  | some old =>
                    (match H.blk i with
                    | .cells _ ro => bif ex then
                        let (j, H) := H.new (.cells (Row.ofList (old ++ new)) false); some (.slice j 0 (sLen + n) (sLen + n) false es, H)
                      else bif ro || !new.all AV.isCell then none else
                        let H := H.put i .dead
                        let (j, H) := H.new (.cells (Row.ofList (old ++ new)) false); some (.slice j 0 (sLen + n) (sLen + n) false es, H)
                    | _ => none)
              else none
            | _ => none
          else none
      | _, _ => none
    | _, _ => none
  | _, _ => none

def copyA (H : AH N) (argTypes : Array TypeId) (dst src : AV N) : Option (AV N × AH N) :=
  match argTypes[0]? with
  | some dType => match P.underlying dType with
    | some (.slice elem) => match sizeT P elem, lenOfA src, lenOfA dst with
      | some es, some sn, some dn =>
        let n := Nat.min sn dn
        match firstCellsA D H es n src with
        | none => none
        | some cells => match dst with
          | .slice i o _ _ _ es' => bif Nat.beq es es' then (storeCellsA H i o cells).map fun H => (.int .i64 (D.lit (Int.ofNat n)), H) else none
          | .nils => bif Nat.beq n 0 then some (.int .i64 (D.lit 0), H) else none
          | _ => none
      | _, _, _ => none
    | _ => none
  | none => none

def clearA (H : AH N) (argTypes : Array TypeId) (x : AV N) : Option (AV N × AH N) :=
  match argTypes[0]? with
  | some t => match P.underlying t, x with
    | some _, .nilm => some (.tuple [], H)
    | some _, .nils => some (.tuple [], H)
    | some _, .void => some (.tuple [], H)
    | some _, .map r => match H.blk r with
      | .map _ clock => some (.tuple [], H.put r (.map [] clock))
      | _ => none
    | some (.slice elem), .slice i o n _ _ es => match zeroV P D elem with
      | some z => bif Nat.beq z.cells.length es then (storeCellsA H i o (rep n z.cells)).map fun H => (.tuple [], H) else none
      | none => none
    | _, _ => none
  | none => none

def lenA (H : AH N) (argTypes : Array TypeId) (x : AV N) : Option (AV N) :=
  match argTypes[0]? with
  | some t => match P.underlying t, x with
    | some .string, .str s => some (.int .i64 (D.lit (Int.ofNat s.length)))
    | some (.array n _), _ => some (.int .i64 (D.lit (Int.ofNat n)))
    | some (.pointer arr), _ => match P.underlying arr with
      | some (.array n _) => some (.int .i64 (D.lit (Int.ofNat n)))
      | _ => none
    | some (.slice _), .slice _ _ n _ _ _ => some (.int .i64 (D.lit (Int.ofNat n)))
    | some (.slice _), .nils => some (.int .i64 (D.lit 0))
    | some (.slice _), .void => some (.int .i64 (D.lit 0))
    | some (.map _ _), .nilm => some (.int .i64 (D.lit 0))
    | some (.map _ _), .map r => match H.blk r with
      | .map es _ => some (.int .i64 (D.lit (Int.ofNat es.length)))
      | _ => none
    | _, _ => none
  | none => none

def capA (argTypes : Array TypeId) (x : AV N) : Option (AV N) :=
  match argTypes[0]? with
  | some t => match P.underlying t, x with
    | some (.slice _), .slice _ _ _ c true _ => some (.int .i64 (D.lit (Int.ofNat c)))
    | some (.slice _), .nils => some (.int .i64 (D.lit 0))
    | _, _ => none
  | none => none

def minmaxA (lt : Bool) : AV N → AV N → Option (AV N)
  | .int k x, .int k' y => bif k == k' then (D.cmp (bif lt then .lss else .gtr) y x).map fun b => .int k (bif b then y else x) else none
  | _, _ => none

def foldMM (lt : Bool) : AV N → List (AV N) → Option (AV N)
  | x, [] => some x
  | x, y :: r => match minmaxA D lt x y with
    | some z => foldMM lt z r
    | none => none

/-! Maps. -/
def keyOk : Nat → TypeId → AV N → Bool
  | 0, _, _ => false
  | d + 1, t, v => match P.underlying t, v with
    | some (.array len elem), .agg cs => match sizeT P elem with
      | some n => (List.range len).all fun i => match partA P elem cs (i * n) with
        | some u => keyOk d elem u
        | none => false
      | none => false
    | some (.struct fields), .agg cs => fields.toList.all fun f => f.name == "_" || (match partA P f.type cs f.offset with
        | some u => keyOk d f.type u
        | none => false)
    | some (.int k), .int k' _ => k == k'
    | some .string, .str _ => true
    | some .bool, .bool _ => true
    | _, _ => false

def sameKey (k : AV N) (es : List (AEnt N)) (i : Nat) : Bool :=
  match es[i]? with
  | some e => AV.beq D k e.key
  | none => false

def findA (kt : TypeId) (k : AV N) : List (AEnt N) → Nat → Option (Option (Nat × AV N))
  | [], _ => some none
  | e :: es, i => match eqV P D kt k e.key with
    | some true => some (some (i, e.val))
    | some false => findA kt k es (i + 1)
    | none => none

def setEnt (es : List (AEnt N)) (i : Nat) (k v : AV N) : List (AEnt N) :=
  match es, i with
  | [], _ => []
  | e :: es, 0 => { e with key := k, val := v } :: es
  | e :: es, i + 1 => e :: setEnt es i k v

def lookupA (H : AH N) (t : TypeId) (x k : AV N) (ok : Bool) : Option (AV N) :=
  match P.underlying t with
  | some (.map kt et) =>
    match (match x with
      | .nilm => some []
      | .map r => match H.blk r with | .map es _ => some es | _ => none
      | _ => none) with
    | none => none
    | some es => bif keyOk P 8 kt k then
        match findA P D kt k es 0 with
        | none => none
        | some (some (_, v)) => some (bif ok then .tuple [v, .bool true] else v)
        | some none => (zeroV P D et).map fun z => bif ok then .tuple [z, .bool false] else z
      else none
  | _ => none

def mapUpdateA (H : AH N) (t : TypeId) (x k v : AV N) : Option (AH N) :=
  match P.underlying t, x with
  | some (.map kt _), .map r => match H.blk r with
    | .map es clock => bif keyOk P 8 kt k then
        match findA P D kt k es 0 with
        | none => none
        | some (some (i, _)) => bif sameKey D k es i then some (H.put r (.map (setEnt es i k v) clock)) else none
        | some none => some (H.put r (.map (es ++ [{ key := k, val := v, born := clock }]) (clock + 1)))
      else none
    | _ => none
  | _, _ => none

def deleteA (H : AH N) (argTypes : Array TypeId) (x k : AV N) : Option (AH N) :=
  match argTypes[0]? with
  | some t => match P.underlying t, x with
    | some (.map kt _), .map r => match H.blk r with
      | .map es clock => bif keyOk P 8 kt k then
          match findA P D kt k es 0 with
          | none => none
          | some (some (i, _)) => some (H.put r (.map (es.eraseIdx i) clock))
          | some none => some H
        else none
      | _ => none
    | _, _ => none
  | none => none

/-- ranging over a map: the ways it may go on. -/
def nextA (H : AH N) (x : AV N) (isString : Bool) : Option (List (AV N × AH N)) :=
  bif isString then none else
  match x with
  | .ptr r 0 => match H.blk r with
    | .mapIter none _ _ _ => some [(.tuple [.bool false], H)]
    | .mapIter (some m) since seen last => match H.blk m with
      | .map es clock =>
        bif !seen.isEmpty && !es.isEmpty && es.all (fun e => Nat.ble last e.born) then none else
        let left := es.filter fun e => !seen.any (Nat.beq e.born)
        let old := left.filter fun e => Nat.blt e.born since
        let new := left.filter fun e => Nat.ble since e.born
        let go (e : AEnt N) : AV N × AH N := (.tuple [.bool true, e.key, e.val], H.put r (.mapIter (some m) since (seen ++ [e.born]) clock))
        some ((match old with | [] => [(.tuple [.bool false], H)] | _ => []) ++ (old ++ new).map go)
      | _ => none
    | _ => none
  | _ => none

def rangeA (H : AH N) (t : TypeId) (x : AV N) : Option (AV N × AH N) :=
  match P.underlying t, x with
  | some (.map _ _), .nilm => let (i, H) := H.new (.mapIter none 0 [] 0); some (.ptr i 0, H)
  | some (.map _ _), .map m => match H.blk m with
    | .map _ clock => let (i, H) := H.new (.mapIter (some m) clock [] clock); some (.ptr i 0, H)
    | _ => none
  | _, _ => none

def entryA (H : AH N) (x : AV N) : Option (AV N) :=
  match x with
  | .ptr r 0 => match H.blk r with
    | .mapIter (some m) _ seen stepped => match seen.getLast?, H.blk m with
      | some stamp, .map es clock => bif Nat.beq clock stepped then
          match es.find? (fun e => Nat.beq e.born stamp) with
          | some e => some (.tuple [e.key, e.val])
          | none => none
        else none
      | _, _ => none
    | _ => none
  | _ => none

def mapEntryA (H : AH N) (t : TypeId) (x k : AV N) : Option (AV N × AH N) :=
  match P.underlying t, x with
  | some (.map kt et), .map r => match H.blk r with
    | .map es clock => bif keyOk P 8 kt k then
        match findA P D kt k es 0 with
        | none => none
        | some (some (i, v)) => match es[i]? with
          | some e => bif sameKey D k es i then some (.tuple [v, .int .i64 (D.lit (Int.ofNat e.born))], H.put r (.map (setEnt es i k v) clock)) else none
          | none => none
        | some none => (zeroV P D et).map fun z => (.tuple [z, .int .i64 (D.lit (Int.ofNat clock))], H.put r (.map (es ++ [{ key := k, val := z, born := clock }]) (clock + 1)))
      else none
    | _ => none
  | _, _ => none

def findBorn (n : Nat) : List (AEnt N) → Nat → Option Nat
  | [], _ => none
  | e :: es, i => bif Nat.beq e.born n then some i else findBorn n es (i + 1)

def entryStoreA (H : AH N) (x stamp v : AV N) : Option (AH N) :=
  match x with
  | .map r => match H.blk r, litOf D stamp with
    | .map es clock, some (.ofNat n) => match findBorn n es 0 with
      | some i => match es[i]? with
        | some e => some (H.put r (.map (setEnt es i e.key v) clock))
        | none => none
      | none => none
    | _, _ => none
  | _ => none

/-- does a type lack a method of an interface's? -/
def lacks (want : Array (String × TypeId)) (got : Array Method) : Bool := want.toList.any fun x => !got.any fun m => m.name == x.1 && m.sig == x.2

def typeAssertA (x : AV N) (asserted : TypeId) (ok : Bool) : Option (AV N) :=
  let holds (v : AV N) : AV N := bif ok then .tuple [v, .bool true] else v
  let fails : Option (AV N) := bif ok then (zeroV P D asserted).map fun z => .tuple [z, .bool false] else none
  match P.underlying asserted, x with
  | some (.interface _), .nili => fails
  | some (.interface want), .iface t v => match P.info? t with
    | some i => bif lacks want i.methods then fails else some (holds (.iface t v))
    | none => none
  | some _, .nili => fails
  | some _, .iface t v => bif Nat.beq t asserted then some (holds v) else fails
  | _, _ => none

/-! Functions that have no Go body. -/
def bytesCellsA (H : AH N) : AV N → Option (List (AV N))
  | .slice i o n _ _ es => bif Nat.beq es 1 then loadCellsA H i o n else none
  | .nils => some []
  | .void => some []
  | _ => none

def u8s : List (AV N) → Option (List N)
  | [] => some []
  | .int .u8 a :: x => match u8s x with
    | some l => some (a :: l)
    | none => none
  | _ => none

/-- what looks at the program alone -/
def prun {α : Type} (P : Program) : Sem α → Option α
  | .pure a => some a
  | .program k => prun P (k P)
  | .mark _ k => prun P k
  | _ => none

def toTypeA (t : TypeId) : Option (AV N) :=
  match prun P (cutType "internal/reflectlite.rtype") with
  | some rt => some (.iface rt (.agg [.ptr P.globals.size t]))
  | none => none

def mkA (t : TypeId) (i o flags : Nat) : Option (AV N) :=
  match prun P (Extern.Rtype.kind t) with
  | some k => some (.agg [.ptr P.globals.size t, .ptr i o, .int .u64 (D.lit (Int.ofNat (k + 128 + flags)))])
  | none => none

def unpackA (H : AH N) : AV N → Option (AV N × AH N)
  | .iface _ .junk => none
  | .iface t v => bif v.cells.all AV.isCell then
      let (i, H) := H.new (.cells (Row.ofList v.cells) false)
      (mkA P D t i 0 0).map fun v => (v, H)
    else none
  | _ => none

def partsAnyA : List (AV N) → Option (TypeId × Nat × Nat × Nat)
  | [.agg [.ptr g t, .ptr i o, .int .u64 f]] => match D.toLit f with
    | some (.ofNat (n + 1)) => bif Nat.beq g P.globals.size then some (t, i, o, n + 1) else none
    | _ => none
  | _ => none

def partsA (l : List (AV N)) : Option (TypeId × Nat × Nat × Nat) :=
  match partsAnyA P D l with
  | some (t, i, o, fl) => match prun P (Extern.Rtype.noPack "a Value asked or handed on" t) with
    | some _ => some (t, i, o, fl)
    | none => none
  | none => none

def rtypeA : AV N → Option TypeId
  | .agg [.ptr g t] => bif Nat.beq g P.globals.size then match prun P (Extern.Rtype.noPack "a Type asked or handed on" t) with
    | some _ => some t
    | none => none else none
  | _ => none

def relationA (f : TypeId → TypeId → Sem Bool) (args : List (AV N)) : Option (AV N) :=
  match args with
  | [r, .iface _ u] => match rtypeA P u, rtypeA P r with
    | some u, some t => (prun P (f u t)).map .bool
    | _, _ => none
  | _ => none

def isNilA : AV N → Option Bool
  | .nilf => some true
  | .nili => some true
  | .nilm => some true
  | .nilp => some true
  | .nils => some true
  | .ptr _ _ => some false
  | .iface _ _ => some false
  | .map _ => some false
  | .slice .. => some false
  | _ => none

def xAdd64 (H : AH N) (args : List (AV N)) : Option (AV N × AH N) :=
    match args with
    | [.int .u64 x, .int .u64 y, .int .u64 c] => (D.add64 x y c).map fun (s, k) => (.tuple [.int .u64 s, .int .u64 k], H)
    | _ => none

def xSub64 (H : AH N) (args : List (AV N)) : Option (AV N × AH N) :=
    match args with
    | [.int .u64 x, .int .u64 y, .int .u64 c] => (D.sub64 x y c).map fun (s, k) => (.tuple [.int .u64 s, .int .u64 k], H)
    | _ => none

def xCompare (H : AH N) (args : List (AV N)) : Option (AV N × AH N) :=
    match args with
    | [a, b] => match bytesCellsA H a, bytesCellsA H b with
      | some x, some y => match u8s x, u8s y with
        | some x, some y => (D.lex x y).map fun n => (.int .i64 (D.lit n), H)
        | _, _ => none
      | _, _ => none
    | _ => none

def xTypeOf (H : AH N) (args : List (AV N)) : Option (AV N × AH N) :=
    match args with
    | [.nili] => some (.nili, H)
    | [.iface t _] => (toTypeA P t).map fun v => (v, H)
    | _ => none

def xComparable (H : AH N) (args : List (AV N)) : Option (AV N × AH N) :=
    match args with
    | [r] => match rtypeA P r with
      | some t => (prun P (do Extern.Rtype.noPackHeld "Comparable" t; pure (← typeInfo t).comparable)).map fun b => (.bool b, H)
      | none => none
    | _ => none

def xElem (H : AH N) (args : List (AV N)) : Option (AV N × AH N) :=
    match args with
    | [r] => match rtypeA P r with
      | some t => match prun P (Extern.Rtype.elem? t) with
        | some (some e) => (toTypeA P e).map fun v => (v, H)
        | _ => none
      | none => none
    | _ => none

def xImplements (H : AH N) (args : List (AV N)) : Option (AV N × AH N) :=
    (relationA P Extern.ReflectliteType.implements_ args).map fun v => (v, H)

def xAssignable (H : AH N) (args : List (AV N)) : Option (AV N × AH N) :=
    (relationA P Extern.ReflectliteType.assignableTo args).map fun v => (v, H)

def xKind (H : AH N) (args : List (AV N)) : Option (AV N × AH N) :=
    match args with
    | [.ptr g t] => bif Nat.beq g P.globals.size then match prun P (Extern.Rtype.noPack "a method of abi.Type" t), prun P (Extern.Rtype.kind t) with
      | some _, some k => some (.int .u8 (D.lit (Int.ofNat k)), H)
      | _, _ => none else none
    | _ => none

def xValueOf (H : AH N) (args : List (AV N)) : Option (AV N × AH N) :=
    match args with
    | [v] => unpackA P D H v
    | _ => none

def xVType (H : AH N) (args : List (AV N)) : Option (AV N × AH N) :=
    match partsAnyA P D args with
    | some (t, _, _, _) => (toTypeA P t).map fun v => (v, H)
    | none => none

def xVKind (H : AH N) (args : List (AV N)) : Option (AV N × AH N) :=
    match partsA P D args with
    | some (_, _, _, fl) => some (.int .u8 (D.lit (Int.ofNat (fl % 32))), H)
    | none => none

def xVIsNil (H : AH N) (args : List (AV N)) : Option (AV N × AH N) :=
    match partsA P D args with
    | some (t, i, o, fl) => bif Nat.beq (fl % 32) 22 then match loadA P H t i o with
      | some v => (isNilA v).map fun b => (.bool b, H)
      | none => none else none
    | none => none

def xVElem (H : AH N) (args : List (AV N)) : Option (AV N × AH N) :=
    match partsA P D args with
    | some (t, i, o, fl) => bif Nat.beq (fl % 32) 22 then match loadA P H t i o, prun P (Extern.Rtype.elem? t) with
      | some (.ptr j p), some (some e) => (mkA P D e j p 256).map fun v => (v, H)
      | _, _ => none else none
    | none => none

def xVSet (H : AH N) (args : List (AV N)) : Option (AV N × AH N) :=
    match args with
    | [v, x] => match partsA P D [v], partsA P D [x] with
      | some (dst, i, o, fl), some (src, j, p, _) => bif Nat.beq (fl / 256 % 2) 1 then match loadA P H src j p, prun P (Extern.Rtype.directlyAssignable dst src) with
          | some val, some true => (storeA P H dst i o val).map fun H => (.tuple [], H)
          | _, _ => none else none
      | _, _ => none
    | _ => none

def externA (H : AH N) (name : String) (args : List (AV N)) : Option (AV N × AH N) :=
  bif name == "math/bits.Add64" then xAdd64 D H args
  else bif name == "math/bits.Sub64" then xSub64 D H args
  else bif name == "internal/bytealg.Compare" then xCompare D H args
  else bif name == "internal/reflectlite.TypeOf" then xTypeOf P H args
  else bif name == "(internal/reflectlite.rtype).Comparable" then xComparable P H args
  else bif name == "(internal/reflectlite.rtype).Elem" then xElem P H args
  else bif name == "(internal/reflectlite.rtype).Implements" then xImplements P H args
  else bif name == "(internal/reflectlite.rtype).AssignableTo" then xAssignable P H args
  else bif name == "(*internal/abi.Type).Kind" then xKind P D H args
  else bif name == "internal/reflectlite.ValueOf" then xValueOf P D H args
  else bif name == "(internal/reflectlite.Value).Type" then xVType P D H args
  else bif name == "(internal/reflectlite.Value).Kind" then xVKind P D H args
  else bif name == "(internal/reflectlite.Value).IsNil" then xVIsNil P D H args
  else bif name == "(internal/reflectlite.Value).Elem" then xVElem P D H args
  else bif name == "(internal/reflectlite.Value).Set" then xVSet P D H args
  else none

/-! One operation. -/
inductive ORes (N : Type) where
  | val (v : AV N) (H : AH N)
  | enter (f : FuncId) (args : List (AV N))
  | round (l : Nat) (args : List (AV N))
  | defer (d : ADef N)
  | panic (v : AV N)
  | recover

def ov (r : Option (AV N × AH N)) : Option (ORes N) := r.map fun (v, H) => .val v H
def ow (H : AH N) (r : Option (AV N)) : Option (ORes N) := r.map fun v => .val v H
def ou (r : Option (AH N)) : Option (ORes N) := r.map fun H => .val undefA H

def funcA (H : AH N) (f : FuncId) (args : List (AV N)) : Option (ORes N) :=
  match P.funcs[f]? with
  | none => none
  | some fn => bif fn.name == "runtime.NumGoroutine" then none else
    match fn.body with
    | some _ => some (.enter f args)
    | none => bif fn.origin == "" then ov (externA P D H fn.name args) else none

def followA : List FieldStep → TypeId → AV N → Option (TypeId × AV N)
  | [], t, v => some (t, v)
  | s :: rest, _, v => bif s.deref then none else match P.underlying s.struct, v with
    | some (.struct fields), .agg cs => match fields[s.index]? with
      | some f => match partA P f.type cs f.offset with
        | some u => followA rest f.type u
        | none => none
      | none => none
    | _, _ => none

def methodA (t : TypeId) (v : AV N) (name : String) : Option (FuncId × AV N) :=
  match P.info? t with
  | none => none
  | some i => match i.methods.find? (·.name == name) with
    | none => none
    | some m => match followA P m.path.toList t v, m.func with
      | some (xt, x), some (f, ptr) => match P.underlying xt, ptr, x with
        | some (.pointer _), true, .ptr i o => some (f, .ptr i o)
        | some (.pointer _), _, _ => none
        | some _, false, .junk => none
        | some _, false, x => some (f, x)
        | _, _, _ => none
      | _, _ => none

def callValA (H : AH N) (f : AV N) (args : List (AV N)) : Option (ORes N) :=
  match f with
  | .func (.func f) first cap => funcA P D H f (first ++ args ++ cap)
  | .yield l => some (.round l args)
  | .func (.method name) first _ => match first ++ args with
    | .iface t v :: rest => match methodA P t v name with
      | some (f, r) => funcA P D H f (r :: rest)
      | none => none
    | _ => none
  | _ => none

def builtinA (H : AH N) (b : Builtin) (argTypes : Array TypeId) (args : List (AV N)) : Option (ORes N) :=
  match b, args with
  | .append, [s, x] => ov (appendA P D H argTypes s x)
  | .len, [x] => ow H (lenA P D H argTypes x)
  | .copy, [d, s] => ov (copyA P D H argTypes d s)
  | .clear, [x] => ov (clearA P D H argTypes x)
  | .delete, [m, k] => (deleteA P D H argTypes m k).map fun H => .val (.tuple []) H
  | .min, x :: r => ow H (foldMM D true x r)
  | .max, x :: r => ow H (foldMM D false x r)
  | .recover, [] => some .recover
  | .cap, [x] => ow H (capA P D argTypes x)
  | _, _ => none

def opA (a : AAct N) (H : AH N) (o : Oper) : Option (ORes N) :=
  let ev := aeval P D a
  match o.op with
  | .move x | .assign x => match ev x with | some v => ow H (some v) | none => none
  | .pick c x y => match ev c, ev x, ev y with
    | some (.bool b), some u, some v => ow H (some (bif b then u else v))
    | _, _, _ => none
  | .alloc e => match zeroV P D e with
    | some z => match sizeT P e with
      | some n => bif Nat.beq z.cells.length n && z.cells.all AV.isCell then let (i, H) := H.new (.cells (Row.ofList z.cells) false); ow H (some (.ptr i 0)) else none
      | none => none
    | none => none
  | .box _ x => match ev x with
    | some .junk => none
    | some v => bif v.cells.all AV.isCell then let (i, H) := H.new (.cells (Row.ofList v.cells) false); ow H (some (.ptr i 0)) else none
    | none => none
  | .build t ps => match evalParts P D a ps with | some l => ow H (buildA P D t l) | none => none
  | .buildSlice t len ps => match evalParts P D a ps with | some l => ov (buildSliceA P D H t len l) | none => none
  | .load t x => match ev x with | some (.ptr i o) => ow H (loadA P H t i o) | _ => none
  | .store t x v => match ev x, ev v with | some (.ptr i o), some v => ou (storeA P H t i o v) | _, _ => none
  | .nilCheck x => match ev x with
    | some (.ptr i o) => ow H (some (.ptr i o))
    | some (.iface t v) => ow H (some (.iface t v))
    | some (.func (.func f) x y) => ow H (some (.func (.func f) x y))
    | some (.yield l) => ow H (some (.yield l))
    | _ => none
  | .binOp op t x y _ => match ev x, ev y with
    | some u, some v => bif eqGuardA P op t x y u v then ow H (binA P D op t u v) else none
    | _, _ => none
  | .unOp op _ x => match ev x with | some v => ow H (unA D op v) | none => none
  | .convert s d x => match ev x with | some v => ov (convA P D H s d v) | none => none
  | .sliceToArrayPointer arr x => match ev x, P.underlying arr with
    | some (.slice i o n _ _ es), some (.array m e) => bif Nat.ble m n && (match sizeT P e with | some z => Nat.beq z es | none => false) then ow H (some (.ptr i o)) else none
    | _, _ => none
  | .makeInterface t x => match P.underlying t, ev x with
    | some (.interface _), _ => none
    | some _, some v => ow H (some (.iface t v))
    | _, _ => none
  | .makeFunc fn first cap => match fn, first.toList.mapM ev, cap.toList.mapM ev with
    | .yield _, _, _ => none
    | fn, some x, some y => ow H (some (.func fn x y))
    | _, _, _ => none
  | .makeMap t r => match r with
    | none => let (i, H) := H.new (.map [] 0); ow H (some (.map i))
    | some r => match P.underlying t, ev r with
      | some (.map _ _), some (.int _ _) => let (i, H) := H.new (.map [] 0); ow H (some (.map i))
      | _, _ => none
  | .makeSlice t l c => match ev l, ev c with | some l, some c => ov (makeSliceA P D H t l c) | _, _ => none
  | .slice t x lo hi mx => match ev x, lo.mapM ev, hi.mapM ev, mx.mapM ev with
    | some x, some lo, some hi, some mx => ow H (sliceA P D t x lo hi mx)
    | _, _, _, _ => none
  | .fieldAddr s x f => match ev x with | some x => ow H (fieldAddrA P s x f) | none => none
  | .field s x f => match ev x with | some x => ow H (fieldA P s x f) | none => none
  | .indexAddr t x i => match ev x, ev i with | some x, some i => ow H (indexAddrA P D t x i) | _, _ => none
  | .index t x i => match ev x, ev i with | some x, some i => ow H (indexA P D t x i) | _, _ => none
  | .lookup t x k ok => match ev x, ev k with | some x, some k => ow H (lookupA P D H t x k ok) | _, _ => none
  | .mapUpdate t m k v => match ev m, ev k, ev v with | some m, some k, some v => ou (mapUpdateA P D H t m k v) | _, _, _ => none
  | .mapEntry t m k => match ev m, ev k with | some m, some k => ov (mapEntryA P D H t m k) | _, _ => none
  | .entryStore _ m s v => match ev m, ev s, ev v with | some m, some s, some v => ou (entryStoreA D H m s v) | _, _, _ => none
  | .range t x => match ev x with | some x => ov (rangeA P H t x) | none => none
  | .entry x => match ev x with | some x => ow H (entryA H x) | none => none
  | .typeAssert x _ t ok => match ev x with | some x => ow H (typeAssertA P D x t ok) | none => none
  | .extract x i => match ev x with | some (.tuple vs) => ow H (vs[i]?) | _ => none
  | .call c => match c.args.toList.mapM ev with
    | none => none
    | some args => match c.callee with
      | .builtin b => builtinA P D H b c.argTypes args
      | .value f => match ev f with
        | some f => callValA P D H f args
        | none => none
      | .invoke r name => match ev r with
        | some (.iface t v) => match methodA P t v name with
          | some (f, rv) => funcA P D H f (rv :: args)
          | none => none
        | _ => none
  | .defer c => match c.callee, c.args.toList.mapM ev with
    | .value f, some args => match ev f with
      | some (.func (.func g) first cap) => some (.defer { target := .fn (.func g) cap, args := first ++ args })
      | _ => none
    | _, _ => none
  | .panic x => match ev x with
    | some (.iface t v) => some (.panic (.iface t v))
    | _ => none
  | _ => none

/-! What an operation does to memory. -/
inductive OK where
  | pure | read | alloc | eff
  deriving DecidableEq

def kindO : Op → OK
  | .move _ | .assign _ | .pick .. | .nilCheck _ | .binOp .. | .unOp .. | .fieldAddr .. | .field .. | .indexAddr .. | .index .. | .extract .. | .build .. | .slice .. | .makeInterface .. | .makeFunc .. | .typeAssert .. | .sliceToArrayPointer .. => .pure
  | .load .. | .lookup .. | .entry _ => .read
  | .alloc _ | .box .. | .buildSlice .. | .makeMap .. | .makeSlice .. => .alloc
  | .convert s d _ => match P.underlying s, P.underlying d with
    | some .string, some (.slice _) => .alloc
    | some (.slice _), _ => .read
    | _, _ => .pure
  | .call c => match c.callee with
    | .builtin .len => .read
    | .builtin .cap | .builtin .min | .builtin .max => .pure
    | _ => .eff
  | _ => .eff

end
end Am
end Go.Am

namespace Go.Am
noncomputable section Am

inductive AEx (N : Type) where
  | normal
  | exit (id : Nat)
  | goto (l : Nat)
  | ret
  | val (v : AV N)

structure Out (N : Type) where
  ex : AEx N
  a : AAct N
  H : AH N

inductive Task (N : Type) where
  | code (r : Option Nat) (c : Code) (a : AAct N) (H : AH N)
  | scope (r : Option Nat) (whole cur : Code) (a : AAct N) (H : AH N)
  | rounds (r : Option Nat) (b : Code) (a : AAct N) (H : AH N)
  | call (f : FuncId) (args : List (AV N)) (H : AH N)
  | round (l : Nat) (args : List (AV N)) (H : AH N)

section
variable {N : Type} (P : Program) (D : Dom N)

def entsBeq : List (AEnt N) → List (AEnt N) → Bool
  | [], [] => true
  | a :: x, b :: y => AV.beq D a.key b.key && AV.beq D a.val b.val && Nat.beq a.born b.born && entsBeq x y
  | _, _ => false

def optNatBeq : Option Nat → Option Nat → Bool
  | none, none => true
  | some a, some b => Nat.beq a b
  | _, _ => false

def ABlk.beq : ABlk N → ABlk N → Bool
  | .cells r ro, .cells s so => Nat.beq r.sz s.sz && ro == so && (List.range r.sz).all fun j => AV.beq D (r.get j) (s.get j)
  | .map a c, .map b d => entsBeq D a b && Nat.beq c d
  | .mapIter a b c d, .mapIter a' b' c' d' => optNatBeq a a' && Nat.beq b b' && natsBeq c c' && Nat.beq d d'
  | .deferred none, .deferred none => true
  | .deferred (some []), .deferred (some []) => true
  | _, _ => false

def mergeTr : Tr (ABlk N) → Tr (ABlk N) → Tr (ABlk N)
  | .nil, _ => .nil
  | _, .nil => .nil
  | .node l v r, .node l' v' r' => .node (mergeTr l l') (match v, v' with | some a, some b => bif ABlk.beq D a b then some a else none | _, _ => none) (mergeTr r r')

def mergeH (H H' : AH N) : AH N := { next := Nat.max H.next H'.next, m := mergeTr D H.m H'.m }

/-- all outcomes of a call as one. -/
def merge : Out N → List (Out N) → Option (Out N)
  | o, [] => some o
  | o, o' :: rest => match o.ex, o'.ex with
    | .val v, .val v' => bif AV.beq D v v' then merge { o with H := mergeH D o.H o'.H } rest else none
    | _, _ => none

def mergeAll : List (Out N) → Option (List (Out N))
  | [] => none
  | [o] => some [o]
  | o :: rest => (merge D o rest).map fun o => [o]

/-- each of some outcomes goes on. -/
def eachOut (f : Out N → Option (List (Out N))) : List (Out N) → Option (List (Out N))
  | [] => some []
  | o :: rest => match f o, eachOut f rest with
    | some l, some l' => some (l ++ l')
    | _, _ => none

/-- is an operation wanted? -/
def wantedA (ops : Array Oper) (a : AAct N) (o : Oper) : Option Bool :=
  match o.guard with
  | none => some true
  | some (j, want) => match (ops[j]?).bind (·.dst) with
    | none => some false
    | some d => bif Nat.blt d a.n then match (a.t.get d).getD undefA with
        | .bool b => some (b == want)
        | .junk => none
        | _ => some false
      else some false

def valOut (o : Out N) : Option (AV N × Option (ADef N) × AH N) :=
  match o.ex with
  | .val v => some (v, none, o.H)
  | _ => none

/-- one operation that is wanted: what it may yield. -/
def oneB (rec : Task N → Option (List (Out N))) (r : Option Nat) (a : AAct N) (H : AH N) (o : Oper) : Option (List (AV N × Option (ADef N) × AH N)) :=
  match o.op with
  | .next x isString => match aeval P D a x with
    | some v => (nextA H v isString).map fun l => l.map fun p => (p.1, none, p.2)
    | none => none
  | _ => match opA P D a H o with
    | some (.val v H) => some [(v, none, H)]
    | some (.enter f args) => match rec (.call f args H) with
      | some l => l.mapM valOut
      | none => none
    | some (.round l args) => match rec (.round l args H) with
      | some l => l.mapM valOut
      | none => none
    | some (.defer d) => match r with
      | none => some [(undefA, some d, H)]
      | some _ => none
    | _ => none

def pushD (a : AAct N) : Option (ADef N) → AAct N
  | none => a
  | some d => match a with | ⟨n, t, ds⟩ => ⟨n, t, d :: ds⟩

def putB (a : AAct N) (dst : Option Tmp) (x : AV N × Option (ADef N) × AH N) : Option (Out N) :=
  (aput (pushD a x.2.1) dst x.1).map fun a => { ex := .normal, a := a, H := x.2.2 }

/-- one operation that is wanted: its outcomes. -/
def oneA (rec : Task N → Option (List (Out N))) (r : Option Nat) (a : AAct N) (H : AH N) (o : Oper) : Option (List (Out N)) :=
  match oneB P D rec r a H o with
  | some l => l.mapM (putB a o.dst)
  | none => none

def seqOps (rec : Task N → Option (List (Out N))) (r : Option Nat) (ops : Array Oper) : List Oper → AAct N → AH N → Option (List (Out N))
  | [], a, H => some [{ ex := .normal, a := a, H := H }]
  | o :: rest, a, H => match wantedA ops a o with
    | none => none
    | some false => match aput a o.dst undefA with
      | some a => seqOps rec r ops rest a H
      | none => none
    | some true => match oneA P D rec r a H o with
      | none => none
      | some l => eachOut (fun x => match x.ex with
          | .normal => seqOps rec r ops rest x.a x.H
          | _ => some [x]) l

/-! A region that draws its order. -/
def tmpsOf (o : Oper) : List Tmp := o.op.operands.toList.filterMap fun | .tmp t => some t | _ => none

def allIdx {α : Type} (f : Nat → α → Bool) : Nat → List α → Bool
  | _, [] => true
  | i, x :: l => f i x && allIdx f (i + 1) l

/-- two operations of a region, the first ahead of the second in the text. -/
def pairOk (bef : Array Nat) (i : Nat) (o : Oper) (j : Nat) (u : Oper) : Bool :=
  (match kindO P o.op, kindO P u.op with
    | .eff, .eff => (bef.getD j 0).testBit i
    | _, _ => true) &&
  (match o.dst, u.dst with
    | some d, some e => !(Nat.beq d e)
    | _, _ => true) &&
  (match o.dst with
    | some d => !((tmpsOf u).any (Nat.beq d)) || (bef.getD j 0).testBit i
    | none => true) &&
  (match u.dst with
    | some d => !((tmpsOf o).any (Nat.beq d)) || (bef.getD j 0).testBit i
    | none => true)

def soleOk (bef : Array Nat) (i : Nat) (o : Oper) : Bool :=
  (match o.dst with
    | some d => !((tmpsOf o).any (Nat.beq d))
    | none => true) &&
  (match o.guard with
    | some (j, _) => (bef.getD i 0).testBit j && Nat.blt j i
    | none => true) &&
  o.after.toList.all fun e => !Region.binds .any e || Nat.blt e.on i

/-- may this region be walked in one order for all? -/
def regionOk (ops : Array Oper) : Bool :=
  let bef := Region.before ops
  let l := ops.toList
  allIdx (fun i o => soleOk bef i o && allIdx (fun j u => Nat.ble j i || pairOk P bef i o j u) 0 l) 0 l

structure DSt (N : Type) where
  done : Nat
  a : AAct N
  H : AH N
  hist : List (Nat × AH N)     -- behind 0, 1, .. effects: what was done; the heap

/-- the operations that are effects. -/
def effMask : List Oper → Nat → Nat
  | [], _ => 0
  | o :: rest, i => (match kindO P o.op with | .eff => 2 ^ i | _ => 0) ||| effMask rest (i + 1)

def checkReads (a : AAct N) (o : Oper) (v : AV N) (need : Nat) : List (Nat × AH N) → Bool
  | [] => true
  | (m, H) :: rest => (bif Nat.beq (need &&& m) need then (match opA P D a H o with
    | some (.val u _) => AV.beq D u v
    | _ => false) else true) && checkReads a o v need rest

/-- one operation of the canonical order. -/
def stepD (rec : Task N → Option (List (Out N))) (r : Option Nat) (ops : Array Oper) (bef : Array Nat) (base em i : Nat) (s : DSt N) : Option (DSt N) :=
  match ops[i]? with
  | none => none
  | some o => bif s.done.testBit i then none else
    match kindO P o.op with
    | .eff => bif Nat.beq s.done (bef.getD i 0) then
        match wantedA ops s.a o with
        | none => none
        | some false => (aput s.a o.dst undefA).map fun a => { done := s.done ||| 2 ^ i, a := a, H := s.H, hist := s.hist ++ [(s.done ||| 2 ^ i, s.H)] }
        | some true => match oneB P D rec r s.a s.H o with
          | some [x] => (aput (pushD s.a x.2.1) o.dst x.1).map fun a => { done := s.done ||| 2 ^ i, a := a, H := x.2.2, hist := s.hist ++ [(s.done ||| 2 ^ i, x.2.2)] }
          | _ => none
      else none
    | k => bif Nat.beq (bef.getD i 0 &&& s.done) (bef.getD i 0) then
        match wantedA ops s.a o with
        | none => none
        | some false => (aput s.a o.dst undefA).map fun a => { s with done := s.done ||| 2 ^ i, a := a }
        | some true => match k with
          | .alloc => match opA P D s.a { s.H with next := base + i } o with
            | some (.val v H) => (aput s.a o.dst v).map fun a => { s with done := s.done ||| 2 ^ i, a := a, H := { H with next := s.H.next } }
            | _ => none
          | .read => match opA P D s.a s.H o with
            | some (.val v _) => bif checkReads P D s.a o v (bef.getD i 0 &&& em) s.hist then (aput s.a o.dst v).map fun a => { s with done := s.done ||| 2 ^ i, a := a } else none
            | _ => none
          | _ => match opA P D s.a s.H o with
            | some (.val v _) => (aput s.a o.dst v).map fun a => { s with done := s.done ||| 2 ^ i, a := a }
            | _ => none
      else none

def runD (rec : Task N → Option (List (Out N))) (r : Option Nat) (ops : Array Oper) (bef : Array Nat) (base em : Nat) : List Nat → DSt N → Option (DSt N)
  | [], s => some s
  | i :: rest, s => match stepD P D rec r ops bef base em i s with
    | some s => runD rec r ops bef base em rest s
    | none => none

/-- the quiet operations of a mask that have not been seen. -/
def pickQ (mask seen : Nat) : List Oper → Nat → List Nat
  | [], _ => []
  | o :: rest, i => match kindO P o.op with
    | .eff => pickQ mask seen rest (i + 1)
    | _ => bif mask.testBit i && !seen.testBit i then i :: pickQ mask seen rest (i + 1) else pickQ mask seen rest (i + 1)

def orderD (l : List Oper) (bef : Array Nat) : List Oper → Nat → Nat → List Nat
  | [], _, seen => pickQ P (2 ^ l.length - 1) seen l 0
  | o :: rest, i, seen => match kindO P o.op with
    | .eff => pickQ P (bef.getD i 0) seen l 0 ++ i :: orderD l bef rest (i + 1) (seen ||| bef.getD i 0 ||| 2 ^ i)
    | _ => orderD l bef rest (i + 1) seen

def drawA (rec : Task N → Option (List (Out N))) (r : Option Nat) (ops : Array Oper) (a : AAct N) (H : AH N) : Option (List (Out N)) :=
  bif regionOk P ops then
    let H' := { H with next := H.next + ops.size }
    let bef := Region.before ops
    match runD P D rec r ops bef H.next (effMask P ops.toList 0) (orderD P ops.toList bef ops.toList 0 0) { done := 0, a := a, H := H', hist := [(0, H')] } with
    | some s => bif Nat.beq s.done (2 ^ ops.size - 1) then some [{ ex := .normal, a := s.a, H := s.H }] else none
    | none => none
  else none

def tmpA (a : AAct N) (t : Tmp) : Option (AV N) := bif Nat.blt t a.n then some ((a.t.get t).getD undefA) else none

def resultA (a : AAct N) (H : AH N) : ResultVar → Option (AV N)
  | .tmp t => tmpA a t
  | .cell c t => match tmpA a c with
    | some (.ptr i o) => loadA P H t i o
    | _ => none

def resultsA (fn : Func) (a : AAct N) (H : AH N) : Option (AV N) :=
  match fn.results.toList.mapM (resultA P a H) with
  | none => none
  | some [v] => some v
  | some vs => some (.tuple vs)

def enterA (fn : Func) (args : List (AV N)) : AAct N :=
  { n := Nat.max fn.ntmps args.length, t := (args.foldl (fun (s : Nat × Tr (AV N)) v => (s.1 + 1, s.2.set s.1 v)) (0, .nil)).2, d := [] }

/-- leaving a function: its deferred calls. -/
def leaveA (rec : Task N → Option (List (Out N))) (fn : Func) (a : AAct N) : List (ADef N) → AH N → Option (List (Out N))
  | [], H => (resultsA P fn a H).map fun v => [{ ex := .val v, a := a, H := H }]
  | d :: ds, H => match d.target with
    | .collected r => match H.blk r with
      | .deferred (some []) => leaveA rec fn a ds (H.put r (.deferred none))
      | _ => none
    | .fn (.func g) cap => match P.funcs[g]? with
      | none => none
      | some gn => match gn.body with
        | none => none
        | some c => bif gn.name == "runtime.NumGoroutine" then none else match rec (.code none c (enterA gn (d.args ++ cap)) H) with
          | some l => eachOut (fun x => match x.ex, x.a.d with
            | .normal, [] => match resultsA P gn x.a x.H with
              | some _ => leaveA rec fn a ds x.H
              | none => none
            | .ret, [] => match resultsA P gn x.a x.H with
              | some _ => leaveA rec fn a ds x.H
              | none => none
            | _, _ => none) l
          | none => none
    | _ => none

def stepT (rec : Task N → Option (List (Out N))) : Task N → Option (List (Out N))
  | .code r c a H => match c with
    | .skip | .label _ => some [{ ex := .normal, a := a, H := H }]
    | .region _ ops draw => bif draw then drawA P D rec r ops a H else seqOps P D rec r ops ops.toList a H
    | .seq x y => match rec (.code r x a H) with
      | none => none
      | some l => eachOut (fun o => match o.ex with
        | .normal => rec (.code r y o.a o.H)
        | _ => some [o]) l
    | .cond c x y => match aeval P D a c with
      | some (.bool b) => rec (.code r (bif b then x else y) a H)
      | _ => none
    | .block id b => match rec (.code r b a H) with
      | none => none
      | some l => some (l.map fun o => match o.ex with
        | .exit j => bif Nat.beq j id then { o with ex := .normal } else o
        | _ => o)
    | .loop b => rec (.rounds r b a H)
    | .exit id => some [{ ex := .exit id, a := a, H := H }]
    | .goto l => some [{ ex := .goto l, a := a, H := H }]
    | .ret => some [{ ex := .ret, a := a, H := H }]
    | .scope body => rec (.scope r body body a H)
    | .refuse _ => none
    | .rangeFunc g ps assign body =>
      match r with
      | some _ => none
      | none =>
        let (did, H) := H.new (.deferred (some []))
        let (lid, H) := H.new (.loop { state := .ready, pending := none, n := a.n, t := a.t, params := ps, assign := assign, body := body, defers := did })
        let a := { a with d := { target := .collected did, args := [] } :: a.d }
        match aeval P D a g with
        | some gv => match callValA P D H gv [.yield lid] with
          | some (.enter f args) => match rec (.call f args H) with
            | none => none
            | some l => eachOut (fun o => match o.ex with
              | .val _ => match o.H.blk lid with
                | .loop L => bif L.state == .busy then none else
                  let H := o.H.put lid (.loop { L with state := .exhausted })
                  (match L.pending with
                  | none => some [{ ex := .normal, a := a, H := H }]
                  | some (.exit id) => some [{ ex := .exit id, a := a, H := H }]
                  | some .ret => some [{ ex := .ret, a := a, H := H }]
                  | some (.goto l) => some [{ ex := .goto l, a := a, H := H }]
                  | some _ => none)
                | _ => none
              | _ => none) l
          | _ => none
        | none => none
  | .rounds r b a H => match rec (.code r b a H) with
    | none => none
    | some l => eachOut (fun o => match o.ex with
      | .normal => rec (.rounds r b o.a o.H)
      | _ => some [o]) l
  | .scope r whole cur a H => match rec (.code r cur a H) with
    | none => none
    | some l => eachOut (fun o => match o.ex with
      | .goto t => match findLabel whole t with
        | some rest => rec (.scope r whole rest o.a o.H)
        | none => some [o]
      | _ => some [o]) l
  | .call f args H => match P.funcs[f]? with
    | none => none
    | some fn => match fn.body with
      | none => none
      | some c =>
        match rec (.code none c (enterA fn args) H) with
        | none => none
        | some l => match eachOut (fun o => match o.ex with
            | .normal | .ret => leaveA P rec fn o.a o.a.d o.H
            | _ => none) l with
          | none => none
          | some l => mergeAll D l
  | .round l args H => match H.blk l with
    | .loop L => bif Nat.beq args.length L.params.size then
        let t := (L.params.toList.zip args).foldl (fun t (p : Tmp × AV N) => bif Nat.blt p.1 L.n then t.set p.1 p.2 else t) L.t
        match rec (.code (some l) L.assign { n := L.n, t := t, d := [] } H) with
        | none => none
        | some outs => eachOut (fun o => match o.ex with
          | .normal => match o.H.blk l with
            | .loop L1 => bif L1.state == .ready then
                match rec (.code (some l) L.body o.a (o.H.put l (.loop { L1 with state := .busy }))) with
                | none => none
                | some outs => eachOut (fun o =>
                  match o.H.blk l with
                  | .loop L =>
                    let fin (j : Option Code) : Option (List (Out N)) :=
                      some [{ ex := .val (.bool j.isNone), a := o.a, H := o.H.put l (.loop { L with state := bif j.isNone then .ready else .done, pending := j }) }]
                    match o.ex with
                    | .normal => fin none
                    | .exit id => fin (some (.exit id))
                    | .goto t => fin (some (.goto t))
                    | .ret => fin (some .ret)
                    | _ => none
                  | _ => none) outs
              else none
            | _ => none
          | _ => none) outs
      else none
    | _ => none

def interp : Nat → Task N → Option (List (Out N))
  | 0 => fun _ => none
  | n + 1 => stepT P D (interp n)

end

/-! Whole numbers themselves. -/
def bitsI (op : BinOp) (k : IntKind) (x y : Int) : Int :=
  let a := BitVec.ofInt k.bits x
  let b := BitVec.ofInt k.bits y
  let r := match op with
    | .and => a &&& b
    | .or => a ||| b
    | .xor => a ^^^ b
    | _ => a &&& ~~~b
  k.wrap r.toNat

def binI (op : BinOp) (k : IntKind) (x y : Int) : Option Int :=
  match op with
  | .add => some (k.wrap (x + y))
  | .sub => some (k.wrap (x - y))
  | .mul => some (k.wrap (x * y))
  | .quo => if y = 0 then none else some (k.wrap (x.tdiv y))
  | .rem => if y = 0 then none else some (x.tmod y)
  | .and | .or | .xor | .andNot => some (bitsI op k x y)
  | .shl => if y < 0 then none else some (k.wrap (x * 2 ^ min y.toNat k.bits))
  | .shr => if y < 0 then none else some (x.fdiv (2 ^ min y.toNat k.bits))
  | _ => none

def cmpI (op : BinOp) (x y : Int) : Option Bool :=
  match op with
  | .eql => some (x == y)
  | .neq => some (x != y)
  | .lss => some (decide (x < y))
  | .leq => some (decide (x ≤ y))
  | .gtr => some (decide (x > y))
  | .geq => some (decide (x ≥ y))
  | _ => none

def domI : Dom Int where
  lit := id
  toLit := some
  beq a b := a == b
  bin := binI
  cmp := cmpI
  conv k n := some (k.wrap n)
  add64 x y c := if c.toNat > 1 then none else some (Int.ofNat ((x.toNat + y.toNat + c.toNat) % 2 ^ 64), Int.ofNat ((x.toNat + y.toNat + c.toNat) / 2 ^ 64))
  sub64 x y c := if c.toNat > 1 then none else some (Int.ofNat ((x.toNat + 2 ^ 64 - y.toNat - c.toNat) % 2 ^ 64), if x.toNat < y.toNat + c.toNat then 1 else 0)
  eqs l := some (l.all fun p => p.1 == p.2)
  lex x y := if (x ++ y).all (fun n => decide (0 ≤ n) && decide (n < 256)) then some (lexI x y) else none

end Am
end Go.Am
