/- The evaluator's definitions: Go code over plain data, frame by frame. -/
import Derived.WalkKit
import Derived.OrdersIn
import Derived.Maps.AppendAt
import Derived.KernelRfl
set_option linter.unusedVariables false
namespace Go.Ev

/-! ### Kinds of plain data -/
inductive Kd where
  | int (k : IntKind)
  | bool
  | str
  | sl (k : Kd)
  | un
  | pr (a b : Kd)

@[reducible] def Kd.T : Kd → Type
  | .int _ => Int
  | .bool => Bool
  | .str => ByteArray
  | .sl k => List k.T
  | .un => Unit
  | .pr a b => a.T × b.T

def Kd.sz : Kd → Nat
  | .int _ => 1
  | .bool => 1
  | .str => 1
  | .sl _ => 1
  | .un => 0
  | .pr a b => a.sz + b.sz

def Kd.isAgg : Kd → Bool
  | .un => true
  | .pr _ _ => true
  | _ => false

def Kd.dflt : (k : Kd) → k.T
  | .int _ => (0 : Int)
  | .bool => false
  | .str => ByteArray.empty
  | .sl _ => []
  | .un => ()
  | .pr a b => (a.dflt, b.dflt)

def ikn : IntKind → Nat
  | .i8 => 0
  | .i16 => 1
  | .i32 => 2
  | .i64 => 3
  | .u8 => 4
  | .u16 => 5
  | .u32 => 6
  | .u64 => 7

def ikBeq (a b : IntKind) : Bool := Nat.beq (ikn a) (ikn b)

theorem ik_eq {a b : IntKind} (h : ikBeq a b = true) : a = b := by
  cases a <;> cases b <;> first | rfl | (exact absurd h (by decide))

def bxor : Bool → Bool → Bool
  | true, true => false
  | true, false => true
  | false, b => b

def Kd.beq : Kd → Kd → Bool
  | .int a, .int b => ikBeq a b
  | .bool, .bool => true
  | .str, .str => true
  | .sl a, .sl b => a.beq b
  | .un, .un => true
  | .pr a b, .pr c d => a.beq c && b.beq d
  | _, _ => false

theorem Kd.eq_of_beq : ∀ {a b : Kd}, a.beq b = true → a = b
  | .int a, .int b, h => by rw [ik_eq h]
  | .bool, .bool, _ => rfl
  | .str, .str, _ => rfl
  | .sl a, .sl b, h => by rw [Kd.eq_of_beq (a := a) (b := b) h]
  | .un, .un, _ => rfl
  | .pr a b, .pr c d, h => by
    simp only [Kd.beq, Bool.and_eq_true] at h
    rw [Kd.eq_of_beq h.1, Kd.eq_of_beq h.2]
  | .int _, .bool, h | .int _, .str, h | .int _, .sl _, h | .int _, .un, h | .int _, .pr _ _, h => by cases h
  | .bool, .int _, h | .bool, .str, h | .bool, .sl _, h | .bool, .un, h | .bool, .pr _ _, h => by cases h
  | .str, .int _, h | .str, .bool, h | .str, .sl _, h | .str, .un, h | .str, .pr _ _, h => by cases h
  | .sl _, .int _, h | .sl _, .bool, h | .sl _, .str, h | .sl _, .un, h | .sl _, .pr _ _, h => by cases h
  | .un, .int _, h | .un, .bool, h | .un, .str, h | .un, .sl _, h | .un, .pr _ _, h => by cases h
  | .pr _ _, .int _, h | .pr _ _, .bool, h | .pr _ _, .str, h | .pr _ _, .sl _, h | .pr _ _, .un, h => by cases h

/-- The same datum, told at a kind that is the same. -/
def castK {k : Kd} (k' : Kd) (x : k.T) : Option k'.T :=
  if h : k.beq k' = true then some (Kd.eq_of_beq h ▸ x) else none

/-! ### Values of a frame -/
inductive Leaf where
  | undef
  | hole
  | kb (b : Bool)
  | dat (k : Kd) (x : k.T)
  | clip (k : Kd) (xs : List k.T)
  | nils
  | nn (b : Bool) (k : Kd) (xs : List k.T)
  | row (id : Nat)
  | ptr (id off : Nat)
  | eptr (id : Nat) (i : Nat) (off : Nat)
  | vw (id : Nat) (sz : Nat) (lo : Int) (n : Int)
  | dptr (k : Kd) (x : k.T)
  | emp
  | aptr (k : Kd) (xs : List k.T)
  | nilp
  | fn (f : FuncId) (caps : List Nat)
  | nilf
  | yld (id : Nat)

/-- What a package's variable holds. -/
inductive GV where
  | dat (k : Kd) (x : k.T)
  | arr (k : Kd) (xs : List k.T)

def GV.leaf : GV → Leaf
  | .dat k x => .dptr k x
  | .arr k xs => .aptr k xs

inductive AV where
  | one (l : Leaf)
  | agg (ls : List Leaf)

inductive Slot where
  | av (v : AV)
  | tup (vs : List AV)

/-- A range over a function: its variables' places, what is done ahead of a round, a round. -/
structure RL where
  ps : List Tmp
  asg : Code
  body : Code

inductive Blk where
  | box (ls : List Leaf)
  | row (e : TypeId) (k : Kd) (xs : List k.T)
  | frz (k : Kd) (xs : List k.T)
  | dead
  | lrec (busy : Bool) (pe : Option Code) (rl : RL)

abbrev Heap := List (Nat × Blk)

def app {α : Type} : List α → List α → List α
  | [], m => m
  | x :: l, m => x :: app l m

def len {α : Type} : List α → Nat
  | [] => 0
  | _ :: l => Nat.succ (len l)

def nth {α : Type} : List α → Nat → Option α
  | [], _ => none
  | x :: _, 0 => some x
  | _ :: l, n + 1 => nth l n

def setNth {α : Type} : List α → Nat → α → List α
  | [], _, _ => []
  | _ :: l, 0, y => y :: l
  | x :: l, n + 1, y => x :: setNth l n y

def Heap.get : Heap → Nat → Option Blk
  | [], _ => none
  | (k, b) :: h, id => bif Nat.beq k id then some b else Heap.get h id

def Heap.set : Heap → Nat → Blk → Heap
  | [], id, b => [(id, b)]
  | (k, c) :: h, id, b => bif Nat.beq k id then (k, b) :: h else (k, c) :: Heap.set h id b

def Heap.sets (h : Heap) : List (Nat × Blk) → Heap
  | [] => h
  | (id, b) :: u => Heap.sets (h.set id b) u

def Heap.del : Heap → Nat → Heap
  | [], _ => []
  | (k, c) :: h, id => bif Nat.beq k id then h else (k, c) :: Heap.del h id

/-! ### Outcomes: a tree of tests -/
inductive Tr (α : Type) where
  | ret (a : α)
  | ite (c : Bool) (t e : Tr α)
  | fail

def Tr.bind {α β : Type} : Tr α → (α → Tr β) → Tr β
  | .ret a, f => f a
  | .ite c t e, f => .ite c (t.bind f) (e.bind f)
  | .fail, _ => .fail

def Tr.val {α : Type} : Tr α → Option α
  | .ret a => some a
  | .ite c t e => bif c then t.val else e.val
  | .fail => none

def need {α : Type} (c : Option Bool) (t : Tr α) : Tr α :=
  match c with
  | none => t
  | some c => .ite c t .fail

def ofOpt {α β : Type} (o : Option α) (f : α → Tr β) : Tr β :=
  match o with
  | some a => f a
  | none => .fail

/-! ### Data laid open in cells, and packed -/
def leafs : (k : Kd) → k.T → List Leaf
  | .int k, x => [.dat (.int k) x]
  | .bool, x => [.dat .bool x]
  | .str, x => [.dat .str x]
  | .sl k, x => [.dat (.sl k) x]
  | .un, _ => []
  | .pr a b, x => app (leafs a x.1) (leafs b x.2)

def toAV (k : Kd) (x : k.T) : AV :=
  match leafs k x with
  | [l] => bif k.isAgg then .agg [l] else .one l
  | ls => .agg ls

def rget (k : Kd) (xs : List k.T) (i : Int) : k.T := xs.getD i.toNat k.dflt

/-- The datum of one leaf, at a kind of one cell; the rows that are frozen by it. -/
def packOne (h : Heap) (k : Kd) (l : Leaf) : Option (k.T × List Nat) :=
  match l with
  | .dat k' x => (castK k x).map fun y => (y, [])
  | .kb b => (castK (k := .bool) k b).map fun y => (y, [])
  | .clip k' xs => (castK (k := .sl k') k xs).map fun y => (y, [])
  | .nn _ k' xs => (castK (k := .sl k') k xs).map fun y => (y, [])
  | .nils => match k with
    | .sl _ => some ([], [])
    | _ => none
  | .emp => match k with
    | .sl _ => some ([], [])
    | _ => none
  | .row id => match h.get id with
    | some (.row _ k' xs) => (castK (k := .sl k') k xs).map fun y => (y, [id])
    | some (.frz _ xs) => (castK (k := .sl _) k xs).map fun y => (y, [])
    | _ => none
  | _ => none

def packL (h : Heap) : (k : Kd) → List Leaf → Option (k.T × List Leaf × List Nat)
  | .un, ls => some ((), ls, [])
  | .pr a b, ls =>
    match packL h a ls with
    | some (x, r, f) =>
      match packL h b r with
      | some (y, r', f') => some ((x, y), r', app f f')
      | none => none
    | none => none
  | .int k, l :: r => match packOne h (.int k) l with | some (x, f) => some (x, r, f) | none => none
  | .bool, l :: r => match packOne h .bool l with | some (x, f) => some (x, r, f) | none => none
  | .str, l :: r => match packOne h .str l with | some (x, f) => some (x, r, f) | none => none
  | .sl k, l :: r => match packOne h (.sl k) l with | some (x, f) => some (x, r, f) | none => none
  | .int _, [] => none
  | .bool, [] => none
  | .str, [] => none
  | .sl _, [] => none

def AV.leafs : AV → List Leaf
  | .one l => [l]
  | .agg ls => ls

def AV.isAgg : AV → Bool
  | .one _ => false
  | .agg _ => true

/-- A value's datum at a kind; the rows that it freezes. -/
def packAV (h : Heap) (k : Kd) (v : AV) : Option (k.T × List Nat) :=
  bif bxor v.isAgg k.isAgg then none else
  match packL h k v.leafs with
  | some (x, [], f) => some (x, f)
  | _ => none

def frozenUpd (h : Heap) : List Nat → List (Nat × Blk)
  | [] => []
  | id :: ids => match h.get id with
    | some (.row _ k xs) => (id, .frz k xs) :: frozenUpd (h.set id (.frz k xs)) ids
    | _ => frozenUpd h ids

/-! ### The program's types, as the evaluator needs them -/
inductive TD where
  | int (k : IntKind)
  | bool
  | str
  | slice (e : TypeId) (k : Kd) (bytes : Nat)
  | struct (fl : List (Nat × Nat)) (eq : List Kd)
  | array (n : Nat) (e : TypeId) (k : Kd)
  | other

structure Ty where
  d : TD
  size : Nat
  z : List Leaf

def Ty.agg (ty : Ty) : Bool :=
  match ty.d with
  | .struct _ _ => true
  | .array _ _ _ => true
  | _ => false

def arrFl (off sz : Nat) : Nat → List (Nat × Nat)
  | 0 => []
  | n + 1 => (off, sz) :: arrFl (Nat.add off sz) sz n

def Ty.fl (ty : Ty) : List (Nat × Nat) :=
  match ty.d with
  | .struct fl _ => fl
  | .array n _ k => arrFl 0 k.sz n
  | _ => []

def Ty.el (ty : Ty) : Option (TypeId × Kd × Nat) :=
  match ty.d with
  | .slice e k b => some (e, k, b)
  | _ => none

def Ty.arr (ty : Ty) : Option (TypeId × Kd) :=
  match ty.d with
  | .array _ e k => some (e, k)
  | _ => none

def Ty.isStruct (ty : Ty) : Bool :=
  match ty.d with
  | .struct _ _ => true
  | _ => false

def Ty.eq (ty : Ty) : List Kd :=
  match ty.d with
  | .struct _ e => e
  | _ => []

inductive PM where
  | raw
  | data (k : Kd)

structure SRes where
  c : Option Bool := none
  rs : Slot
  upd : List Blk := []
  new : List Blk := []

structure FSpec where
  ps : List PM
  g : List AV → List Blk → Option SRes

/-! ### The slots of a frame: a tree by the slot's number -/
inductive Tm where
  | nil
  | node (l : Tm) (v : Slot) (r : Tm)

def hole0 : Slot := .av (.one .undef)

def Tm.get : Tm → Nat → Slot
  | .nil, _ => hole0
  | .node l v r, n => bif Nat.beq n 0 then v else bif Nat.beq (Nat.mod n 2) 1 then l.get (Nat.div n 2) else r.get (Nat.sub (Nat.div n 2) 1)

def Tm.set : Tm → Nat → Slot → Tm
  | .nil, _, _ => .nil
  | .node l x r, n, v => bif Nat.beq n 0 then .node l v r else bif Nat.beq (Nat.mod n 2) 1 then .node (l.set (Nat.div n 2) v) x r else .node l x (r.set (Nat.sub (Nat.div n 2) 1) v)

/-- The same, worked out. -/
def Tm.setK {α : Type} : Tm → Nat → Slot → (Tm → α) → α
  | .nil, _, _, k => k .nil
  | .node l x r, n, v, k => bif Nat.beq n 0 then k (.node l v r) else bif Nat.beq (Nat.mod n 2) 1 then l.setK (Nat.div n 2) v fun l => k (.node l x r) else r.setK (Nat.sub (Nat.div n 2) 1) v fun r => k (.node l x r)

def Tm.full : Nat → Tm
  | 0 => .nil
  | n + 1 => .node (Tm.full n) hole0 (Tm.full n)

structure Tms where
  n : Nat
  m : Tm

def Tms.at (t : Tms) (i : Nat) : Option Slot := bif Nat.blt i t.n then some (t.m.get i) else none
def Tms.set (t : Tms) (i : Nat) (v : Slot) : Tms := bif Nat.blt i t.n then { n := t.n, m := t.m.set i v } else t

structure St where
  t : Tms
  h : Heap

/-- How a piece of code is left. -/
inductive Ex where
  | nrm
  | ret
  | exit (id : Nat)

/-- Slots that live on, and the blocks. -/
structure VS where
  n : Nat
  v : List Slot
  h : Heap

/-! ### At a loop's head, what is nothing yet is told as what it may become -/
inductive Wd where
  | row (e : TypeId) (k : Kd)
  | dat (k : Kd)

/-- A slot's leaf, or a cell of a row of leaves, or of the box that the slot points to. -/
structure Wl where
  i : Nat
  c : Option Nat := none
  w : Wd

/-- What lives on at a loop's head. -/
structure Lv where
  ls : List Nat
  wd : List Wl := []
instance : Coe (List Nat) Lv := ⟨fun l => { ls := l }⟩

structure Env where
  tt : TypeId → Option Ty
  fn : FuncId → Option FSpec := fun _ => none
  glob : Nat → Option GV := fun _ => none
  live : Nat → Lv := fun _ => { ls := [] }
  fuel : Nat := 0
  lent : Nat := 0
  it : FuncId → Option Func := fun _ => none
  yl : Nat → List AV → Heap → Tr (Bool × Heap) := fun _ _ _ => .fail
  ls : Nat → VS → Option (Tr (Ex × VS)) := fun _ _ => none

def one (l : Leaf) : Slot := .av (.one l)
def undefS : Slot := hole0
def holeS : Slot := one .hole

/-! ### Operands -/
def constSlot : Value → Option Slot
  | .int k n => some (one (.dat (.int k) n))
  | .bool b => some (one (.kb b))
  | .string s => some (one (.dat .str s))
  | .slice none n c => bif Nat.beq n 0 && Nat.beq c 0 then some (one .nils) else none
  | .pointer none => some (one .nilp)
  | .nilFunc => some (one .nilf)
  | .tuple vs => match vs.toList with
    | [] => some (.tup [])
    | _ => none
  | _ => none

def opnd (E : Env) (σ : St) : Operand → Option Slot
  | .tmp t => σ.t.at t
  | .const v => constSlot v
  | .global g => (E.glob g).map fun p => one p.leaf
  | .func f => some (one (.fn f []))

def opAV (E : Env) (σ : St) (o : Operand) : Option AV :=
  match opnd E σ o with
  | some (.av v) => some v
  | _ => none

def opLeaf (E : Env) (σ : St) (o : Operand) : Option Leaf :=
  match opnd E σ o with
  | some (.av (.one l)) => some l
  | _ => none

def opAVs (E : Env) (σ : St) : List Operand → Option (List AV)
  | [] => some []
  | o :: os => match opAV E σ o with
    | some v => match opAVs E σ os with
      | some vs => some (v :: vs)
      | none => none
    | none => none

/-- What an operation comes to: under a test, a value, and blocks that are written. -/
structure OR where
  c : Option Bool := none
  v : Slot
  u : List (Nat × Blk) := []

def orL (l : Leaf) : Option OR := some { v := one l }

/-! ### Plain operations -/
def intBin (op : BinOp) (k : IntKind) (x y : Int) : Option OR :=
  match op with
  | .add => orL (.dat (.int k) (k.wrap (x + y)))
  | .sub => orL (.dat (.int k) (k.wrap (x - y)))
  | .mul => orL (.dat (.int k) (k.wrap (x * y)))
  | .quo => some { c := some (!(decide (y = 0))), v := one (.dat (.int k) (k.wrap (x.tdiv y))) }
  | .rem => some { c := some (!(decide (y = 0))), v := one (.dat (.int k) (x.tmod y)) }
  | .and => orL (.dat (.int k) (k.wrap ((BitVec.ofInt k.bits x &&& BitVec.ofInt k.bits y).toNat : Int)))
  | .or => orL (.dat (.int k) (k.wrap ((BitVec.ofInt k.bits x ||| BitVec.ofInt k.bits y).toNat : Int)))
  | .xor => orL (.dat (.int k) (k.wrap ((BitVec.ofInt k.bits x ^^^ BitVec.ofInt k.bits y).toNat : Int)))
  | .andNot => orL (.dat (.int k) (k.wrap ((BitVec.ofInt k.bits x &&& ~~~(BitVec.ofInt k.bits y)).toNat : Int)))
  | .eql => orL (.dat .bool (decide (x = y)))
  | .neq => orL (.dat .bool (!(decide (x = y))))
  | .lss => orL (.dat .bool (decide (x < y)))
  | .leq => orL (.dat .bool (decide (x ≤ y)))
  | .gtr => orL (.dat .bool (decide (y < x)))
  | .geq => orL (.dat .bool (decide (y ≤ x)))
  | _ => none

def shiftBin (op : BinOp) (k : IntKind) (x y : Int) : Option OR :=
  match op with
  | .shl => some { c := some (decide (0 ≤ y)), v := one (.dat (.int k) (k.wrap (x * 2 ^ (min y.toNat k.bits)))) }
  | .shr => some { c := some (decide (0 ≤ y)), v := one (.dat (.int k) (x.fdiv (2 ^ (min y.toNat k.bits)))) }
  | _ => none

def strLt (x y : ByteArray) : Bool := Op.bytesLess x.toList y.toList

def strBin (op : BinOp) (x y : ByteArray) : Option OR :=
  match op with
  | .add => some { c := some (decide (x.size + y.size ≤ 9223372036854775807)), v := one (.dat .str (x ++ y)) }
  | .eql => orL (.dat .bool (decide (x = y)))
  | .neq => orL (.dat .bool (!(decide (x = y))))
  | .lss => orL (.dat .bool (strLt x y))
  | .leq => orL (.dat .bool (strLt x y || decide (x = y)))
  | .gtr => orL (.dat .bool (!(strLt x y || decide (x = y))))
  | .geq => orL (.dat .bool (!(strLt x y)))
  | _ => none

def boolBin (op : BinOp) (x y : Bool) : Option OR :=
  match op with
  | .eql => orL (.dat .bool (x == y))
  | .neq => orL (.dat .bool (!(x == y)))
  | _ => none

def isShift : BinOp → Bool
  | .shl => true
  | .shr => true
  | _ => false

/-- '==' of two cells of a kind. -/
def leafEq (k : Kd) (a b : Leaf) : Option Bool :=
  match k with
  | .int ik => match a with
    | .dat (.int i) x => match b with
      | .dat (.int j) y => bif ikBeq i ik && ikBeq j ik then some (decide ((x : Int) = y)) else none
      | _ => none
    | _ => none
  | .str => match a with
    | .dat .str x => match b with
      | .dat .str y => some (decide ((x : ByteArray) = y))
      | _ => none
    | _ => none
  | .bool => match a with
    | .dat .bool x => match b with
      | .dat .bool y => some ((x : Bool) == y)
      | .kb y => some ((x : Bool) == y)
      | _ => none
    | .kb x => match b with
      | .dat .bool y => some (x == (y : Bool))
      | .kb y => some (x == y)
      | _ => none
    | _ => none
  | _ => none

/-- '==' of two values' cells, of these kinds. -/
def leafsEq : List Kd → List Leaf → List Leaf → Option Bool
  | [k], [a], [b] => leafEq k a b
  | k :: ks, a :: l, b :: m => match leafEq k a b with
    | some x => match leafsEq ks l m with
      | some y => some (x && y)
      | none => none
    | none => none
  | _, _, _ => none

def isBoolTy (E : Env) (t : TypeId) : Bool :=
  match E.tt t with
  | some ty => match ty.d with
    | .bool => true
    | _ => false
  | none => false

def binL (bo : Bool) (op : BinOp) (x y : Leaf) : Option OR :=
  match x with
  | .dat (.int k) x => match y with
    | .dat (.int k') y => bif isShift op then shiftBin op k x y else bif ikBeq k k' then intBin op k x y else none
    | _ => none
  | .dat .str x => match y with
    | .dat .str y => strBin op x y
    | _ => none
  | .dat .bool x => bif bo then match y with
    | .dat .bool y => boolBin op x y
    | .kb y => boolBin op x y
    | _ => none
    else none
  | .kb x => bif bo then match y with
    | .dat .bool y => boolBin op x y
    | .kb y => boolBin op x y
    | _ => none
    else none
  | _ => none

/-- A slice of which it is told whether it is nil. -/
def nnBin (E : Env) (op : BinOp) (t : TypeId) (b : Bool) (y : Leaf) : Option OR :=
  match y with
  | .nils => match E.tt t with
    | some ty => match ty.el with
      | some _ => match op with
        | .eql => orL (.kb b)
        | .neq => orL (.kb (!b))
        | _ => none
      | none => none
    | none => none
  | _ => none

def binR (E : Env) (op : BinOp) (t : TypeId) (x y : AV) : Option OR :=
  match x with
  | .one a => match y with
    | .one b => match a with
      | .nn z _ _ => nnBin E op t z b
      | a => binL (isBoolTy E t) op a b
    | _ => none
  | .agg l => match y with
    | .agg m => match E.tt t with
      | some ty => match leafsEq ty.eq l m with
        | some b => match op with
          | .eql => orL (.dat .bool b)
          | .neq => orL (.dat .bool (!b))
          | _ => none
        | none => none
      | none => none
    | _ => none

def unR (op : UnOp) (x : Leaf) : Option OR :=
  match op, x with
  | .not, .dat .bool b => orL (.dat .bool (!b))
  | .not, .kb b => orL (.kb (!b))
  | .neg, .dat (.int k) n => orL (.dat (.int k) (k.wrap (0 - n)))
  | _, _ => none

end Go.Ev
