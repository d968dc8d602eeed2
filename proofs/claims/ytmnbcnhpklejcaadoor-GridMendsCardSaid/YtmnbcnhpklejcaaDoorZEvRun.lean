/- The evaluator: operations, regions, code, functions. -/
import Derived.Test.YtmnbcnhpklejcaaDoorZEvDefs
set_option linter.unusedVariables false
namespace Go.Ev

def take {α : Type} : Nat → List α → List α
  | 0, _ => []
  | _ + 1, [] => []
  | n + 1, x :: l => x :: take n l

def drop {α : Type} : Nat → List α → List α
  | 0, l => l
  | _ + 1, [] => []
  | n + 1, _ :: l => drop n l

/-- n cells from off on, if they are there. -/
def cut {α : Type} (l : List α) (off n : Nat) : Option (List α) :=
  let m := take n (drop off l)
  bif Nat.beq (len m) n then some m else none

def splice {α : Type} : List α → Nat → List α → Option (List α)
  | l, _, [] => some l
  | [], _, _ :: _ => none
  | _ :: l, 0, y :: m => match splice l 0 m with | some r => some (y :: r) | none => none
  | x :: l, off + 1, m => match splice l off m with | some r => some (x :: r) | none => none

def rset (k : Kd) (xs : List k.T) (i : Nat) (y : k.T) : List k.T := xs.set i y

def shaped (ty : Ty) (ls : List Leaf) : Option AV :=
  bif Nat.beq (len ls) ty.size then
    (bif ty.agg then some (.agg ls) else match ls with | [l] => some (.one l) | _ => none)
  else none

def memN (n : Nat) : List Nat → Bool
  | [] => false
  | m :: l => bif Nat.beq n m then true else memN n l

/-- A leaf that may lie in memory. -/
def Leaf.known : Leaf → Bool
  | .undef => false
  | .hole => false
  | .yld _ => false
  | .eptr _ _ _ => false
  | _ => true

def known : List Leaf → Bool
  | [] => true
  | l :: r => bif l.known then known r else false

def loadR (ty : Ty) (h : Heap) (l : Leaf) : Option AV :=
  match l with
  | .ptr id off => match h.get id with
    | some (.box ls) => match cut ls off ty.size with
      | some m => shaped ty m
      | none => none
    | _ => none
  | .eptr id i off => match h.get id with
    | some (.row _ k xs) => match cut (leafs k (xs.getD i k.dflt)) off ty.size with
      | some m => shaped ty m
      | none => none
    | some (.frz k xs) => match cut (leafs k (xs.getD i k.dflt)) off ty.size with
      | some m => shaped ty m
      | none => none
    | _ => none
  | .dptr k x => shaped ty (leafs k x)
  | _ => none

def storeR (ty : Ty) (h : Heap) (l : Leaf) (v : AV) : Option (List (Nat × Blk)) :=
  bif Nat.beq (len v.leafs) ty.size && known v.leafs then
    match l with
    | .ptr id off => match h.get id with
      | some (.box ls) => match splice ls off v.leafs with
        | some m => some [(id, .box m)]
        | none => none
      | _ => none
    | .eptr id i off => match h.get id with
      | some (.row e k xs) => match splice (leafs k (xs.getD i k.dflt)) off v.leafs with
        | some m => match packL h k m with
          | some (y, [], f) => bif memN id f then none else some (app (frozenUpd h f) [(id, .row e k (rset k xs i y))])
          | _ => none
        | none => none
      | _ => none
    | _ => none
  else none

def offK : Kd → Nat → Option Nat
  | .pr _ _, 0 => some 0
  | .pr a b, n + 1 => match offK b n with | some o => some (a.sz + o) | none => none
  | _, _ => none

def dnth : (k : Kd) → k.T → Nat → Option Leaf
  | .pr a _, x, 0 => some (.dptr a x.1)
  | .pr _ b, x, n + 1 => dnth b x.2 n
  | _, _, _ => none

def fieldAddrR (ty : Ty) (h : Heap) (l : Leaf) (f : Nat) : Option Leaf :=
  bif ty.isStruct then
  match nth ty.fl f with
  | some (off, size) =>
    bif Nat.beq size 0 then none else
    match l with
    | .ptr id o => some (.ptr id (o + off))
    | .eptr id i o => match h.get id with
      | some (.row _ _ _) => some (.eptr id i (o + off))
      | some (.frz _ _) => some (.eptr id i (o + off))
      | _ => none
    | .dptr k x => match offK k f with
      | some o => bif Nat.beq o off then dnth k x f else none
      | none => none
    | _ => none
  | none => none
  else none

def inB (i : Int) (n : Nat) : Bool := decide (0 ≤ i ∧ i < (n : Int))

def intLit : Int → Option Nat
  | .ofNat n => some n
  | .negSucc _ => none

def indexAddrR (ty : Ty) (h : Heap) (l : Leaf) (i : Int) : Option OR :=
  match ty.el with
  | some (_, k, _) =>
    match l with
    | .dat (.sl k') xs => bif k'.beq k then some { c := some (inB i (List.length (α := k'.T) xs)), v := one (.dptr k' (rget k' xs i)) } else none
    | .clip k' xs => bif k'.beq k then some { c := some (inB i xs.length), v := one (.dptr k' (rget k' xs i)) } else none
    | .row id => match h.get id with
      | some (.row _ k' xs) => bif k'.beq k then some { c := some (inB i xs.length), v := one (.eptr id i.toNat 0) } else none
      | some (.frz k' xs) => bif k'.beq k then some { c := some (inB i xs.length), v := one (.dptr k' (rget k' xs i)) } else none
      | _ => none
    | .vw id sz lo n => match h.get id with
      | some (.row _ k' _) => bif k'.beq k && Nat.beq sz k'.sz then some { c := some (decide (0 ≤ i ∧ i < n)), v := one (.eptr id (lo + i).toNat 0) } else none
      | _ => none
    | _ => none
  | none => match ty.arr with
    | some (_, k) => match l with
      | .aptr k' xs => bif k'.beq k && Nat.beq (len ty.fl) (len xs) then some { c := some (inB i xs.length), v := one (.dptr k' (rget k' xs i)) } else none
      | .ptr id off => match intLit i with
        | some n => match nth ty.fl n with
          | some (o, _) => some { v := one (.ptr id (off + o)) }
          | none => none
        | none => none
      | _ => none
    | none => none

def bt (s : ByteArray) (i : Int) : Int := ((s.data.getD i.toNat 0).toNat : Int)

def indexR (ty : Ty) (v : AV) (i : Int) : Option OR :=
  match v with
  | .one (.dat .str s) => match ty.d with
    | .str => some { c := some (inB i (ByteArray.size s)), v := one (.dat (.int .u8) (bt s i)) }
    | _ => none
  | .agg ls => match intLit i with
    | some n => match nth ty.fl n with
      | some (off, size) => match ty.arr with
        | some (_, k) => match cut ls off size with
          | some m => bif k.isAgg then some { v := .av (.agg m) } else match m with | [l] => orL l | _ => none
          | none => none
        | none => none
      | none => none
    | none => none
  | _ => none

/-- The bounds of a slice expression on what has n elements: the test, from, to. -/
def bounds (n : Nat) (lo hi : Option Int) : Option Bool × Nat × Nat :=
  match lo, hi with
  | none, none => (none, 0, n)
  | some l, none => (some (decide (0 ≤ l ∧ l ≤ (n : Int))), l.toNat, n)
  | none, some h => (some (decide (0 ≤ h ∧ h ≤ (n : Int))), 0, h.toNat)
  | some l, some h => (some (decide (0 ≤ l ∧ l ≤ h ∧ h ≤ (n : Int))), l.toNat, h.toNat)

def andO : Option Bool → Bool → Option Bool
  | none, b => some b
  | some a, b => some (a && b)

def sub {α : Type} (xs : List α) (a b : Nat) : List α := (xs.take b).drop a

/-- A key that no block has. -/
def isNew (h : Heap) (k : Nat) : Option Unit :=
  match h.get k with
  | none => some ()
  | some _ => none

def isZ (m : Int) : Bool :=
  match m with
  | .ofNat n => Nat.beq n 0
  | .negSucc _ => false

/-- No lower bound, or 0. -/
def noLo : Option Int → Bool
  | none => true
  | some n => isZ n

def sliceData (cz : Bool) (ty : Ty) (k : Kd) (xs : List k.T) (lo hi mx : Option Int) : Option OR :=
  match ty.el with
  | some (_, k', _) =>
    bif k.beq k' then
      match mx with
      | none => let b := bounds xs.length lo hi; some { c := b.1, v := one (.dat (.sl k) (sub (α := k.T) xs b.2.1 b.2.2)) }
      | some m => match hi with
        | some hh => let b := bounds xs.length lo hi
          bif cz && isZ m then some { c := andO b.1 (decide (m = hh)), v := one .emp } else
          some { c := andO b.1 (decide (m = hh)), v := one (.clip k (sub (α := k.T) xs b.2.1 b.2.2)) }
        | none => none
    else none
  | none => none

/-- From and to of a view's part. -/
def vwLo : Option Int → Int
  | none => 0
  | some l => l
def vwHi (n : Int) : Option Int → Int
  | none => n
  | some h => h
def vwOK (n : Int) (lo hi : Option Int) : Bool := decide (0 ≤ vwLo lo ∧ vwLo lo ≤ vwHi n hi ∧ vwHi n hi ≤ n)

/-- A part of a row that stays. -/
def viewR (ty : Ty) (h : Heap) (v : Leaf) (lo hi : Option Int) : Option OR :=
  match ty.el with
  | some (_, k, _) => match v with
    | .row id => match h.get id with
      | some (.row _ k' xs) => bif k'.beq k then some { c := some (vwOK (xs.length : Int) lo hi), v := one (.vw id k.sz (vwLo lo) (vwHi (xs.length : Int) hi - vwLo lo)) } else none
      | _ => none
    | .vw id sz l n => bif Nat.beq sz k.sz then some { c := some (vwOK n lo hi), v := one (.vw id sz (l + vwLo lo) (vwHi n hi - vwLo lo)) } else none
    | _ => none
  | none => none

def sliceR (cz lz : Bool) (ty : Ty) (key : Nat) (h : Heap) (v : Leaf) (lo hi mx : Option Int) : Option OR :=
  match v with
  | .dat .str s => match ty.d with
   | .str => match mx with
    | none => let b := bounds (ByteArray.size s) lo hi; some { c := b.1, v := one (.dat .str (ByteArray.extract s b.2.1 b.2.2)) }
    | some _ => none
   | _ => none
  | .dat (.sl k) xs => sliceData cz ty k xs lo hi mx
  | .clip k xs => sliceData cz ty k xs lo hi mx
  | .row id => match h.get id with
      | some (.frz k xs) => sliceData cz ty k xs lo hi mx
      | some (.row e k xs) => match ty.el with
        | some (e', k', _) => match mx with
          | none => bif lz then (bif noLo lo && (Nat.beq e e' && k.beq k') then
              (isNew h key).bind fun _ =>
              some { c := (bounds xs.length none hi).1, v := one (.row key), u := [(id, .dead), (key, .row e k (xs.take (bounds xs.length none hi).2.2))] }
            else none) else
              match sliceData cz ty k xs lo hi none with
              | some r => some { c := r.c, v := r.v, u := [(id, .frz k xs)] }
              | none => none
          | some _ => none
        | none => none
      | _ => none
  | .nils => match ty.el with
    | some _ => match mx with
      | none => bif noLo lo then some { c := (bounds 0 none hi).1, v := one .nils } else none
      | some _ => none
    | none => none
  | _ => none

def fillR (fl : List (Nat × Nat)) : List Leaf → List (Nat × AV) → Option (List Leaf)
  | ls, [] => some ls
  | ls, (i, v) :: r => match nth fl i with
    | some (off, size) => bif (Nat.beq (len v.leafs) size && known v.leafs) && Nat.ble (Nat.add off size) (len ls) then
        match splice ls off v.leafs with
        | some m => fillR fl m r
        | none => none
      else none
    | none => none

/-- The elements of a literal. -/
def fillRow (h : Heap) (k : Kd) : List k.T → List (Nat × AV) → Option (List k.T × List Nat)
  | xs, [] => some (xs, [])
  | xs, (i, v) :: r => bif Nat.ble (Nat.succ i) (len xs) then match packAV h k v with
    | some (y, f) => match fillRow h k (setNth xs i y) r with
      | some (ys, f') => some (ys, app f f')
      | none => none
    | none => none
    else none

def replicateK (k : Kd) (x : k.T) : Nat → List k.T
  | 0 => []
  | n + 1 => x :: replicateK k x n

def lenR (h : Heap) (l : Leaf) : Option Int :=
  match l with
  | .dat .str s => some (ByteArray.size s : Int)
  | .dat (.sl k) xs => some (List.length (α := k.T) xs : Int)
  | .clip _ xs => some (xs.length : Int)
  | .nn _ _ xs => some (xs.length : Int)
  | .nils => some 0
  | .emp => some 0
  | .vw _ _ _ n => some n
  | .row id => match h.get id with
    | some (.row _ _ xs) => some (xs.length : Int)
    | some (.frz _ xs) => some (xs.length : Int)
    | _ => none
  | _ => none

def lenTy (ty : Ty) (l : Leaf) : Bool :=
  match ty.d with
  | .str => match l with
    | .dat .str _ => true
    | _ => false
  | .slice _ _ _ => match l with
    | .dat .str _ => false
    | _ => true
  | _ => false

/-- What a slice holds, at a kind of its elements. -/
def elems (h : Heap) (k : Kd) (l : Leaf) : Option (List k.T) :=
  match l with
  | .dat (.sl k') xs => castK (k := .sl k') (.sl k) xs
  | .clip k' xs => castK (k := .sl k') (.sl k) xs
  | .nn _ k' xs => castK (k := .sl k') (.sl k) xs
  | .nils => some []
  | .emp => some []
  | .row id => match h.get id with
    | some (.row _ k' xs) => castK (k := .sl k') (.sl k) xs
    | some (.frz k' xs) => castK (k := .sl k') (.sl k) xs
    | _ => none
  | .vw id sz lo n => match h.get id with
    | some (.row _ k' xs) => bif Nat.beq sz k'.sz then castK (k := .sl k') (.sl k) (sub xs lo.toNat (lo.toNat + n.toNat)) else none
    | _ => none
  | _ => none

/-- These elements, from a place on. -/
def putAt {α : Type} (xs : List α) (lo : Nat) (ys : List α) : List α := xs.take lo ++ (ys ++ xs.drop (lo + ys.length))

/-- Elements that are copied. -/
def copyR (ty : Ty) (h : Heap) (d x : Leaf) : Option OR :=
  match ty.el with
  | some (_, k, _) => match elems h k x with
    | some ys => match d with
      | .row id => match h.get id with
        | some (.row e k' xs) => match castK (k := .sl k) (.sl k') ys with
          | some zs => some { v := one (.dat (.int .i64) ((Nat.min ys.length xs.length : Nat) : Int)), u := [(id, .row e k' (putAt xs 0 (List.take xs.length zs)))] }
          | none => none
        | _ => none
      | .vw id sz lo n => match h.get id with
        | some (.row e k' xs) => bif Nat.beq sz k'.sz then match castK (k := .sl k) (.sl k') ys with
          | some zs => some { v := one (.dat (.int .i64) ((Nat.min ys.length n.toNat : Nat) : Int)), u := [(id, .row e k' (putAt xs lo.toNat (List.take n.toNat zs)))] }
          | none => none
          else none
        | _ => none
      | _ => none
    | none => none
  | none => none

def capLimit : Nat := 140737488355328

/-- The key of a block that an operation makes. -/
def fresh (o : Oper) (j : Nat) : Nat :=
  match o.dst with
  | some d => Nat.add (Nat.mul 1000 (Nat.add d 1)) j
  | none => j

def appendR (ty : Ty) (key : Nat) (h : Heap) (s x : Leaf) : Option OR :=
  match ty.el with
  | some (e, k, bytes) =>
    match elems h k x with
    | some ys =>
      (isNew h key).bind fun _ =>
      match s with
      | .nils => some { c := some (decide (ys.length * bytes ≤ capLimit)), v := one (.row key), u := [(key, .row e k ys)] }
      | .emp => some { c := some (decide (ys.length * bytes ≤ capLimit)), v := one (.row key), u := [(key, .row e k ys)] }
      | .clip k' xs => match castK (k := .sl k') (.sl k) xs with
        | some zs => some { c := some (decide ((zs.length + ys.length) * bytes ≤ capLimit)), v := one (.dat (.sl k) (zs ++ ys)) }
        | none => none
      | .row id => match h.get id with
        | some (.row e' k' xs) => bif Nat.beq e e' then match castK (k := .sl k') (.sl k) xs with
          | some zs => some { c := some (decide ((zs.length + ys.length) * bytes ≤ capLimit)), v := one (.row key), u := [(id, .dead), (key, .row e k (zs ++ ys))] }
          | none => none
          else none
        | _ => none
      | _ => none
    | none => none
  | none => none

/-- So many zeros, behind nothing. -/
def growR (ty : Ty) (key : Nat) (h : Heap) (s : Leaf) (n : Int) : Option OR :=
  match ty.el with
  | some (e, k, bytes) => match s with
    | .nils => (isNew h key).bind fun _ =>
      some { c := some (decide (0 ≤ n ∧ n.toNat * bytes ≤ capLimit)), v := one (.row key), u := [(key, .row e k (List.replicate n.toNat k.dflt))] }
    | _ => none
  | none => none

/-- What a slice has room for. -/
def capR (l : Leaf) : Option Int :=
  match l with
  | .nils => some 0
  | .emp => some 0
  | _ => none

/-- A new slice of so many zeros. -/
def makeR (ty : Ty) (key : Nat) (h : Heap) (n c : Int) : Option OR :=
  match ty.el with
  | some (e, k, bytes) => (isNew h key).bind fun _ =>
    some { c := some (decide (0 ≤ n ∧ n ≤ c ∧ c.toNat * bytes ≤ capLimit)), v := one (.row key), u := [(key, .row e k (List.replicate n.toNat k.dflt))] }
  | none => none

/-! ### Keys -/
def Leaf.ids : Leaf → List Nat
  | .row id => [id]
  | .ptr id _ => [id]
  | .eptr id _ _ => [id]
  | .vw id _ _ _ => [id]
  | .fn _ caps => caps
  | .yld id => [id]
  | _ => []

def flat {α β : Type} (f : α → List β) : List α → List β
  | [] => []
  | x :: l => app (f x) (flat f l)

def AV.ids (v : AV) : List Nat := flat Leaf.ids v.leafs
def Slot.ids : Slot → List Nat
  | .av v => v.ids
  | .tup vs => flat AV.ids vs
def Blk.ids : Blk → List Nat
  | .box ls => flat Leaf.ids ls
  | _ => []

def reach (h : Heap) : Nat → List Nat → List Nat → List Nat
  | 0, _, seen => seen
  | _ + 1, [], seen => seen
  | n + 1, id :: todo, seen =>
    bif memN id seen then reach h n todo seen else
    match h.get id with
    | some b => reach h n (app todo b.ids) (app seen [id])
    | none => reach h n todo seen

def posN (n : Nat) : List Nat → Nat → Option Nat
  | [], _ => none
  | m :: l, i => bif Nat.beq n m then some i else posN n l (i + 1)

def Leaf.ren (ρ : Nat → Nat) : Leaf → Leaf
  | .row id => .row (ρ id)
  | .ptr id o => .ptr (ρ id) o
  | .eptr id i o => .eptr (ρ id) i o
  | .vw id s l n => .vw (ρ id) s l n
  | .fn f caps => .fn f (caps.map ρ)
  | .yld id => .yld (ρ id)
  | l => l

def AV.ren (ρ : Nat → Nat) : AV → AV
  | .one l => .one (l.ren ρ)
  | .agg ls => .agg (ls.map (Leaf.ren ρ))
def Slot.ren (ρ : Nat → Nat) : Slot → Slot
  | .av v => .av (v.ren ρ)
  | .tup vs => .tup (vs.map (AV.ren ρ))
def Blk.ren (ρ : Nat → Nat) : Blk → Blk
  | .box ls => .box (ls.map (Leaf.ren ρ))
  | b => b

def toPos (ids : List Nat) (n : Nat) : Nat :=
  match posN n ids 0 with
  | some i => i
  | none => Nat.add 900 n

def blksAt (h : Heap) : List Nat → Option (List Blk)
  | [] => some []
  | id :: ids => match h.get id with
    | some b => match blksAt h ids with
      | some bs => some (b :: bs)
      | none => none
    | none => none

def zipN {α : Type} : Nat → List α → List (Nat × α)
  | _, [] => []
  | n, x :: l => (n, x) :: zipN (n + 1) l

def zipK {α : Type} : List Nat → List α → List (Nat × α)
  | k :: ks, x :: l => (k, x) :: zipK ks l
  | _, _ => []

/-! ### Calls -/
def packArgs (h : Heap) : List PM → List AV → Option (List AV × List Nat)
  | [], [] => some ([], [])
  | .raw :: ps, v :: vs => match packArgs h ps vs with
    | some (ws, f) => some (v :: ws, f)
    | none => none
  | .data k :: ps, v :: vs => match packAV h k v with
    | some (x, f) => match packArgs h ps vs with
      | some (ws, f') => some (toAV k x :: ws, app f f')
      | none => none
    | none => none
  | _, _ => none

def fromPos (ids : List Nat) (m key : Nat) (j : Nat) : Nat :=
  match nth ids j with
  | some id => id
  | none => Nat.add key (Nat.sub j m)

def allNew (h : Heap) (key : Nat) : Nat → Option Unit
  | 0 => some ()
  | n + 1 => (isNew h (Nat.add key n)).bind fun _ => allNew h key n

def subN : List Nat → List Nat → Bool
  | [], _ => true
  | a :: l, m => bif memN a m then subN l m else false

def nodupN : List Nat → Bool
  | [] => true
  | a :: l => bif memN a l then false else nodupN l

def knownAVs : List AV → Bool
  | [] => true
  | v :: l => bif known v.leafs then knownAVs l else false

def knownSlot : Slot → Bool
  | .av v => known v.leafs
  | .tup vs => knownAVs vs

def callR (E : Env) (key : Nat) (h : Heap) (f : FuncId) (args : List AV) : Option OR :=
  match E.fn f with
  | some sp =>
    match packArgs h sp.ps args with
    | some (ws, fz) =>
      let h1 := h.sets (frozenUpd h fz)
      let ids := reach h1 100 (flat AV.ids ws) []
      match blksAt h1 ids with
      | some bs =>
        bif (knownAVs ws && nodupN ids) && (subN (flat AV.ids ws) ids && subN (flat Blk.ids bs) ids) then
          match sp.g (ws.map (AV.ren (toPos ids))) (bs.map (Blk.ren (toPos ids))) with
          | some r =>
            let back := fromPos ids (len ids) key
            (allNew h key (len r.new)).bind fun _ =>
            bif knownSlot r.rs then
              some { c := r.c, v := r.rs.ren back,
                     u := app (frozenUpd h fz) (app (zipK ids (r.upd.map (Blk.ren back))) (zipN key (r.new.map (Blk.ren back)))) }
            else none
          | none => none
        else none
      | none => none
    | none => none
  | none => none

def asI : Leaf → Option Int
  | .dat (.int _) n => some n
  | _ => none

def optI (E : Env) (σ : St) : Option Operand → Option (Option Int)
  | none => some none
  | some o => match opLeaf E σ o with
    | some l => match asI l with
      | some n => some (some n)
      | none => none
    | none => none

def partsAV (E : Env) (σ : St) : List (Nat × Operand) → Option (List (Nat × AV))
  | [] => some []
  | (i, o) :: r => match opAV E σ o with
    | some v => match partsAV E σ r with
      | some vs => some ((i, v) :: vs)
      | none => none
    | none => none

def pickR (c : Bool) (a b : Leaf) : Option OR :=
  match a, b with
  | .dat k x, .dat k' y => match castK k y with
    | some z => bif Bool.not k'.isAgg then orL (.dat k (bif c then x else z)) else none
    | none => none
  | .kb x, .kb y => orL (.dat .bool (bif c then x else y))
  | .kb x, .dat .bool y => orL (.dat .bool (bif c then x else y))
  | .dat .bool x, .kb y => orL (.dat .bool (bif c then x else y))
  | _, _ => none

def minI (x y : Int) : Int := if y < x then y else x
def maxI (x y : Int) : Int := if y > x then y else x

def minmax (f : Int → Int → Int) (k : IntKind) : Int → List AV → Option Int
  | x, [] => some x
  | x, .one (.dat (.int k') y) :: r => bif ikBeq k k' then minmax f k (f x y) r else none
  | _, _ => none

def strOf (xs : List Int) : ByteArray := ⟨(xs.map fun n => UInt8.ofNat n.toNat).toArray⟩

def isU8 (E : Env) (src : TypeId) : Bool :=
  match E.tt src with
  | some ty => match ty.d with
    | .slice e _ _ => match E.tt e with
      | some te => match te.d with
        | .int .u8 => true
        | _ => false
      | none => false
    | _ => false
  | none => false

/-- A string's bytes. -/
def bytesL (s : ByteArray) : List Int := s.data.toList.map fun b => (b.toNat : Int)

def isStrTy (E : Env) (t : TypeId) : Bool :=
  match E.tt t with
  | some ty => match ty.d with
    | .str => true
    | _ => false
  | none => false

def convR (E : Env) (key : Nat) (h : Heap) (src dst : TypeId) (v : AV) : Option OR :=
  match E.tt src with
  | none => none
  | some _ =>
  match E.tt dst with
  | some ty => match ty.d with
    | .int k' => match v with
      | .one (.dat (.int _) n) => orL (.dat (.int k') (k'.wrap n))
      | _ => none
    | .str => match v with
      | .one (.dat (.int _) n) => orL (.dat .str (Utf8.encode n))
      | .one (.dat .str s) => orL (.dat .str s)
      | .one l => bif isU8 E src then match elems h (.int .u8) l with
        | some xs => orL (.dat .str (strOf xs))
        | none => none
        else none
      | _ => none
    | .slice e _ _ => match v with
      | .one (.dat .str s) => bif isU8 E dst && isStrTy E src then
          (isNew h key).bind fun _ => some { c := some (decide (ByteArray.size s ≤ 9223372036854775807)), v := one (.row key), u := [(key, .row e (.int .u8) (bytesL s))] }
        else none
      | _ => none
    | _ => none
  | none => none

/-- Is it told by a constant? -/
def constO : Option Operand → Bool
  | some (.const _) => true
  | _ => false

/-- No lower bound, or a constant. -/
def constLo : Option Operand → Bool
  | none => true
  | some (.const _) => true
  | _ => false

/-- Is what is sliced here a part of a row that stays? -/
def isView (E : Env) (d : Option Tmp) : Bool :=
  match d with
  | some d => memN d (E.live 8888).ls
  | none => false

def opRun (E : Env) (σ : St) (o : Oper) : Option OR :=
  let h := σ.h
  match o.op with
  | .move x => match opnd E σ x with | some v => some { v := v } | none => none
  | .assign x => match opnd E σ x with | some v => some { v := v } | none => none
  | .pick c a b => match opLeaf E σ c with
    | some (.kb true) => match opnd E σ a with | some v => some { v := v } | none => none
    | some (.kb false) => match opnd E σ b with | some v => some { v := v } | none => none
    | some (.dat .bool c) => match opLeaf E σ a with
      | some x => match opLeaf E σ b with
        | some y => pickR c x y
        | none => none
      | none => none
    | _ => none
  | .alloc t => match E.tt t with
    | some ty => bif known ty.z then (isNew h (fresh o 0)).bind fun _ => some { v := one (.ptr (fresh o 0) 0), u := [(fresh o 0, .box ty.z)] } else none
    | none => none
  | .box t x => match opAV E σ x with
    | some v => match E.tt t with
      | some ty => bif known v.leafs && Nat.beq (len v.leafs) ty.size then (isNew h (fresh o 0)).bind fun _ => some { v := one (.ptr (fresh o 0) 0), u := [(fresh o 0, .box v.leafs)] } else none
      | none => none
    | none => none
  | .build t parts => match E.tt t with
    | some ty => bif ty.agg && known ty.z then match partsAV E σ parts.toList with
      | some ps => match fillR ty.fl ty.z ps with
        | some ls => some { v := .av (.agg ls) }
        | none => none
      | none => none
      else none
    | none => none
  | .buildSlice t len parts => match E.tt t with
    | some ty => match ty.el with
      | some (e, k, _) => match partsAV E σ parts.toList with
        | some ps => bif Nat.ble (Nat.mul len k.sz) 16777216 then match fillRow h k (replicateK k k.dflt len) ps with
          | some (xs, f) => (isNew h (fresh o 0)).bind fun _ => some { v := one (.row (fresh o 0)), u := app (frozenUpd h f) [(fresh o 0, .row e k xs)] }
          | none => none
          else none
        | none => none
      | none => none
    | none => none
  | .load t a => match E.tt t with
    | some ty => match opLeaf E σ a with
      | some l => match loadR ty h l with
        | some v => some { v := .av v }
        | none => none
      | none => none
    | none => none
  | .store t a x => match E.tt t with
    | some ty => match opLeaf E σ a with
      | some l => match opAV E σ x with
        | some v => match storeR ty h l v with
          | some u => some { v := undefS, u := u }
          | none => none
        | none => none
      | none => none
    | none => none
  | .nilCheck x => match opLeaf E σ x with
    | some (.ptr id off) => orL (.ptr id off)
    | some (.eptr id i off) => match h.get id with
      | some (.row _ _ _) => orL (.eptr id i off)
      | some (.frz _ _) => orL (.eptr id i off)
      | _ => none
    | some (.dptr k x) => orL (.dptr k x)
    | some (.fn f cs) => orL (.fn f cs)
    | _ => none
  | .binOp op t x y _ => match opAV E σ x with
    | some a => match opAV E σ y with
      | some b => binR E op t a b
      | none => none
    | none => none
  | .unOp op _ x => match opLeaf E σ x with
    | some l => unR op l
    | none => none
  | .convert src dst x => match opAV E σ x with
    | some v => convR E (fresh o 0) h src dst v
    | none => none
  | .makeFunc (.func f) first caps =>
    match first.toList with
    | [] => match opAVs E σ caps.toList with
      | some vs => (capIds vs).bind fun cs => orL (.fn f cs)
      | none => none
    | _ => none
  | .slice t x lo0 hi mx => match E.tt t with
   | some ty => match opLeaf E σ x with
    | some l => match optI E σ lo0 with
      | some lo => match optI E σ hi with
        | some hi => match optI E σ mx with
          | some mxv => bif isView E o.dst then (match mxv with
            | none => viewR ty h l lo hi
            | some _ => none) else sliceR (constO mx) (constLo lo0) ty (fresh o 0) h l lo hi mxv
          | none => none
        | none => none
      | none => none
    | none => none
   | none => none
  | .fieldAddr t x f => match E.tt t with
    | some ty => match opLeaf E σ x with
      | some l => match fieldAddrR ty h l f with
        | some l => orL l
        | none => none
      | none => none
    | none => none
  | .indexAddr t x i => match E.tt t with
    | some ty => match opLeaf E σ x with
      | some l => match opLeaf E σ i with
        | some il => match asI il with
          | some n => indexAddrR ty h l n
          | none => none
        | none => none
      | none => none
    | none => none
  | .index t x i => match E.tt t with
    | some ty => match opAV E σ x with
      | some v => match opLeaf E σ i with
        | some il => match asI il with
          | some n => indexR ty v n
          | none => none
        | none => none
      | none => none
    | none => none
  | .makeSlice t n c => match E.tt t with
    | some ty => match opLeaf E σ n with
      | some nl => match opLeaf E σ c with
        | some cl => match asI nl with
          | some n => match asI cl with
            | some c => makeR ty (fresh o 0) h n c
            | none => none
          | none => none
        | none => none
      | none => none
    | none => none
  | .extract x i => match opnd E σ x with
    | some (.tup vs) => match nth vs i with
      | some v => some { v := .av v }
      | none => none
    | _ => none
  | .call c => match c.callee with
    | .value fo => match opLeaf E σ fo with
      | some (.fn f caps) => match opAVs E σ c.args.toList with
        | some vs => callR E (fresh o 0) h f (app vs (caps.map fun id => AV.one (.ptr id 0)))
        | none => none
      | _ => none
    | .builtin b => match opAVs E σ c.args.toList with
      | some vs =>
        match b, vs with
        | .len, [.one l] => match c.argTypes.toList with
          | [t] => match E.tt t with
            | some ty => bif lenTy ty l then match lenR h l with
              | some n => orL (.dat (.int .i64) n)
              | none => none
              else none
            | none => none
          | _ => none
        | .cap, [.one l] => match c.argTypes.toList with
          | [t] => match E.tt t with
            | some ty => match ty.el with
              | some _ => match capR l with
                | some n => orL (.dat (.int .i64) n)
                | none => none
              | none => none
            | none => none
          | _ => none
        | .min, .one (.dat (.int k) x) :: r => match minmax minI k x r with | some z => orL (.dat (.int k) z) | none => none
        | .max, .one (.dat (.int k) x) :: r => match minmax maxI k x r with | some z => orL (.dat (.int k) z) | none => none
        | .copy, [.one d, .one x] => match c.argTypes.toList with
          | [t, t'] => bif Nat.beq t t' then match E.tt t with
            | some ty => copyR ty h d x
            | none => none
            else none
          | _ => none
        | .append, [.one s, .one x] => match c.argTypes.toList with
          | [t, t'] => bif Nat.beq t t' then match E.tt t with
            | some ty => appendR ty (fresh o 0) h s x
            | none => none
            else match E.tt t' with
              | some ty' => match ty'.d with
                | .int _ => match E.tt t with
                  | some ty => match x with
                    | .dat (.int .i64) n => growR ty (fresh o 0) h s n
                    | _ => none
                  | none => none
                | _ => none
              | none => none
          | _ => none
        | _, _ => none
      | none => none
    | _ => none
  | _ => none
where
  capIds : List AV → Option (List Nat)
    | [] => some []
    | .one (.ptr id 0) :: r => match capIds r with
      | some cs => some (id :: cs)
      | none => none
    | _ => none

/-! ### Regions and code -/
def putSlot (t : Tms) (dst : Option Tmp) (v : Slot) : Tms :=
  match dst with
  | some d => t.set d v
  | none => t

/-! ### A state laid open: values in place of what is still to be worked out -/
def fNat {α : Type} : Nat → (Nat → α) → α
  | 0, k => k 0
  | n + 1, k => k (Nat.succ n)

def fNats {α : Type} : List Nat → (List Nat → α) → α
  | [], k => k []
  | n :: l, k => fNat n fun n => fNats l fun l => k (n :: l)

def fBool {α : Type} (b : Bool) (k : Bool → α) : α :=
  match b with
  | true => k true
  | false => k false

def fLeaf {α : Type} (l : Leaf) (k : Leaf → α) : α :=
  match l with
  | .undef => k .undef
  | .hole => k .hole
  | .kb b => fBool b fun b => k (.kb b)
  | .dat kd x => k (.dat kd x)
  | .clip kd x => k (.clip kd x)
  | .nn b kd x => fBool b fun b => k (.nn b kd x)
  | .nils => k .nils
  | .row id => fNat id fun id => k (.row id)
  | .ptr id o => fNat id fun id => fNat o fun o => k (.ptr id o)
  | .eptr id i o => fNat id fun id => fNat o fun o => k (.eptr id i o)
  | .vw id s l n => fNat id fun id => fNat s fun s => k (.vw id s l n)
  | .dptr kd x => k (.dptr kd x)
  | .emp => k .emp
  | .aptr kd x => k (.aptr kd x)
  | .nilp => k .nilp
  | .fn f cs => fNat f fun f => fNats cs fun cs => k (.fn f cs)
  | .nilf => k .nilf
  | .yld id => fNat id fun id => k (.yld id)

def fLeafs {α : Type} : List Leaf → (List Leaf → α) → α
  | [], k => k []
  | x :: l, k => fLeaf x fun x => fLeafs l fun l => k (x :: l)

def fAV {α : Type} (v : AV) (k : AV → α) : α :=
  match v with
  | .one l => fLeaf l fun l => k (.one l)
  | .agg ls => fLeafs ls fun ls => k (.agg ls)

def fAVs {α : Type} : List AV → (List AV → α) → α
  | [], k => k []
  | x :: l, k => fAV x fun x => fAVs l fun l => k (x :: l)

def fSlot {α : Type} (s : Slot) (k : Slot → α) : α :=
  match s with
  | .av v => fAV v fun v => k (.av v)
  | .tup vs => fAVs vs fun vs => k (.tup vs)

def fBlk {α : Type} (b : Blk) (k : Blk → α) : α :=
  match b with
  | .box ls => fLeafs ls fun ls => k (.box ls)
  | .row e kd xs => fNat e fun e => k (.row e kd xs)
  | .frz kd xs => k (.frz kd xs)
  | .dead => k .dead
  | .lrec b pe rl => fBool b fun b => k (.lrec b pe rl)

def fHeap {α : Type} : Heap → (Heap → α) → α
  | [], k => k []
  | (n, b) :: l, k => fNat n fun n => fBlk b fun b => fHeap l fun l => k ((n, b) :: l)

section
variable {α : Type}
theorem fNat_eq (n : Nat) (k : Nat → α) : fNat n k = k n := by cases n <;> rfl
theorem fNats_eq : ∀ (l : List Nat) (k : List Nat → α), fNats l k = k l
  | [], _ => rfl
  | n :: l, k => by simp only [fNats, fNat_eq, fNats_eq l]
theorem fBool_eq (b : Bool) (k : Bool → α) : fBool b k = k b := by cases b <;> rfl
theorem fLeaf_eq (l : Leaf) (k : Leaf → α) : fLeaf l k = k l := by cases l <;> simp only [fLeaf, fNat_eq, fNats_eq, fBool_eq]
theorem fLeafs_eq : ∀ (l : List Leaf) (k : List Leaf → α), fLeafs l k = k l
  | [], _ => rfl
  | n :: l, k => by simp only [fLeafs, fLeaf_eq, fLeafs_eq l]
theorem fAV_eq (v : AV) (k : AV → α) : fAV v k = k v := by cases v <;> simp only [fAV, fLeaf_eq, fLeafs_eq]
theorem fAVs_eq : ∀ (l : List AV) (k : List AV → α), fAVs l k = k l
  | [], _ => rfl
  | n :: l, k => by simp only [fAVs, fAV_eq, fAVs_eq l]
theorem fSlot_eq (v : Slot) (k : Slot → α) : fSlot v k = k v := by cases v <;> simp only [fSlot, fAV_eq, fAVs_eq]
theorem fBlk_eq (v : Blk) (k : Blk → α) : fBlk v k = k v := by cases v <;> simp only [fBlk, fLeafs_eq, fNat_eq, fBool_eq]
theorem fHeap_eq : ∀ (l : Heap) (k : Heap → α), fHeap l k = k l
  | [], _ => rfl
  | (n, b) :: l, k => by simp only [fHeap, fNat_eq, fBlk_eq, fHeap_eq l]
theorem Tm.setK_eq : ∀ (t : Tm) (n : Nat) (v : Slot) (k : Tm → α), t.setK n v k = k (t.set n v)
  | .nil, _, _, _ => rfl
  | .node l x r, n, v, k => by
    simp only [Tm.setK, Tm.set]
    cases Nat.beq n 0 with
    | true => rfl
    | false =>
      simp only [cond_false]
      cases Nat.beq (Nat.mod n 2) 1 with
      | true => simp only [cond_true, Tm.setK_eq l]
      | false => simp only [cond_false, Tm.setK_eq r]
end

def Tms.setK {α : Type} (t : Tms) (i : Nat) (v : Slot) (k : Tms → α) : α := bif Nat.blt i t.n then t.m.setK i v fun m => k { n := t.n, m := m } else k t
theorem Tms.setK_eq {α : Type} (t : Tms) (i : Nat) (v : Slot) (k : Tms → α) : t.setK i v k = k (t.set i v) := by
  unfold Tms.setK Tms.set
  cases Nat.blt i t.n <;> simp only [cond_true, cond_false, Tm.setK_eq]

/-- The heap, written, worked out. -/
def fSets {α : Type} (h : Heap) (u : List (Nat × Blk)) (k : Heap → α) : α :=
  match u with
  | [] => k h
  | p :: u => fHeap (h.sets (p :: u)) k
theorem fSets_eq {α : Type} (h : Heap) (u : List (Nat × Blk)) (k : Heap → α) : fSets h u k = k (h.sets u) := by
  cases u with
  | nil => rfl
  | cons p u => exact fHeap_eq _ _

def putK {α : Type} (t : Tms) (dst : Option Tmp) (v : Slot) (k : Tms → α) : α :=
  match dst with
  | some d => fSlot v fun v => t.setK d v k
  | none => k t
theorem putK_eq {α : Type} (t : Tms) (dst : Option Tmp) (v : Slot) (k : Tms → α) : putK t dst v k = k (putSlot t dst v) := by
  cases dst <;> simp only [putK, putSlot, fSlot_eq, Tms.setK_eq]

/-- The state behind an operation, worked out. -/
def nextSt {α : Type} (σ : St) (dst : Option Tmp) (v : Slot) (u : List (Nat × Blk)) (k : St → α) : α := putK σ.t dst v fun t => fSets σ.h u fun h => k { t := t, h := h }
theorem nextSt_eq {α : Type} (σ : St) (dst : Option Tmp) (v : Slot) (u : List (Nat × Blk)) (k : St → α) : nextSt σ dst v u k = k { t := putSlot σ.t dst v, h := σ.h.sets u } := by
  simp only [nextSt, putK_eq, fSets_eq]

/-- A call of yield. -/
def yldOf (E : Env) (σ : St) (o : Oper) : Option (Nat × List AV) :=
  match o.op with
  | .call c => match c.callee with
    | .value fo => match opLeaf E σ fo with
      | some (.yld id) => match opAVs E σ c.args.toList with
        | some vs => some (id, vs)
        | none => none
      | _ => none
    | _ => none
  | _ => none

def stepY (E : Env) (o : Oper) (σ : St) : Tr St :=
  match yldOf E σ o with
  | some p => (E.yl p.1 p.2 σ.h).bind fun r => putK σ.t o.dst (one (.kb r.1)) fun t => fHeap r.2 fun h => .ret { t := t, h := h }
  | none => .fail

def step1 (E : Env) (o : Oper) (σ : St) : Tr St :=
  match opRun E σ o with
  | some r => need r.c (nextSt σ o.dst r.v r.u .ret)
  | none => stepY E o σ

def guardSlot (ops : List Oper) (j : Nat) : Option Tmp :=
  match nth ops j with
  | some o => o.dst
  | none => none

def skipped (o : Oper) (σ : St) : Tr St := nextSt σ o.dst holeS [] .ret

def step (E : Env) (ops : List Oper) (o : Oper) (σ : St) : Tr St :=
  match o.guard with
  | none => step1 E o σ
  | some (j, want) =>
    match guardSlot ops j with
    | none => .fail
    | some d => match σ.t.at d with
      | some (.av (.one (.kb b))) => bif bxor b want then skipped o σ else step1 E o σ
      | some (.av (.one .hole)) => skipped o σ
      | some (.av (.one (.dat .bool b))) =>
        .ite b (nextSt σ (some d) (one (.kb true)) [] fun yes => bif want then step1 E o yes else skipped o yes) (nextSt σ (some d) (one (.kb false)) [] fun no => bif want then skipped o no else step1 E o no)
      | _ => .fail

def steps (E : Env) (ops : List Oper) : List Oper → St → Tr St
  | [], σ => .ret σ
  | o :: l, σ => (step E ops o σ).bind (steps E ops l)

/-! ### A region whose order is drawn: every operation on what it looks at alone, and no two that may change places touch one another -/
def reachO (g : Nat → Option Blk) : Nat → List Nat → List Nat → Option (List Nat)
  | 0, _, _ => none
  | _ + 1, [], seen => some seen
  | n + 1, id :: todo, seen =>
    bif memN id seen then reachO g n todo seen else
    match g id with
    | some b => reachO g n (app todo b.ids) (app seen [id])
    | none => none

def blksO (g : Nat → Option Blk) : List Nat → Option (List Blk)
  | [] => some []
  | id :: ids => match g id with
    | some b => match blksO g ids with
      | some bs => some (b :: bs)
      | none => none
    | none => none

structure Rec where
  v : Slot
  u : List (Nat × Blk)
  ids : List Nat

def opsTmps : List Operand → List Nat
  | [] => []
  | .tmp t :: l => t :: opsTmps l
  | _ :: l => opsTmps l

def sndO : List (Nat × Operand) → List Operand
  | [] => []
  | p :: l => p.2 :: sndO l

def optO : Option Operand → List Operand
  | some o => [o]
  | none => []

def opOperands : Op → List Operand
  | .move x | .assign x | .box _ x | .load _ x | .nilCheck x | .unOp _ _ x | .convert _ _ x | .fieldAddr _ x _ | .field _ x _ | .extract x _ => [x]
  | .pick c a b => [c, a, b]
  | .build _ ps => sndO ps.toList
  | .buildSlice _ _ ps => sndO ps.toList
  | .store _ a v | .binOp _ _ a v _ | .makeSlice _ a v | .indexAddr _ a v | .index _ a v => [a, v]
  | .makeFunc _ _ captured => captured.toList
  | .slice _ x l h m => x :: app (optO l) (app (optO h) (optO m))
  | .call c => match c.callee with
    | .value f => f :: c.args.toList
    | _ => c.args.toList
  | _ => []

def guardD (ops : List Oper) (o : Oper) : Option Nat :=
  match o.guard with
  | some (j, _) => guardSlot ops j
  | none => none

def looks (ops : List Oper) (o : Oper) : List Nat :=
  match guardD ops o with
  | some d => d :: opsTmps (opOperands o.op)
  | none => opsTmps (opOperands o.op)

def keepT (t : Tm) : List Nat → Tm → Tm
  | [], m => m
  | i :: l, m => m.setK i (t.get i) (keepT t l)

/-- Only these slots. -/
def Tms.keep (t : Tms) (live : List Nat) : Tms := { n := t.n, m := keepT t.m live (Tm.full 10) }

def Tms.ids (t : Tms) : List Nat → List Nat
  | [] => []
  | i :: l => app (t.m.get i).ids (t.ids l)

def wantD (ops : List Oper) (m : Tms) (o : Oper) : Option Bool :=
  match o.guard with
  | none => some true
  | some (j, want) => match guardSlot ops j with
    | some d => match m.at d with
      | some (.av (.one (.kb b))) => some (Bool.not (bxor b want))
      | some (.av (.one .hole)) => some false
      | _ => none
    | none => none

def isGuard (ops : List Oper) (d : Nat) : List Oper → Bool
  | [] => false
  | o :: l => match guardD ops o with
    | some d' => bif Nat.beq d d' then true else isGuard ops d l
    | none => isGuard ops d l

def dstGuard (ops : List Oper) (o : Oper) : Bool :=
  match o.dst with
  | some d => isGuard ops d ops
  | none => false

def splitD (b : Bool) (ρ : Rec) : Tr Rec :=
  match b, ρ.v with
  | true, .av (.one (.dat .bool x)) => .ite x (.ret { v := one (.kb true), u := ρ.u, ids := ρ.ids }) (.ret { v := one (.kb false), u := ρ.u, ids := ρ.ids })
  | _, _ => .ret ρ

/-- What an operation comes to that looks at no block. -/
def ptrOp (E : Env) (m : Tms) (o : Oper) : Option Slot :=
  match o.op with
  | .fieldAddr t x f => match E.tt t with
    | some ty => match opLeaf E { t := m, h := [] } x with
      | some (.ptr id off) => match fieldAddrR ty [] (.ptr id off) f with
        | some l => some (one l)
        | none => none
      | _ => none
    | none => none
  | .move x => match opnd E { t := m, h := [] } x with
    | some (.av (.one (.ptr id off))) => some (.av (.one (.ptr id off)))
    | some (.av (.one (.row id))) => some (.av (.one (.row id)))
    | _ => none
  | _ => none

def runD (E : Env) (ops : List Oper) (o : Oper) (t : Tms) (g : Nat → Option Blk) : Tr Rec :=
  let m := t.keep (looks ops o)
  match wantD ops m o with
  | some false => .ret { v := holeS, u := [], ids := [] }
  | some true =>
    match ptrOp E m o with
    | some v => .ret { v := v, u := [], ids := [] }
    | none =>
    match reachO g 100 (m.ids (looks ops o)) [] with
    | some ids => match blksO g ids with
      | some bs => bif nodupN ids && (subN (m.ids (looks ops o)) ids && subN (flat Blk.ids bs) ids) then
          match opRun E { t := m, h := zipK ids bs } o with
          | some r => (need r.c (.ret ({ v := r.v, u := r.u, ids := ids } : Rec))).bind (splitD (dstGuard ops o))
          | none => .fail
        else .fail
      | none => .fail
    | none => .fail
  | none => .fail

def keysOf : List (Nat × Blk) → List Nat
  | [] => []
  | p :: l => p.1 :: keysOf l

def disj : List Nat → List Nat → Bool
  | [], _ => true
  | a :: l, m => bif memN a m then false else disj l m

def binds (e : Edge) : Bool :=
  match e.ground with
  | .textOnly _ => false
  | .gcOnly _ => false
  | _ => true

/-- What an operation waits for. -/
def waits : List Edge → List Nat
  | [] => []
  | e :: l => bif binds e then e.on :: waits l else waits l

def allLt (k : Nat) : List Nat → Bool
  | [] => true
  | a :: l => bif Nat.blt a k then allLt k l else false

def dstNe (a b : Option Nat) : Bool :=
  match a, b with
  | some x, some y => Bool.not (Nat.beq x y)
  | _, _ => true

def dstNot (a : Option Nat) (l : List Nat) : Bool :=
  match a with
  | some x => Bool.not (memN x l)
  | none => true

/-- These two may change places. -/
def apart (ops : List Oper) (o : Oper) (ρ : Rec) (o' : Oper) (ρ' : Rec) : Bool :=
  (dstNe o.dst o'.dst && (dstNot o.dst (looks ops o') && dstNot o'.dst (looks ops o))) &&
    (disj (keysOf ρ.u) (app ρ'.ids (keysOf ρ'.u)) && disj (keysOf ρ'.u) ρ.ids)

def okPrev (ops : List Oper) (o : Oper) (ρ : Rec) : List (Nat × Oper × Rec) → Bool
  | [] => true
  | (i, o', ρ') :: l => bif memN i (waits o.after.toList) || apart ops o' ρ' o ρ then okPrev ops o ρ l else false

def okNew (g : Nat → Option Blk) (ids : List Nat) : List (Nat × Blk) → Bool
  | [] => true
  | p :: l => bif memN p.1 ids then okNew g ids l else match g p.1 with
    | none => okNew g ids l
    | some _ => false

def stepsD (E : Env) (ops : List Oper) : Nat → List Oper → List (Nat × Oper × Rec) → St → Tr St
  | _, [], _, σ => .ret σ
  | k, o :: l, prev, σ => bif allLt k (waits o.after.toList) then
      (runD E ops o σ.t σ.h.get).bind fun ρ =>
        bif okNew σ.h.get ρ.ids ρ.u && okPrev ops o ρ prev then
          nextSt σ o.dst ρ.v ρ.u (stepsD E ops (k + 1) l ((k, o, ρ) :: prev))
        else .fail
    else .fail

/-- A slot's blocks may be told by other numbers. -/
def Leaf.free : Leaf → Bool
  | .eptr _ _ _ => false
  | _ => true

def freeL : List Leaf → Bool
  | [] => true
  | l :: r => bif l.free then freeL r else false

def freeAVs : List AV → Bool
  | [] => true
  | v :: r => bif freeL v.leafs then freeAVs r else false

def Slot.free : Slot → Bool
  | .av v => freeL v.leafs
  | .tup vs => freeAVs vs

def freeT (t : Tm) : List Nat → Tm → Tm
  | [], m => m
  | i :: l, m => m.setK i (bif (t.get i).free then t.get i else undefS) (freeT t l)

/-- Only these slots, and of them only such as may be told by other numbers. -/
def Tms.free (t : Tms) (live : List Nat) : Tms := { n := t.n, m := freeT t.m live (Tm.full 10) }

def renT (ρ : Nat → Nat) (t : Tm) : List Nat → Tm → Tm
  | [], m => m
  | i :: l, m => fSlot ((t.get i).ren ρ) fun v => m.setK i v (renT ρ t l)

def Tms.ren (ρ : Nat → Nat) (t : Tms) (live : List Nat) : Tms := { n := t.n, m := renT ρ t.m live (Tm.full 10) }

def fixed (ids : List Nat) : Nat → Bool
  | 0 => true
  | n + 1 => bif memN n ids && Nat.beq (toPos ids n) n then fixed ids n else false

def upto : Nat → Nat → List Nat
  | 0, _ => []
  | n + 1, i => i :: upto n (i + 1)

def widLeaf (key : Nat) (w : Wd) (l : Leaf) (h : Heap) : Option (Leaf × List (Nat × Blk)) :=
  match w with
  | .row e k => match l with
    | .nils => (isNew h key).bind fun _ => bif Nat.blt 0 k.sz then some (.row key, [(key, .row e k [])]) else none
    | .emp => (isNew h key).bind fun _ => bif Nat.blt 0 k.sz then some (.row key, [(key, .row e k [])]) else none
    | _ => none
  | .dat k => match packOne h k l with
    | some (x, f) => some (.dat k x, frozenUpd h f)
    | none => none

def wid1 {α : Type} (wl : Wl) (σ : St) (k : St → α) : α :=
  match σ.t.at wl.i with
  | some (.av (.one l)) => match wl.c with
    | none => match widLeaf (Nat.add 900000 (Nat.mul 1000 wl.i)) wl.w l σ.h with
      | some (l', u) => nextSt σ (some wl.i) (one l') u k
      | none => k σ
    | some j => match l with
      | .ptr id _ => match σ.h.get id with
        | some (.box ls) => match nth ls j with
          | some x => match widLeaf (Nat.add (Nat.add 900000 (Nat.mul 1000 wl.i)) (Nat.succ j)) wl.w x σ.h with
            | some (x', u) => bif x'.known && Bool.not (memN id (keysU u)) then fSets σ.h (app u [(id, .box (setNth ls j x'))]) fun h => k { t := σ.t, h := h } else k σ
            | none => k σ
          | none => k σ
        | _ => k σ
      | _ => k σ
  | some (.av (.agg ls)) => match wl.c with
    | some j => match nth ls j with
      | some x => match widLeaf (Nat.add (Nat.add 900000 (Nat.mul 1000 wl.i)) (Nat.succ j)) wl.w x σ.h with
        | some (x', u) => nextSt σ (some wl.i) (.av (.agg (setNth ls j x'))) u k
        | none => k σ
      | none => k σ
    | none => k σ
  | _ => k σ
where keysU : List (Nat × Blk) → List Nat
  | [] => []
  | p :: l => p.1 :: keysU l

def wids {α : Type} : List Wl → St → (St → α) → α
  | [], σ, k => k σ
  | w :: l, σ, k => wid1 w σ fun σ => wids l σ k

/-- At a loop's head: the slots that live on; the blocks that they reach, numbered anew (those that are lent keep theirs). -/
def canon0 (m : Nat) (live : List Nat) (σ : St) : St :=
  let t := σ.t.free live
  let ids := reach σ.h 100 (t.ids live) (reach σ.h 100 (upto m 0) [])
  match blksAt σ.h ids with
  | some bs => bif (nodupN ids && fixed ids m) && (subN (t.ids live) ids && subN (flat Blk.ids bs) ids) then
      fHeap (zipN 0 (bs.map (Blk.ren (toPos ids)))) fun h => { t := t.ren (toPos ids) live, h := h }
    else { t := t, h := σ.h }
  | none => { t := t, h := σ.h }

def canon (m : Nat) (live : Lv) (σ : St) : St := wids live.wd σ fun σ => canon0 m live.ls σ

/-! ### What a loop comes to, told ahead -/
def valsK {α : Type} (t : Tm) : List Nat → (List Slot → α) → α
  | [], k => k []
  | i :: l, k => fSlot (t.get i) fun v => valsK t l fun vs => k (v :: vs)

def unT : List Nat → List Slot → Tm → Tm
  | i :: l, v :: vs, m => m.setK i v (unT l vs)
  | _, _, m => m

/-- The frame with these slots. -/
def unV (live : Lv) (x : VS) : St := { t := { n := x.n, m := unT live.ls x.v (Tm.full 10) }, h := x.h }

def canonW {α : Type} (m : Nat) (live : List Nat) (σ : St) (k : VS → α) : α :=
  fNat σ.t.n fun n => valsK (canon0 m live σ).t.m live fun v => fHeap (canon0 m live σ).h fun h => k { n := n, v := v, h := h }

def canonV {α : Type} (m : Nat) (live : Lv) (σ : St) (k : VS → α) : α := wids live.wd σ fun σ => canonW m live.ls σ k

def canV (m : Nat) (live : Lv) (σ : St) : VS := canonV m live σ fun x => x

def loopKey : Code → Nat
  | .region id _ _ => id
  | .seq a _ => loopKey a
  | .block _ c => loopKey c
  | .loop c => loopKey c
  | .cond _ a _ => loopKey a
  | _ => 0

def loopN (f : St → Tr (Ex × St)) (m : Nat) (live : Lv) : Nat → St → Tr (Ex × St)
  | 0, _ => .fail
  | n + 1, σ => canonV m live σ fun x => (f (unV live x)).bind fun r => match r.1 with
    | .nrm => loopN f m live n r.2
    | _ => .ret r

/-- A loop: so many rounds, till what it comes to is told. -/
def loopT (f : St → Tr (Ex × St)) (ls : VS → Option (Tr (Ex × VS))) (m : Nat) (live out : Lv) : Nat → St → Tr (Ex × St)
  | 0, σ => canonV m live σ fun x => match ls x with
    | some tr => tr.bind fun r => .ret (r.1, unV out r.2)
    | none => .fail
  | n + 1, σ => canonV m live σ fun x => match ls x with
    | some tr => tr.bind fun r => .ret (r.1, unV out r.2)
    | none => (f (unV live x)).bind fun r => match r.1 with
      | .nrm => loopT f ls m live out n r.2
      | _ => .ret r

def argsT : Nat → List AV → Tm → Tm
  | _, [], m => m
  | i, v :: l, m => fAV v fun v => m.setK i (.av v) (argsT (i + 1) l)

/-- The slots of a round's variables. -/
def putPs : List Tmp → List AV → Tms → Option Tms
  | [], [], t => some t
  | p :: ps, v :: vs, t => putPs ps vs (t.set p (.av v))
  | _, _, _ => none

def exCode : Ex → Option Code
  | .nrm => none
  | .ret => some .ret
  | .exit id => some (.exit id)

/-- One round: the slots that the loop began with, the variables, what is done ahead, the body. -/
def yldR (run : Code → St → Tr (Ex × St)) (t : Tms) (m id : Nat) (vs : List AV) (h : Heap) : Tr (Bool × Heap) :=
  bif Nat.beq id m then
    match h.get m with
    | some (.lrec false none rl) => match putPs rl.ps vs t with
      | some t1 => (run rl.asg { t := t1, h := h }).bind fun r => match r.1 with
        | .nrm => match r.2.h.get m with
          | some (.lrec false none rl2) => (run rl.body { t := r.2.t, h := r.2.h.set m (.lrec true none rl2) }).bind fun r => match r.2.h.get m with
            | some (.lrec true _ rl) => .ret (match r.1 with | .nrm => true | _ => false, r.2.h.set m (.lrec false (exCode r.1) rl))
            | _ => .fail
          | _ => .fail
        | _ => .fail
      | none => .fail
    | _ => .fail
  else .fail

def Env.inner (E : Env) (m : Nat) (yl : Nat → List AV → Heap → Tr (Bool × Heap)) : Env := { tt := E.tt, fn := E.fn, glob := E.glob, live := E.live, fuel := E.fuel, lent := m, it := E.it, yl := yl }
def Env.fueled (E : Env) (k : Nat) : Env := { tt := E.tt, fn := E.fn, glob := E.glob, live := E.live, fuel := k, lent := E.lent, it := E.it, yl := E.yl, ls := E.ls }
/-- In a round: no loops, no ranges. -/
def Env.round (E : Env) : Env := { tt := E.tt, fn := E.fn, glob := E.glob, live := E.live, fuel := 0, lent := E.lent, it := fun _ => none, yl := E.yl }

def contig : Nat → Heap → Bool
  | _, [] => true
  | n, p :: h => Nat.beq p.1 n && contig (n + 1) h

/-- What is pending behind the iterator. -/
def jumpOf : Option Code → Option Ex
  | none => some .nrm
  | some .ret => some .ret
  | some (.exit id) => some (.exit id)
  | _ => none

def ranges (inner : Env → Code → St → Tr (Ex × St)) (E : Env) (rl : RL) (f : Operand) (σ : St) : Tr (Ex × St) :=
  match opLeaf E σ f with
  | some (.fn g caps) => match E.it g with
    | some fn => match fn.body with
      | some c =>
        let m := len σ.h
        bif contig 0 σ.h && (Nat.ble (Nat.succ (len caps)) fn.ntmps && Nat.beq (len fn.results.toList) 0) then
          (inner (E.inner (Nat.succ m) (yldR (inner E.round) σ.t m)) c
            { t := { n := fn.ntmps, m := argsT 0 (.one (.yld m) :: caps.map fun id => AV.one (.ptr id 0)) (Tm.full 10) }, h := σ.h.set m (.lrec false none rl) }).bind fun r => match r.1 with
            | .exit _ => .fail
            | _ => canonV (Nat.succ m) { ls := [] } r.2 fun y => match y.h.get m with
              | some (.lrec false pe _) => match jumpOf pe with
                | some e => .ret (e, { t := σ.t, h := y.h.set m .dead })
                | none => .fail
              | _ => .fail
        else .fail
      | none => .fail
    | none => .fail
  | _ => .fail

def evC (inner : Env → Code → St → Tr (Ex × St)) : Code → Env → St → Tr (Ex × St)
  | .skip, _, σ => .ret (.nrm, σ)
  | .region _ ops d, E, σ => match d with
    | false => (steps E ops.toList ops.toList σ).bind fun σ => .ret (.nrm, σ)
    | true => (stepsD E ops.toList 0 ops.toList [] σ).bind fun σ => .ret (.nrm, σ)
  | .seq a b, E, σ => (evC inner a E σ).bind fun r => match r.1 with
    | .nrm => evC inner b E r.2
    | _ => .ret r
  | .cond c a b, E, σ =>
    match c with
    | .tmp d => match σ.t.at d with
      | some (.av (.one (.kb true))) => evC inner a E σ
      | some (.av (.one (.kb false))) => evC inner b E σ
      | some (.av (.one (.dat .bool x))) => .ite x (nextSt σ (some d) (one (.kb true)) [] (evC inner a E)) (nextSt σ (some d) (one (.kb false)) [] (evC inner b E))
      | _ => .fail
    | .const (.bool true) => evC inner a E σ
    | .const (.bool false) => evC inner b E σ
    | _ => .fail
  | .block id c, E, σ => (evC inner c E σ).bind fun r => match r.1 with
    | .exit i => bif Nat.beq i id then .ret (.nrm, r.2) else .ret r
    | _ => .ret r
  | .loop c, E, σ => loopT (evC inner c E) (E.ls (loopKey c)) E.lent (E.live (loopKey c)) (E.live (Nat.add 1000 (loopKey c))) E.fuel σ
  | .rangeFunc f ps asg body, E, σ => canonV E.lent (E.live (Nat.add 500 (loopKey body))) σ fun x => match E.ls (Nat.add 500 (loopKey body)) x with
    | some tr => tr.bind fun r => .ret (r.1, unV (E.live (Nat.add 1500 (loopKey body))) r.2)
    | none => ranges inner E { ps := ps.toList, asg := asg, body := body } f (unV (E.live (Nat.add 500 (loopKey body))) x)
  | .exit id, _, σ => .ret (.exit id, σ)
  | .ret, _, σ => .ret (.ret, σ)
  | _, _, _ => .fail

def evI : Nat → Env → Code → St → Tr (Ex × St)
  | 0 => fun _ _ _ => .fail
  | n + 1 => fun E c σ => evC (evI n) c E σ

def ev (E : Env) (c : Code) (σ : St) : Tr (Ex × St) := evC (evI 2) c E σ

/-! ### Functions -/
def resVals (E : Env) (σ : St) : List ResultVar → Option (List AV)
  | [] => some []
  | .tmp t :: r => match σ.t.at t with
    | some (.av v) => match resVals E σ r with
      | some vs => some (v :: vs)
      | none => none
    | _ => none
  | .cell a ty :: r => match σ.t.at a with
    | some (.av (.one (.ptr id off))) => match E.tt ty with
      | some ty => match loadR ty σ.h (.ptr id off) with
        | some v => match resVals E σ r with
          | some vs => some (v :: vs)
          | none => none
        | none => none
      | none => none
    | _ => none

structure FRes where
  rs : Slot
  upd : List Blk
  new : List Blk

def tupOf : List AV → Slot
  | [v] => .av v
  | vs => .tup vs

/-- The result of a function: what it was lent, and what is new, in order. -/
def finish (E : Env) (fn : Func) (rm : List PM) (m : Nat) (σ : St) : Tr FRes :=
  match resVals E σ fn.results.toList with
  | some vs => match packArgs σ.h rm vs with
    | some (ws, fz) =>
      let h1 := σ.h.sets (frozenUpd σ.h fz)
      let ids := reach h1 100 (flat AV.ids ws) (reach h1 100 (upto m 0) [])
      match blksAt h1 ids with
      | some bs => bif (nodupN ids && fixed ids m) && (freeAVs ws && (subN (flat AV.ids ws) ids && subN (flat Blk.ids bs) ids)) then
          .ret { rs := (tupOf ws).ren (toPos ids), upd := take m (bs.map (Blk.ren (toPos ids))), new := drop m (bs.map (Blk.ren (toPos ids))) }
        else .fail
      | none => .fail
    | none => .fail
  | none => .fail

def Env.lend (E : Env) (m : Nat) : Env := { tt := E.tt, fn := E.fn, glob := E.glob, live := E.live, fuel := E.fuel, lent := m, it := E.it, ls := E.ls }

def evFn (E : Env) (fn : Func) (rm : List PM) (args : List AV) (bs : List Blk) : Tr FRes :=
  match fn.body with
  | some c => bif Nat.ble (len args) fn.ntmps then
    (ev (E.lend (len bs)) c { t := { n := fn.ntmps, m := argsT 0 args (Tm.full 10) }, h := zipN 0 bs }).bind fun r => match r.1 with
    | .exit _ => .fail
    | _ => wids (E.live 7777).wd r.2 fun σ => finish E fn rm (len bs) σ
    else .fail
  | none => .fail

end Go.Ev
