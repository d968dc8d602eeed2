/- What the wire's functions compute, in plain Lean. -/
import Derived.Test.YtiongkbkjfgimaaZEvBytes
namespace W
open Go Go.Ev
abbrev Fr := Int × ByteArray × Unit
abbrev De := ByteArray × Bool × Unit
def sumL : List UInt8 → Int → Int
  | [], n => n
  | b :: l, n => sumL l (IntKind.u8.wrap (n + (b.toNat : Int)))
def sum (s : ByteArray) : Int := sumL s.data.toList 0
def num (s : ByteArray) : Int := bt s 1 * 256 + bt s 2
def first (s : ByteArray) : Int :=
  bif decide (s = ByteArray.empty) then 0 else bif decide (bt s 0 < 1) || decide (12 < bt s 0) then -1 else bif decide ((s.size : Int) < 3) then 0 else
  bif decide (512 < num s) then -1 else bif decide ((s.size : Int) < num s + 4) then 0 else
  bif !decide (sum (s.extract 0 (num s + 3).toNat) = bt s (num s + 3)) then -1 else num s + 4
def right (d : De) : Bool := bif d.2.1 then decide (d.1 = ByteArray.empty) else decide (first d.1 = 0)
/-- The frame that stands first, and what is behind it. -/
def frame (s : ByteArray) : Fr := (bt s 0, s.extract 3 (first s - 1).toNat, ())
def rest (s : ByteArray) : ByteArray := s.extract (first s).toNat s.size
def frs : Nat → ByteArray → List Fr × ByteArray
  | 0, s => ([], s)
  | n + 1, s => bif decide (0 < first s) then (frame s :: (frs n (rest s)).1, (frs n (rest s)).2) else ([], s)
def frames (s : ByteArray) : List Fr × ByteArray := frs s.size s
def zeroD : De := (ByteArray.empty, false, ())
def feed (d : De) (s : ByteArray) : De × List Fr × Int :=
  bif !right d then (zeroD, [], 1) else bif d.2.1 then (zeroD, [], 8) else
  bif decide (first (frames (d.1 ++ s)).2 < 0) then ((ByteArray.empty, true, ()), (frames (d.1 ++ s)).1, 4) else (((frames (d.1 ++ s)).2, false, ()), (frames (d.1 ++ s)).1, 0)
end W
namespace Go.Ev
@[reducible] def fk : Kd := .pr (.int .i64) (.pr .str .un)
@[reducible] def dk : Kd := .pr .str (.pr .bool .un)
def small (s : ByteArray) : Bool := decide (s.size ≤ 1048576)
def i64r (n : Int) : SRes := { rs := one (.dat (.int .i64) n) }
def w34 : FSpec := dspec [.str] fun x => { c := some (small x.1), rs := one (.dat (.int .u8) (W.sum x.1)) }
def w36 : FSpec := dspec [.str] fun x => { c := some (small x.1), rs := one (.dat (.int .i64) (W.first x.1)) }
def w23 : FSpec := dspec [dk] fun x => { c := some (small x.1.1), rs := one (.dat .bool (W.right x.1)) }
def w35 : FSpec := dspec [.str] fun x => { rs := one (.fn 44 [0]), new := [.box [.dat .str x.1]] }
end Go.Ev
