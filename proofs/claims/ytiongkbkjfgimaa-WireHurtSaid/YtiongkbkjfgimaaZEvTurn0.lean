/- What the turn's functions compute, in plain Lean. -/
import Derived.Test.YtiongkbkjfgimaaZEvAtom
namespace Pl
def le (a b : Int) : Bool := decide (a ≤ b)
def eq (a b : Int) : Bool := decide (a = b)
def lt (a b : Int) : Bool := decide (a < b)
def time (n : Int) : Bool := decide (0 ≤ n) && decide (n ≤ 1099511627776)
def client (n : Int) : Bool := decide (1 ≤ n) && decide (n ≤ 99)
def right (h u : Int) : Bool := (decide (h = 0) && decide (u = 0)) || (client h && time u)
def at_ (h u now : Int) : Int := if now < u then h else 0
end Pl
namespace Go.Ev
@[reducible] def tk : Kd := .pr (.int .i64) (.pr (.int .i64) .un)
def bool1 (b : Bool) : SRes := { rs := one (.dat .bool b) }
def s30 : FSpec := dspec [.int .i64] fun x => bool1 (Pl.time x.1)
def s29 : FSpec := dspec [.int .i64] fun x => bool1 (Pl.client x.1)
def s14 : FSpec := dspec [tk] fun x => bool1 (Pl.right x.1.1 x.1.2.1)
def s45 : FSpec := cellSpec [.int .i64] fun _ y => (.tup [], y.1)
def s43 : FSpec := cellSpec [] fun x _ => (one (.dat (.int .i64) x), x)
def s42 : FSpec := cellSpec [.int .i64, .int .i64] fun x y => (one (.dat .bool (decide (x = y.1))), bif decide (x = y.1) then y.2.1 else x)
def s31 : FSpec := dspec [tk, .int .i64] fun x => { rs := one (.ptr 0 0), new := [.box [.dat (.int .i64) (Pl.at_ x.1.1 x.1.2.1 x.2.1 : Int)]] }
end Go.Ev
