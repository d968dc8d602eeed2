/- Letters: widths; the first letter; marks; cells. -/
import Derived.Test.YtmnbcnhpklejcaaDoorZEvUtf3
set_option linter.unusedVariables false
set_option linter.unusedSimpArgs false
set_option maxRecDepth 20000
namespace U
open Go Go.Ev
def width (r : Int) : Int := bif !valid r || (decide (r < 32) || (decide (127 ≤ r) && decide (r < 160))) then -1 else bif within zero r then 0 else bif within wide r then 2 else 1
/-- How many bytes are no letter. -/
def bad (s : ByteArray) : Int := bif decide (need (bt s 0) = 0) then 1 else bif !ok1 s then 1 else bif !cont (bt s 2) then 2 else 3
def isL (s : ByteArray) : Bool := !decide ((dec s).1 = 65533) || decide (1 < (dec s).2)
def first (s : ByteArray) : Int × Int × Int := bif !full s then (0, 0, 2) else bif isL s then ((dec s).1, (dec s).2, 0) else (0, bad s, 4)
def look (a : Int × Int × Int × Unit) : Bool := inn a.1 0 256 && (inn a.2.1 0 256 && inn a.2.2.1 0 255)
end U
namespace Go.Proofs.YtmnbcnhpklejcaaDoor
open Go.Ev Go.RowKit
@[reducible] def attk : Kd := .pr (.int .i64) (.pr (.int .i64) (.pr (.int .i64) .un))
@[reducible] def celk : Kd := .pr .str (.pr (.int .i64) (.pr attk .un))
@[reducible] def link : Kd := .pr (.sl celk) (.pr .bool .un)
def w140 : FSpec := dspec [.int .i32] fun x => ii (U.width x.1)
def w139 : FSpec := dspec [.str] fun x => { c := some (decide (ByteArray.size x.1 ≤ 1048576)), rs := .tup [.one (.dat (.int .i32) (U.first x.1).1), .one (.dat (.int .i64) (U.first x.1).2.1), .one (.dat (.int .i64) (U.first x.1).2.2)] }
def w94 : FSpec := dspec [attk] fun x => ib (U.look x.1)
def F6 : List (Nat × FSpec) := [(154, w154), (155, w155)]
def F7 : List (Nat × FSpec) := [(138, w138)]
def live139 (key : Nat) : Lv := bif Nat.beq key 6 then { ls := [0, 6] } else bif Nat.beq key 1006 then { ls := [6] } else { ls := [] }
abbrev E139 : Env := { (E0.withFns F6).loops live139 (fun _ _ => none) with fuel := 4 }
end Go.Proofs.YtmnbcnhpklejcaaDoor
