/- Letters: the tables, what the functions compute. -/
import Derived.Test.YtmnbcnhpklejcaaDoorZEvBytes
import Derived.Test.YtmnbcnhpklejcaaDoorZEvTypes
import Derived.Shelf.Unicode.DecodeSlow
set_option linter.unusedVariables false
namespace U
open Go Go.Ev
def firstL : List Int := (List.range 256).map fun i => Lib.firstT i
def accL : List (Int × Int × Unit) := (List.range 16).map fun i => (Lib.accLo i, Lib.accHi i, ())
end U
namespace Go.Proofs.YtmnbcnhpklejcaaDoor
open Go.Ev
@[reducible] def acck : Kd := .pr (.int .u8) (.pr (.int .u8) .un)
def gl (g : Nat) : Option GV := bif Nat.beq g 0 then some (.arr (.int .u8) U.firstL) else bif Nat.beq g 1 then some (.arr acck U.accL) else none
def E0 : Env := { tt := tt, glob := gl }
theorem hm : Tryd.prog.follows .mixedOrders = true := by kernel_rfl
abbrev dI (k : IntKind) (n : Int) : Slot := .av (.one (.dat (.int k) n))
abbrev dS (s : ByteArray) : Slot := .av (.one (.dat .str s))
abbrev pS (n : Nat) : Slot := .av (.one (.ptr n 0))
abbrev kB (b : Bool) : Slot := .av (.one (.kb b))
end Go.Proofs.YtmnbcnhpklejcaaDoor
