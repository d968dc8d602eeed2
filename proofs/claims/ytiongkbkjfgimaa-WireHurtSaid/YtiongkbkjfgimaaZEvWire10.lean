/- WireBack's loops: their words. -/
import Derived.Test.YtiongkbkjfgimaaZEvWire9
set_option linter.unusedVariables false
set_option maxRecDepth 20000
namespace W
open Go Go.Ev
/-- What is sent: of the first six, cut, those that may be. -/
def sent (l : List Fr) : List Fr := ((l.take 6).map cut).filter may
end W
namespace Go.Proofs.Ytiongkbkjfgimaa
open Go.Ev Go.RowKit
def live6 (key : Nat) : List Nat := bif Nat.beq key 4 then [1, 4, 5, 6, 18, 19, 20] else bif Nat.beq key 1004 then [1, 4, 5, 6] else bif Nat.beq key 14 then [1, 4, 5, 6, 11, 12, 13] else bif Nat.beq key 1014 then [4, 6, 11, 12] else []
abbrev dC (l : List Int) : Slot := .av (.one (.dat (.sl (.int .i64)) l))
abbrev lS (l : Leaf) : Slot := .av (.one l)
def g6a (v : List Slot) (h : Heap) : Option (Tr (Ex × VS)) :=
  match v, h with
  | [.av (.one (.dat (.sl (.int .i64)) c)), .av (.one (.kb b)), .av (.one (.dat .str a)), .av (.one .nils), .av (.one (.dat (.sl (.pr (.int .i64) (.pr .str .un))) l)), .av (.one (.dat (.int .i64) n)), .av (.one (.dat (.int .i64) i))], [] =>
    some (.ite (!b && (decide ((a : ByteArray) = ByteArray.empty) && (decide ((n : Int) = (List.length (α := W.Fr) l : Int)) && decide ((i : Int) = 0))))
      (.ite (W.sent l).isEmpty (.ret (.exit 0, ⟨106, [dC c, kB false, dS ByteArray.empty, lS .nils], []⟩)) (.ret (.exit 0, ⟨106, [dC c, kB false, dS (W.cat (W.sent l)), lS (.row 0)], [(0, .row 36 fk (W.sent l))]⟩))) .fail)
  | _, _ => none
def okB (a : ByteArray) : Bool := decide (a.size ≤ 3900) && decide ((W.frames a).2 = ByteArray.empty)
def g6b (v : List Slot) (h : Heap) : Option (Tr (Ex × VS)) :=
  match v, h with
  | [.av (.one (.dat (.sl (.int .i64)) c)), .av (.one (.kb b)), .av (.one (.dat .str a)), .av (.one .nils), .av (.one (.ptr p q)), .av (.one .nils), .av (.one (.dat (.int .i64) i))], [(k, .box [.dat .str x, .dat .bool y])] =>
    bif natsEq [p, q, k] [0, 0, 0] then
      some (.ite (!b && (decide ((a : ByteArray) = ByteArray.empty) && (decide ((x : ByteArray) = ByteArray.empty) && (!y && decide ((i : Int) = 0))))) (.ret (.exit 2, ⟨106, [kB false, lS .nils, pS 0, lS .nils], [(0, boxD ByteArray.empty false)]⟩)) .fail)
    else none
  | [.av (.one (.dat (.sl (.int .i64)) c)), .av (.one (.kb b)), .av (.one (.dat .str a)), .av (.one (.row r)), .av (.one (.ptr p q)), .av (.one .nils), .av (.one (.dat (.int .i64) i))], [(k0, .row e (.pr (.int .i64) (.pr .str .un)) m), (k1, .box [.dat .str x, .dat .bool y])] =>
    bif natsEq [r, p, q, k0, e, k1] [0, 1, 0, 0, 36, 1] then
      some (.ite (!b && (okB a && (!decide ((a : ByteArray) = ByteArray.empty) && (decide ((x : ByteArray) = ByteArray.empty) && (!y && decide ((i : Int) = 0))))))
        (.ret (.exit 2, ⟨106, [kB false, lS (.row 0), pS 1, lS (.row 2)], [(0, .row 36 fk m), (1, boxD ByteArray.empty false), (2, .row 36 fk (W.frames a).1)]⟩)) .fail)
    else none
  | _, _ => none
def ls6 (key : Nat) (x : VS) : Option (Tr (Ex × VS)) :=
  bif Nat.beq key 4 && Nat.beq x.n 106 then g6a x.v x.h else bif Nat.beq key 14 && Nat.beq x.n 106 then g6b x.v x.h else none
abbrev E6 : Env := (E0.withFns M11).loops live6 ls6
end Go.Proofs.Ytiongkbkjfgimaa
