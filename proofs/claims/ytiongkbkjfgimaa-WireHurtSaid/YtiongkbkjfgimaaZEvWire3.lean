/- The rest of the wire's functions: their words. -/
import Derived.Test.YtiongkbkjfgimaaZEvWire2
set_option linter.unusedVariables false
set_option maxRecDepth 20000
namespace W
open Go Go.Ev
def may (f : Fr) : Bool := decide (1 ≤ f.1) && (decide (f.1 ≤ 12) && decide ((f.2.1.size : Int) ≤ 512))
def hd (f : Fr) : ByteArray := strOf [IntKind.u8.wrap f.1, IntKind.u8.wrap ((f.2.1.size : Int) / 256), IntKind.u8.wrap (f.2.1.size : Int)] ++ f.2.1
def enc (f : Fr) : ByteArray := hd f ++ strOf [sum (hd f)]
def asks (s : ByteArray) : Int := bif decide ((s.size : Int) < 3) then 0 else num s + 4
def cut (f : Fr) : Fr := (f.1, f.2.1.extract 0 (min f.2.1.size 515), ())
end W
namespace Go.Ev
def w38 : FSpec := dspec [.str] fun x => { c := some (small x.1), rs := one (.dat (.int .i64) (W.asks x.1)) }
def w39 : FSpec := dspec [.str] fun x => { c := some (small x.1), rs := one (.dat .bool (decide (W.first x.1 < 0))) }
def w37 : FSpec := dspec [.str] fun x => { c := some (small x.1), rs := one (.dat .bool (decide (0 < W.first x.1))) }
def w27 : FSpec := dspec [fk] fun x => { rs := one (.dat .bool (W.may x.1)) }
def w28 : FSpec := dspec [fk] fun x => { c := some (decide (x.1.2.1.size ≤ 1000000)), rs := one (.dat .str (W.enc x.1)) }
def w20 : FSpec := dspec [fk] fun x => { rs := .tup [.one (.dat .str (bif W.may x.1 then W.enc x.1 else ByteArray.empty)), .one (.dat (.int .i64) (bif W.may x.1 then 0 else 1 : Int))] }
def w19 : FSpec := dspec [fk] fun x => { rs := .av (.agg [.dat (.int .i64) (W.cut x.1).1, .dat .str (W.cut x.1).2.1]) }
def w25 : FSpec := dspec [.sl fk, .sl fk] fun x => { c := some (decide (List.length x.1 ≤ 1048576)), rs := one (.dat .bool (decide ((x.1 : List W.Fr) = x.2.1))) }
def okF (x : tup [dk, .str]) : Bool := decide (x.1.1.size + x.2.1.size ≤ 1048576)
def w21 : FSpec := dspec [dk, .str] fun x => { c := some (okF x), rs := .tup [.agg [.dat .str (W.feed x.1 x.2.1).1.1, .dat .bool (W.feed x.1 x.2.1).1.2.1], .one (.dat (.sl fk) (W.feed x.1 x.2.1).2.1), .one (.dat (.int .i64) (W.feed x.1 x.2.1).2.2)] }
def w22 : FSpec := dspec [dk, .str] fun x => { c := some (okF x), rs := .av (.agg [.dat .str (W.feed x.1 x.2.1).1.1, .dat .bool (W.feed x.1 x.2.1).1.2.1, .dat (.sl fk) (W.feed x.1 x.2.1).2.1, .dat (.int .i64) (W.feed x.1 x.2.1).2.2]) }
def w26 : FSpec := dspec [] fun _ => { rs := one (.dat .bool true) }
@[reducible] def tkd : Kd := .pr .str (.pr .bool (.pr (.sl fk) (.pr (.int .i64) .un)))
end Go.Ev
namespace Go.Proofs.Ytiongkbkjfgimaa
open Go.Ev Go.RowKit
def M4 : List (Nat × FSpec) := [(34, w34)]
def M5 : List (Nat × FSpec) := [(38, w38), (40, w34)]
def M6 : List (Nat × FSpec) := [(38, w38), (39, w39)]
def M7 : List (Nat × FSpec) := [(37, w37), (39, w39)]
def M8 : List (Nat × FSpec) := [(40, w34)]
def M9 : List (Nat × FSpec) := [(24, w23), (37, w37), (38, w38), (39, w39)]
def M10 : List (Nat × FSpec) := [(20, w20), (21, w21)]

/-! ### The reference's loops -/
def live40 (key : Nat) : List Nat := bif Nat.beq key 3 then [0, 3, 4] else bif Nat.beq key 1003 then [3] else []
abbrev A40 : Type := ByteArray × Int × Int
def V40 (x : A40) : VS := ⟨20, [dS x.1, dI .i64 x.2.1, dI .i64 x.2.2], []⟩
def B40 (x : A40) : Tr (A40 ⊕ (Ex × VS)) :=
  .ite (decide (x.2.2 < (x.1.size : Int))) (.ite (inB x.2.2 x.1.size) (.ite true (.ret (.inl (x.1, (IntKind.i64.wrap (x.2.1 + IntKind.i64.wrap (bt x.1 x.2.2))).tmod 256, IntKind.i64.wrap (x.2.2 + 1)))) .fail) .fail)
    (.ret (.inr (.exit 0, ⟨20, [dI .i64 x.2.1], []⟩)))
def g40 (v : List Slot) (h : Heap) : Option (Tr (Ex × VS)) :=
  match v, h with
  | [.av (.one (.dat .str s)), .av (.one (.dat (.int .i64) n)), .av (.one (.dat (.int .i64) i))], [] =>
    some (.ite (decide (0 ≤ (n : Int) ∧ (n : Int) ≤ 255 ∧ 0 ≤ (i : Int) ∧ (i : Int) ≤ (ByteArray.size s : Int) ∧ (ByteArray.size s : Int) ≤ 1048576)) (.ret (.exit 0, ⟨20, [dI .i64 (W.sumL ((bl s).drop (Int.toNat i)) n)], []⟩)) .fail)
  | _, _ => none
def ls40 (key : Nat) (x : VS) : Option (Tr (Ex × VS)) := bif Nat.beq key 3 && Nat.beq x.n 20 then g40 x.v x.h else none
abbrev E40 : Env := (E0.withFns []).loops live40 ls40

def live25 (key : Nat) : List Nat := bif Nat.beq key 4 then [0, 1, 4, 12, 13] else bif Nat.beq key 1004 then [4] else []
abbrev A25 : Type := List W.Fr × List W.Fr × Int × Int
abbrev dF (l : List W.Fr) : Slot := .av (.one (.dat (.sl fk) l))
abbrev kB (b : Bool) : Slot := .av (.one (.kb b))
def V25 (x : A25) : VS := ⟨26, [dF x.1, dF x.2.1, kB false, dI .i64 x.2.2.1, dI .i64 x.2.2.2], []⟩
def same1 (f g : W.Fr) : Bool := decide (f.1 = g.1) && decide (f.2.1 = g.2.1)
def B25 (x : A25) : Tr (A25 ⊕ (Ex × VS)) :=
  .ite (decide (x.2.2.2 < x.2.2.1)) (.ite (inB x.2.2.2 x.1.length) (.ite (inB x.2.2.2 x.2.1.length) (.ite (!same1 (rget fk x.1 x.2.2.2) (rget fk x.2.1 x.2.2.2))
    (.ret (.inr (.ret, ⟨26, [kB false], []⟩))) (.ret (.inl (x.1, x.2.1, x.2.2.1, IntKind.i64.wrap (x.2.2.2 + 1))))) .fail) .fail)
    (.ret (.inr (.exit 0, ⟨26, [kB false], []⟩)))
def g25 (v : List Slot) (h : Heap) : Option (Tr (Ex × VS)) :=
  match v, h with
  | [.av (.one (.dat (.sl (.pr (.int .i64) (.pr .str .un))) a)), .av (.one (.dat (.sl (.pr (.int .i64) (.pr .str .un))) b)), .av (.one (.kb r)), .av (.one (.dat (.int .i64) l)), .av (.one (.dat (.int .i64) i))], [] =>
    some (.ite (!r && decide (List.length (α := W.Fr) a = List.length (α := W.Fr) b ∧ (l : Int) = (List.length (α := W.Fr) a : Int) ∧ 0 ≤ (i : Int) ∧ (i : Int) ≤ (l : Int) ∧ (l : Int) ≤ 1048576))
      (.ite (decide (List.drop (α := W.Fr) (Int.toNat i) a = List.drop (α := W.Fr) (Int.toNat i) b)) (.ret (.exit 0, ⟨26, [kB false], []⟩)) (.ret (.ret, ⟨26, [kB false], []⟩))) .fail)
  | _, _ => none
def ls25 (key : Nat) (x : VS) : Option (Tr (Ex × VS)) := bif Nat.beq key 4 && Nat.beq x.n 26 then g25 x.v x.h else none
abbrev E25 : Env := (E0.withFns []).loops live25 ls25

def live22 (key : Nat) : List Nat := bif Nat.beq key 7 then [4, 5, 6] else bif Nat.beq key 1007 then [4, 5, 6] else []
abbrev K22 : Type := (ByteArray × Bool × Int) × (ByteArray × Bool × Int)
abbrev A22 : Type := K22 × List W.Fr × ByteArray
abbrev boxT (x : ByteArray × Bool × Int) (l : Leaf) : Blk := .box [.dat .str x.1, .dat .bool x.2.1, l, .dat (.int .i64) x.2.2]
def leafO (m : Nat) : List W.Fr → Leaf
  | [] => .nils
  | _ :: _ => .row m
def V22 (x : A22) : VS := ⟨50, [pS 0, dS x.2.2, pS 1], (0, boxT x.1.1 .nils) :: (1, boxT x.1.2 (leafO 2 x.2.1)) :: rowO 2 x.2.1⟩
def Y22n (k : K22) (s : ByteArray) : VS := ⟨50, [pS 0, dS s, pS 1], [(0, boxT k.1 .nils), (1, boxT k.2 .nils)]⟩
def Y22r (k : K22) (l : List W.Fr) (s : ByteArray) : VS := ⟨50, [pS 0, dS s, pS 1], [(0, boxT k.1 .nils), (1, boxT k.2 (.row 2)), (2, .row 36 fk l)]⟩
def fr22 (s : ByteArray) : W.Fr := (IntKind.i64.wrap (bt s 0), s.extract 3 (IntKind.i64.wrap (W.asks s - 1)).toNat, ())
def B22 (x : A22) : Tr (A22 ⊕ (Ex × VS)) :=
  .ite (small x.2.2) (.ite (decide (0 < W.first x.2.2)) (.ite (small x.2.2) (.ite (inB 0 x.2.2.size)
    (.ite (decide ((0 : Int) ≤ (3 : Int) ∧ (3 : Int) ≤ IntKind.i64.wrap (W.asks x.2.2 - 1) ∧ IntKind.i64.wrap (W.asks x.2.2 - 1) ≤ (x.2.2.size : Int)))
    (.ite (cap21 (fr22 x.2.2) x.2.1) (.ite (decide ((0 : Int) ≤ W.asks x.2.2 ∧ W.asks x.2.2 ≤ (x.2.2.size : Int))) (.ret (.inl (x.1, x.2.1 ++ [fr22 x.2.2], x.2.2.extract (W.asks x.2.2).toNat x.2.2.size)))
    .fail) .fail) .fail) .fail) .fail) (.ret (.inr (.exit 0, V22 x)))) .fail
def g22 (v : List Slot) (h : Heap) : Option (Tr (Ex × VS)) :=
  match v, h with
  | [.av (.one (.ptr a0 b0)), .av (.one (.dat .str s)), .av (.one (.ptr a1 b1))], [(k0, .box [.dat .str x0, .dat .bool y0, .nils, .dat (.int .i64) z0]), (k1, .box [.dat .str x1, .dat .bool y1, .nils, .dat (.int .i64) z1])] =>
    bif natsEq [a0, b0, a1, b1, k0, k1] [0, 0, 1, 0, 0, 1] then
      some (.ite (small s) (.ite (W.frames s).1.isEmpty (.ret (.exit 0, Y22n ((x0, y0, z0), (x1, y1, z1)) (W.frames s).2)) (.ret (.exit 0, Y22r ((x0, y0, z0), (x1, y1, z1)) (W.frames s).1 (W.frames s).2))) .fail)
    else none
  | _, _ => none
def ls22 (key : Nat) (x : VS) : Option (Tr (Ex × VS)) := bif Nat.beq key 7 && Nat.beq x.n 50 then g22 x.v x.h else none
abbrev E22 : Env := (E0.withFns M9).loops live22 ls22

theorem hB40 (x : A40) : (evC (evI 2) (lc Try.f40 0) (E40.lend 0) (unV [0, 3, 4] (V40 x))).map (decL 0 [0, 3, 4] [3]) = (B40 x).map (encL V40) := by
  obtain ⟨s, n, i⟩ := x
  kernel_rfl
theorem hB25 (x : A25) : (evC (evI 2) (lc Try.f25 0) (E25.lend 0) (unV [0, 1, 4, 12, 13] (V25 x))).map (decL 0 [0, 1, 4, 12, 13] [4]) = (B25 x).map (encL V25) := by
  obtain ⟨a, b, l, i⟩ := x
  kernel_rfl
theorem hB22 (x : A22) : (evC (evI 2) (lc Try.f22 0) (E22.lend 0) (unV [4, 5, 6] (V22 x))).map (decL 0 [4, 5, 6] [4, 5, 6]) = (B22 x).map (encL V22) := by
  obtain ⟨⟨⟨x0, y0, z0⟩, ⟨x1, y1, z1⟩⟩, l, s⟩ := x
  cases l with
  | nil => kernel_rfl
  | cons f l => kernel_rfl
end Go.Proofs.Ytiongkbkjfgimaa
