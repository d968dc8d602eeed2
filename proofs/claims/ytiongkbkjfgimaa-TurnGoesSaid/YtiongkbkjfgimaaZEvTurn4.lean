/- The law of the turn: what its function computes, and that it is true. -/
import Derived.Test.YtiongkbkjfgimaaZEvTurn3
set_option linter.unusedVariables false
set_option maxRecDepth 20000
namespace Go.Proofs.Ytiongkbkjfgimaa
open Go.Ev Go.RowKit

def L7 : List (Nat × FSpec) := [(8, s8), (9, s9), (10, s10), (11, s11), (15, s15), (14, s14), (12, s14), (13, s29), (18, s30), (17, s17), (16, s16)]
theorem A7 : AllFn Try.prog E0 L7 := .cons ok8 (.cons ok9 (.cons ok10 (.cons ok11 (.cons ok15 (.cons ok14 (.cons ok12 (.cons ok13 (.cons ok18 (.cons ok17 (.cons ok16 .nil))))))))))

section
variable (h u who n l : Int)
def isT (x : Int × Int × Int) (bad a b : Int) : Bool := Pl.is x.1 x.2.1 x.2.2 bad a b
def F_ : Tr FRes := .ret (rb false)
def tK : Tr FRes := .ret (rb (isT (Pl.take h u who n l) 0 who (minI (IntKind.i64.wrap (n + l)) 1099511627776)))
def tU : Tr FRes := .ite (!decide (h = 0)) (.ite (!decide (h = who)) (.ite (decide (n < u)) (.ret (rb (isT (Pl.take h u who n l) 10 h u))) (tK h u who n l)) (tK h u who n l)) (tK h u who n l)
def tL : Tr FRes := .ret (rb (isT (Pl.take h u who n l) 1 h u))
def tV : Tr FRes := .ite (decide (l < 1)) (tL h u who n l) (.ite (decide (1000 < l)) (tL h u who n l) (tU h u who n l))
def tB : Tr FRes := .ite (!isT (Pl.leave h u who n) 10 h u) F_ (tV h u who n l)
def tW : Option Bool → Tr FRes
  | none => tB h u who n l
  | some b => .ite b (.ite (!isT (Pl.leave h u who n) 0 0 0) F_ (.ite (!b) (tB h u who n l) (tV h u who n l))) (.ite (!b) (tB h u who n l) (tV h u who n l))
def tZ (bad : Int) : Tr FRes := .ite (isT (Pl.take h u who n l) bad h u) (.ret (rb (isT (Pl.leave h u who n) bad h u))) F_
def tX : Tr FRes := .ite (isT (Pl.tick h u n) 1 h u) (.ite (isT (Pl.take h u who n l) 1 h u) (.ret (rb (isT (Pl.leave h u who n) 1 h u))) F_) F_
def tY (has : Option Bool) (bad : Int) (ov : Int × Int) : Tr FRes := .ite (!isT (Pl.tick h u n) 0 ov.1 ov.2) F_ (.ite (!decide (bad = 0)) (tZ h u who n l bad) (tW h u who n l has))
def tR (has : Option Bool) (bad : Int) (go ov : Int × Int) : Tr FRes :=
  .ite (!isT (Pl.gone h u who) bad go.1 go.2) F_ (.ite (!Pl.right h u) (tX h u who n l) (.ite (!Pl.time n) (tX h u who n l) (tY h u who n l has bad ov)))
def tO (has : Option Bool) (bad : Int) (go : Int × Int) : Tr FRes := .ite (decide (u ≤ n)) (tR h u who n l has bad go (0, 0)) (tR h u who n l has bad go (h, u))
def tG (has : Option Bool) (bad : Int) : Tr FRes := .ite (decide (h = who)) (tO h u who n l has bad (0, 0)) (tO h u who n l has bad (h, u))
def tBad (has : Option Bool) : Tr FRes := .ite (!Pl.right h u) (tG h u who n l has 1) (.ite (!Pl.client who) (tG h u who n l has 1) (tG h u who n l has 0))
def tM (has : Option Bool) : Tr FRes := .ite (!(Pl.right h u == Pl.right h u)) F_ (.ite (!(Pl.may h u who n == has.getD false)) F_ (.ite false F_ (tBad h u who n l has)))
def tree : Tr FRes := .ite (Pl.right h u) (.ite (decide (h = who)) (.ite (Pl.client who) (tM h u who n l (some (decide (n < u)))) (tM h u who n l none)) (tM h u who n l none)) (tM h u who n l none)
end

set_option maxHeartbeats 4000000 in
theorem tree_eq (h u who n l : Int) (z : Unit) (z' : Unit) : evFn (E0.withFns L7) Try.f3 [.data .bool] (toAVs [tk, .int .i64, .int .i64, .int .i64] ((h, u, z), who, n, l, z')) [] = tree h u who n l := by kernel_rfl
end Go.Proofs.Ytiongkbkjfgimaa
