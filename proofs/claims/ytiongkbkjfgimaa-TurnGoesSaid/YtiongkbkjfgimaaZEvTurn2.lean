/- The turn's functions, more. -/
import Derived.Test.YtiongkbkjfgimaaZEvTurn
set_option linter.unusedVariables false
set_option maxRecDepth 20000
namespace Pl
def cap (n l : Int) : Int := bif decide (1099511627776 < Go.IntKind.i64.wrap (n + l)) then 1099511627776 else Go.IntKind.i64.wrap (n + l)
def take (h u who n l : Int) : Int × Int × Int :=
  bif !right h u then (0, 0, 1) else bif !client who then (0, 0, 1) else bif !time n then (0, 0, 1) else bif decide (l < 1) then (0, 0, 1) else bif decide (1000 < l) then (0, 0, 1) else
  bif decide (at_ h u n = 0) || decide (at_ h u n = who) then (who, Go.Ev.minI (Go.IntKind.i64.wrap (n + l)) 1099511627776, 0) else (0, 0, 10)
def leave (h u who n : Int) : Int × Int × Int :=
  bif !right h u then (0, 0, 1) else bif !client who then (0, 0, 1) else bif !time n then (0, 0, 1) else bif !decide (at_ h u n = who) then (0, 0, 10) else (0, 0, 0)
def gone (h u who : Int) : Int × Int × Int :=
  bif !right h u then (0, 0, 1) else bif !client who then (0, 0, 1) else bif decide (h = who) then (0, 0, 0) else (h, u, 0)
def tick (h u n : Int) : Int × Int × Int :=
  bif !right h u then (0, 0, 1) else bif !time n then (0, 0, 1) else bif decide (at_ h u n = 0) then (0, 0, 0) else (h, u, 0)
def may (h u who n : Int) : Bool := right h u && (client who && (decide (h = who) && decide (n < u)))
def is (h u e bad h' u' : Int) : Bool :=
  bif !decide (bad = 0) then decide (e = bad) && (decide (h = 0) && decide (u = 0)) else decide (e = 0) && (decide (h = h') && decide (u = u'))
end Pl
namespace Go.Proofs.Ytiongkbkjfgimaa
open Go.Ev Go.RowKit

def t3 (x : Int × Int × Int) : Slot := .tup [.agg [.dat (.int .i64) x.1, .dat (.int .i64) x.2.1], .one (.dat (.int .i64) x.2.2)]
def T3 (x : Int × Int × Int) : SRes := { rs := t3 x }
def r3 (a b c : Int) : FRes := ⟨.tup [.agg [.dat (.int .i64) a, .dat (.int .i64) b], .one (.dat (.int .i64) c)], [], []⟩
def s8 : FSpec := dspec [tk, .int .i64, .int .i64, .int .i64] fun x => T3 (Pl.take x.1.1 x.1.2.1 x.2.1 x.2.2.1 x.2.2.2.1)
def s9 : FSpec := dspec [tk, .int .i64, .int .i64] fun x => T3 (Pl.leave x.1.1 x.1.2.1 x.2.1 x.2.2.1)
def s10 : FSpec := dspec [tk, .int .i64] fun x => T3 (Pl.gone x.1.1 x.1.2.1 x.2.1)
def s11 : FSpec := dspec [tk, .int .i64] fun x => T3 (Pl.tick x.1.1 x.1.2.1 x.2.1)
def s15 : FSpec := dspec [tk, .int .i64, .int .i64] fun x => bool1 (Pl.may x.1.1 x.1.2.1 x.2.1 x.2.2.1)
def s17 : FSpec := dspec [tk, .int .i64, .int .i64, tk] fun x => bool1 (Pl.is x.1.1 x.1.2.1 x.2.1 x.2.2.1 x.2.2.2.1.1 x.2.2.2.1.2.1)

def L4 : List (Nat × FSpec) := [(30, s30), (29, s29), (14, s14), (41, s45), (33, s43), (32, s42), (31, s31)]
theorem A4 : AllFn Try.prog E0 L4 := .cons ok30 (.cons ok29 (.cons ok14 (.cons ok41 (.cons ok33 (.cons ok32 (.cons ok31 .nil))))))
abbrev rt : List PM := [.data tk, .data (.int .i64)]

theorem ok8 : SpecOK Try.prog E0 8 s8 := by
  refine dspec_ok (E := E0.withFns L4) (fns := L4) tab A4 rfl rfl hm Try.func8 (by kernel_rfl) rt fun x _ => ?_
  obtain ⟨⟨h, u, z⟩, who, n, l, z'⟩ := x
  have e : evFn (E0.withFns L4) Try.f8 rt (toAVs [tk, .int .i64, .int .i64, .int .i64] ((h, u, z), who, n, l, z')) [] =
      .ite (!Pl.right h u) (.ret (r3 0 0 1)) (.ite (!Pl.client who) (.ret (r3 0 0 1)) (.ite (!Pl.time n) (.ret (r3 0 0 1)) (.ite (decide (l < 1)) (.ret (r3 0 0 1)) (.ite (decide (1000 < l)) (.ret (r3 0 0 1))
        (.ite (!decide (Pl.at_ h u n = 0))
          (.ite (!decide ((bif decide (Pl.at_ h u n = 0) then who else Pl.at_ h u n : Int) = who)) (.ret (r3 0 0 10))
            (.ret (r3 (bif decide ((bif decide (Pl.at_ h u n = 0) then who else Pl.at_ h u n : Int) = who) then who else (bif decide (Pl.at_ h u n = 0) then who else Pl.at_ h u n : Int) : Int) (minI (IntKind.i64.wrap (n + l)) 1099511627776) 0)))
          (.ret (r3 (bif decide (Pl.at_ h u n = 0) then who else Pl.at_ h u n : Int) (minI (IntKind.i64.wrap (n + l)) 1099511627776) 0))))))) := by kernel_rfl
  rw [e]
  simp only [Tr.val, T3, t3, r3, Pl.take]
  cases Pl.right h u <;> cases Pl.client who <;> cases Pl.time n <;> cases decide (l < 1) <;> cases decide (1000 < l) <;> try rfl
  by_cases h1 : Pl.at_ h u n = 0
  · simp [h1]
  · by_cases h2 : Pl.at_ h u n = who <;> simp [h1, h2]
end Go.Proofs.Ytiongkbkjfgimaa
