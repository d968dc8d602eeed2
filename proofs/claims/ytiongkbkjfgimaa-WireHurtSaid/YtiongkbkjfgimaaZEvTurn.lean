/- The turn's functions: what each computes. -/
import Derived.Test.YtiongkbkjfgimaaZEvTurn0
import Derived.Test.YtiongkbkjfgimaaZEvTypes
set_option linter.unusedVariables false
set_option maxRecDepth 20000
namespace Go.Proofs.Ytiongkbkjfgimaa
open Go.Ev Go.RowKit

abbrev E0 : Env := { tt := tt }
theorem hm : Try.prog.follows .mixedOrders = true := by kernel_rfl

def rb (b : Bool) : FRes := ⟨one (.dat .bool b), [], []⟩

theorem ok30 : SpecOK Try.prog E0 30 s30 := by
  refine dspec_ok (E := E0.withFns []) (fns := []) tab .nil rfl rfl hm Try.func30 (by kernel_rfl) [.data .bool] fun x _ => ?_
  obtain ⟨n, u⟩ := x
  have e : evFn (E0.withFns []) Try.f30 [.data .bool] (toAVs [.int .i64] (n, u)) [] = .ite (decide (0 ≤ n)) (.ret (rb (decide (n ≤ 1099511627776)))) (.ret (rb false)) := by kernel_rfl
  rw [e]
  simp only [Tr.val, bool1, Pl.time, rb]
  cases decide (0 ≤ n) <;> rfl

theorem ok29 : SpecOK Try.prog E0 29 s29 := by
  refine dspec_ok (E := E0.withFns []) (fns := []) tab .nil rfl rfl hm Try.func29 (by kernel_rfl) [.data .bool] fun x _ => ?_
  obtain ⟨n, u⟩ := x
  have e : evFn (E0.withFns []) Try.f29 [.data .bool] (toAVs [.int .i64] (n, u)) [] = .ite (decide (1 ≤ n)) (.ret (rb (decide (n ≤ 99)))) (.ret (rb false)) := by kernel_rfl
  rw [e]
  simp only [Tr.val, bool1, Pl.client, rb]
  cases decide (1 ≤ n) <;> rfl

def L1 : List (Nat × FSpec) := [(30, s30), (29, s29)]
theorem A1 : AllFn Try.prog E0 L1 := .cons ok30 (.cons ok29 .nil)

theorem ok14 : SpecOK Try.prog E0 14 s14 := by
  refine dspec_ok (E := E0.withFns L1) (fns := L1) tab A1 rfl rfl hm Try.func14 (by kernel_rfl) [.data .bool] fun x _ => ?_
  obtain ⟨⟨h, u, z⟩, z'⟩ := x
  have e : evFn (E0.withFns L1) Try.f14 [.data .bool] (toAVs [tk] ((h, u, z), z')) [] = .ite (decide (h = 0) && decide (u = 0)) (.ret (rb true)) (.ite (Pl.client h) (.ret (rb (Pl.time u))) (.ret (rb false))) := by kernel_rfl
  rw [e]
  simp only [Tr.val, bool1, Pl.right, rb]
  cases decide (h = 0) <;> cases decide (u = 0) <;> cases Pl.client h <;> rfl

theorem ok45 : SpecOK Try.prog E0 45 s45 := store_ok Try.func45 (by kernel_rfl) (by kernel_rfl) (by kernel_rfl) (by kernel_rfl)
theorem ok43 : SpecOK Try.prog E0 43 s43 := load_ok Try.func43 (by kernel_rfl) (by kernel_rfl) (by kernel_rfl) (by kernel_rfl)
theorem ok42 : SpecOK Try.prog E0 42 s42 := cas_ok Try.func42 (by kernel_rfl) (by kernel_rfl) (by kernel_rfl) (by kernel_rfl)

def L2 : List (Nat × FSpec) := [(45, s45), (43, s43), (42, s42)]
theorem A2 : AllFn Try.prog E0 L2 := .cons ok45 (.cons ok43 (.cons ok42 .nil))

theorem ok41 : SpecOK Try.prog E0 41 s45 := by
  refine cellSpec_ok (E := E0.withFns L2) (fns := L2) tab A2 rfl rfl hm Try.func41 (by kernel_rfl) [] fun x y => ?_
  obtain ⟨v, u⟩ := y
  have e : evFn (E0.withFns L2) Try.f41 [] (.one (.ptr 0 0) :: toAVs [.int .i64] (v, u)) [.box [.dat (.int .i64) x]] = .ret ⟨.tup [], [.box [.dat (.int .i64) v]], []⟩ := by kernel_rfl
  rw [e]
  rfl

theorem ok33 : SpecOK Try.prog E0 33 s43 := by
  refine cellSpec_ok (E := E0.withFns L2) (fns := L2) tab A2 rfl rfl hm Try.func33 (by kernel_rfl) [.data (.int .i64)] fun x y => ?_
  have e : evFn (E0.withFns L2) Try.f33 [.data (.int .i64)] (.one (.ptr 0 0) :: toAVs [] y) [.box [.dat (.int .i64) x]] = .ret ⟨one (.dat (.int .i64) x), [.box [.dat (.int .i64) x]], []⟩ := by kernel_rfl
  rw [e]
  rfl

theorem ok32 : SpecOK Try.prog E0 32 s42 := by
  refine cellSpec_ok (E := E0.withFns L2) (fns := L2) tab A2 rfl rfl hm Try.func32 (by kernel_rfl) [.data .bool] fun x y => ?_
  obtain ⟨a, b, u⟩ := y
  have e : evFn (E0.withFns L2) Try.f32 [.data .bool] (.one (.ptr 0 0) :: toAVs [.int .i64, .int .i64] (a, b, u)) [.box [.dat (.int .i64) x]] = .ret ⟨one (.dat .bool (decide (x = a))), [.box [.dat (.int .i64) (bif decide (x = a) then b else x : Int)]], []⟩ := by kernel_rfl
  rw [e]
  rfl

def L3 : List (Nat × FSpec) := [(30, s30), (29, s29), (14, s14), (41, s45), (33, s43), (32, s42)]
theorem A3 : AllFn Try.prog E0 L3 := .cons ok30 (.cons ok29 (.cons ok14 (.cons ok41 (.cons ok33 (.cons ok32 .nil)))))

theorem ok31 : SpecOK Try.prog E0 31 s31 := by
  refine dspec_ok (E := E0.withFns L3) (fns := L3) tab A3 rfl rfl hm Try.func31 (by kernel_rfl) [.raw] fun x _ => ?_
  obtain ⟨⟨h, u, z⟩, n, z'⟩ := x
  have e : evFn (E0.withFns L3) Try.f31 [.raw] (toAVs [tk, .int .i64] ((h, u, z), n, z')) [] =
      .ite (decide (n < u)) (.ret ⟨one (.ptr 0 0), [], [.box [.dat (.int .i64) h]]⟩) (.ret ⟨one (.ptr 0 0), [], [.box [.dat (.int .i64) (0 : Int)]]⟩) := by kernel_rfl
  rw [e]
  simp only [Tr.val, Pl.at_]
  by_cases hlt : n < u <;> simp [hlt]
end Go.Proofs.Ytiongkbkjfgimaa
