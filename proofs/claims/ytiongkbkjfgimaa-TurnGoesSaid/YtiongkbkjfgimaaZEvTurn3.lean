/- The turn's functions, the rest but the law. -/
import Derived.Test.YtiongkbkjfgimaaZEvTurn2
set_option linter.unusedVariables false
set_option maxRecDepth 20000
namespace Go.Proofs.Ytiongkbkjfgimaa
open Go.Ev Go.RowKit

theorem ok9 : SpecOK Try.prog E0 9 s9 := by
  refine dspec_ok (E := E0.withFns L4) (fns := L4) tab A4 rfl rfl hm Try.func9 (by kernel_rfl) rt fun x _ => ?_
  obtain ⟨⟨h, u, z⟩, who, n, z'⟩ := x
  have e : evFn (E0.withFns L4) Try.f9 rt (toAVs [tk, .int .i64, .int .i64] ((h, u, z), who, n, z')) [] =
      .ite (!Pl.right h u) (.ret (r3 0 0 1)) (.ite (!Pl.client who) (.ret (r3 0 0 1)) (.ite (!Pl.time n) (.ret (r3 0 0 1))
        (.ite (!decide (Pl.at_ h u n = who)) (.ret (r3 0 0 10)) (.ret (r3 0 0 0))))) := by kernel_rfl
  rw [e]
  simp only [Tr.val, T3, t3, r3, Pl.leave]
  cases Pl.right h u <;> cases Pl.client who <;> cases Pl.time n <;> cases decide (Pl.at_ h u n = who) <;> rfl

theorem ok10 : SpecOK Try.prog E0 10 s10 := by
  refine dspec_ok (E := E0.withFns L4) (fns := L4) tab A4 rfl rfl hm Try.func10 (by kernel_rfl) rt fun x _ => ?_
  obtain ⟨⟨h, u, z⟩, who, z'⟩ := x
  have e : evFn (E0.withFns L4) Try.f10 rt (toAVs [tk, .int .i64] ((h, u, z), who, z')) [] =
      .ite (!Pl.right h u) (.ret (r3 0 0 1)) (.ite (!Pl.client who) (.ret (r3 0 0 1)) (.ite (decide (h = who)) (.ret (r3 0 0 0)) (.ret (r3 h u 0)))) := by kernel_rfl
  rw [e]
  simp only [Tr.val, T3, t3, r3, Pl.gone]
  cases Pl.right h u <;> cases Pl.client who <;> cases decide (h = who) <;> rfl

theorem ok11 : SpecOK Try.prog E0 11 s11 := by
  refine dspec_ok (E := E0.withFns L4) (fns := L4) tab A4 rfl rfl hm Try.func11 (by kernel_rfl) rt fun x _ => ?_
  obtain ⟨⟨h, u, z⟩, n, z'⟩ := x
  have e : evFn (E0.withFns L4) Try.f11 rt (toAVs [tk, .int .i64] ((h, u, z), n, z')) [] =
      .ite (!Pl.right h u) (.ret (r3 0 0 1)) (.ite (!Pl.time n) (.ret (r3 0 0 1)) (.ite (decide (Pl.at_ h u n = 0)) (.ret (r3 0 0 0)) (.ret (r3 h u 0)))) := by kernel_rfl
  rw [e]
  simp only [Tr.val, T3, t3, r3, Pl.tick]
  cases Pl.right h u <;> cases Pl.time n <;> cases decide (Pl.at_ h u n = 0) <;> rfl

theorem ok15 : SpecOK Try.prog E0 15 s15 := by
  refine dspec_ok (E := E0.withFns L4) (fns := L4) tab A4 rfl rfl hm Try.func15 (by kernel_rfl) [.data .bool] fun x _ => ?_
  obtain ⟨⟨h, u, z⟩, who, n, z'⟩ := x
  have e : evFn (E0.withFns L4) Try.f15 [.data .bool] (toAVs [tk, .int .i64, .int .i64] ((h, u, z), who, n, z')) [] =
      .ite (Pl.right h u) (.ite (Pl.client who) (.ite (decide (h = who)) (.ret (rb (decide (n < u)))) (.ret (rb false))) (.ret (rb false))) (.ret (rb false)) := by kernel_rfl
  rw [e]
  simp only [Tr.val, bool1, rb, Pl.may]
  cases Pl.right h u <;> cases Pl.client who <;> cases decide (h = who) <;> rfl

theorem ok13 : SpecOK Try.prog E0 13 s29 := by
  refine dspec_ok (E := E0.withFns []) (fns := []) tab .nil rfl rfl hm Try.func13 (by kernel_rfl) [.data .bool] fun x _ => ?_
  obtain ⟨n, u⟩ := x
  have e : evFn (E0.withFns []) Try.f13 [.data .bool] (toAVs [.int .i64] (n, u)) [] = .ite (decide (1 ≤ n)) (.ret (rb (decide (n ≤ 99)))) (.ret (rb false)) := by kernel_rfl
  rw [e]
  simp only [Tr.val, bool1, Pl.client, rb]
  cases decide (1 ≤ n) <;> rfl

theorem ok18 : SpecOK Try.prog E0 18 s30 := by
  refine dspec_ok (E := E0.withFns []) (fns := []) tab .nil rfl rfl hm Try.func18 (by kernel_rfl) [.data .bool] fun x _ => ?_
  obtain ⟨n, u⟩ := x
  have e : evFn (E0.withFns []) Try.f18 [.data .bool] (toAVs [.int .i64] (n, u)) [] = .ite (decide (0 ≤ n)) (.ret (rb (decide (n ≤ 1099511627776)))) (.ret (rb false)) := by kernel_rfl
  rw [e]
  simp only [Tr.val, bool1, Pl.time, rb]
  cases decide (0 ≤ n) <;> rfl

def L5 : List (Nat × FSpec) := [(13, s29), (18, s30)]
theorem A5 : AllFn Try.prog E0 L5 := .cons ok13 (.cons ok18 .nil)

theorem ok12 : SpecOK Try.prog E0 12 s14 := by
  refine dspec_ok (E := E0.withFns L5) (fns := L5) tab A5 rfl rfl hm Try.func12 (by kernel_rfl) [.data .bool] fun x _ => ?_
  obtain ⟨⟨h, u, z⟩, z'⟩ := x
  have e : evFn (E0.withFns L5) Try.f12 [.data .bool] (toAVs [tk] ((h, u, z), z')) [] =
      .ite (decide (h = 0)) (.ite (decide (u = 0)) (.ret (rb true)) (.ite (Pl.client h) (.ret (rb (Pl.time u))) (.ret (rb false)))) (.ite (Pl.client h) (.ret (rb (Pl.time u))) (.ret (rb false))) := by kernel_rfl
  rw [e]
  simp only [Tr.val, bool1, Pl.right, rb]
  cases decide (h = 0) <;> cases decide (u = 0) <;> cases Pl.client h <;> rfl

theorem ok17 : SpecOK Try.prog E0 17 s17 := by
  refine dspec_ok (E := E0.withFns []) (fns := []) tab .nil rfl rfl hm Try.func17 (by kernel_rfl) [.data .bool] fun x _ => ?_
  obtain ⟨⟨h, u, z⟩, c, b, ⟨h', u', z1⟩, z'⟩ := x
  have e : evFn (E0.withFns []) Try.f17 [.data .bool] (toAVs [tk, .int .i64, .int .i64, tk] ((h, u, z), c, b, (h', u', z1), z')) [] =
      .ite (!decide (b = 0)) (.ite (decide (c = b)) (.ret (rb (decide (h = 0) && decide (u = 0)))) (.ret (rb false)))
        (.ite (decide (c = 0)) (.ret (rb (decide (h = h') && decide (u = u')))) (.ret (rb false))) := by kernel_rfl
  rw [e]
  simp only [Tr.val, bool1, Pl.is, rb]
  cases decide (b = 0) <;> cases decide (c = 0) <;> cases decide (c = b) <;> rfl

def L6 : List (Nat × FSpec) := [(8, s8), (15, s15)]
theorem A6 : AllFn Try.prog E0 L6 := .cons ok8 (.cons ok15 .nil)

def s16 : FSpec := dspec [] fun _ => bool1 true

theorem ok16 : SpecOK Try.prog E0 16 s16 := by
  refine dspec_ok (E := E0.withFns L6) (fns := L6) tab A6 rfl rfl hm Try.func16 (by kernel_rfl) [.data .bool] fun x _ => ?_
  have e : (evFn (E0.withFns L6) Try.f16 [.data .bool] (toAVs [] x) []).val = some (rb true) := by kernel_rfl
  exact e
end Go.Proofs.Ytiongkbkjfgimaa
