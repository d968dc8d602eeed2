/- WireFeeds and WireCuts: the laws are true. -/
import Derived.Test.YtiongkbkjfgimaaZEvWireU
set_option linter.unusedVariables false
set_option linter.unusedSimpArgs false
set_option maxRecDepth 20000
namespace W
open Go Go.Ev Go.Proofs.Ytiongkbkjfgimaa

theorem minI_eq (n m : Nat) : minI (n : Int) (m : Int) = ((min n m : Nat) : Int) := by unfold minI; split <;> omega
theorem feed_len (d : De) (s : ByteArray) : (feed d s).2.1.length ≤ d.1.size + s.size := by
  unfold feed
  cases right d with
  | false => exact Nat.zero_le _
  | true =>
    cases d.2.1 with
    | true => exact Nat.zero_le _
    | false =>
      have := (frs_size (d.1 ++ s).size (d.1 ++ s)).2
      rw [app_size] at this
      have h2 : (frames (d.1 ++ s)).1.length ≤ d.1.size + s.size := by unfold frames; rw [app_size]; exact this
      cases hf : decide (first (frames (d.1 ++ s)).2 < 0) <;> simpa [hf] using h2
end W
namespace Go.Proofs.Ytiongkbkjfgimaa
open Go.Ev Go.RowKit

theorem v4 (n : Int) (a b : ByteArray) (d : Bool) (s : ByteArray) : (evFn (E0.withFns M11) Try.f4 [.data .bool] (toAVs [fk, dk, .str] ((n, a, ()), (b, d, ()), s, ())) []).val = some (rb true) := by
  rw [t4 n a b d s (v1 := ((min s.size 1200 : Nat) : Int)) (v2 := s.extract 0 (min s.size 1200)) (v3 := ((min b.size 600 : Nat) : Int)) (v4 := b.extract 0 (min b.size 600)) (v5 := n) (v6 := a.extract 0 (min a.size 515))
    (W.minI_eq s.size 1200) (by simp) (W.minI_eq b.size 600) (by simp) rfl rfl rfl rfl rfl rfl rfl]
  have e1 : (b.extract 0 (min b.size 600)).size = min b.size 600 := by rw [ext_size]; omega
  have e2 : (s.extract 0 (min s.size 1200)).size = min s.size 1200 := by rw [ext_size]; omega
  have e3 : (a.extract 0 (min a.size 515)).size = min a.size 515 := by rw [ext_size]; omega
  generalize hb : b.extract 0 (min b.size 600) = b' at *
  generalize hs : s.extract 0 (min s.size 1200) = s' at *
  generalize ha : a.extract 0 (min a.size 515) = a' at *
  have i1 : (decide ((0 : Int) ≤ ((min b.size 600 : Nat) : Int) ∧ ((min b.size 600 : Nat) : Int) ≤ (b.size : Int))) = true := by simp; omega
  have i2 : (decide ((0 : Int) ≤ ((min s.size 1200 : Nat) : Int) ∧ ((min s.size 1200 : Nat) : Int) ≤ (s.size : Int))) = true := by simp; omega
  have i3 : okF ((b', d, ()), s', ()) = true := by simp [okF]; omega
  have i4 : small b' = true := by simp [small]; omega
  have i5 : (decide ((W.feed (b', d, ()) s').2.1.length ≤ 1048576)) = true := by
    have : (W.feed (b', d, ()) s').2.1.length ≤ b'.size + s'.size := W.feed_len (b', d, ()) s'
    exact decide_eq_true (by omega)
  have i6 : (decide (a'.size ≤ 1000000)) = true := decide_eq_true (by omega)
  cases hm : W.may (n, a', ()) with
  | false => simp only [Tr.val, i1, i2, i3, i4, i5, hm, Bool.not_true, Bool.not_false, decide_true, Bool.and_self, beq_self_eq_true, cond_true, cond_false, Bool.and_true]; rfl
  | true => simp only [Tr.val, i1, i2, i3, i4, i5, i6, hm, Bool.not_true, Bool.not_false, decide_true, Bool.and_self, beq_self_eq_true, cond_true, cond_false, Bool.and_true]; rfl

def w4 : FSpec := dspec [fk, dk, .str] fun _ => bool1 true
theorem wk4 : SpecOK Try.prog E0 4 w4 := by
  refine dspec_ok (E0 := E0) (E := E0.withFns M11) (fns := M11) tab MA11 rfl rfl hm Try.func4 (by kernel_rfl) [.data .bool] (fun x hx => ?_)
  obtain ⟨⟨n, a, z⟩, ⟨b, d, z'⟩, s, z''⟩ := x
  exact v4 n a b d s
end Go.Proofs.Ytiongkbkjfgimaa
