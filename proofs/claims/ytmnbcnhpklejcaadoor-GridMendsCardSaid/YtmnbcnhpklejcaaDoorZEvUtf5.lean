/- Letters: widths; the first letter. -/
import Derived.Test.YtmnbcnhpklejcaaDoorZEvUtfU
set_option linter.unusedVariables false
set_option linter.unusedSimpArgs false
set_option maxRecDepth 20000
namespace U
open Go Go.Ev Go.Proofs.YtmnbcnhpklejcaaDoor
theorem bt_pre {s : ByteArray} {k i : Nat} (h : i < k) (hk : k ≤ s.size) : bt (s.extract 0 k) (i : Int) = bt s (i : Int) := by
  rw [bt_eq (by omega), bt_eq (by omega), bl_ext, List.drop_zero]
  simp only [List.getD_eq_getElem?_getD, Int.toNat_natCast]
  rw [List.getElem?_take_of_lt h]
theorem size_pre {s : ByteArray} {k : Nat} (hk : k ≤ s.size) : (s.extract 0 k).size = k := by
  rw [← bl_len, bl_ext, List.drop_zero, List.length_take, bl_len]
  omega
theorem full_pre {s : ByteArray} {k : Nat} (h1 : 1 ≤ k) (hk : k ≤ s.size) : full (s.extract 0 k) =
    (bif decide (need (bt s 0) ≤ (k : Int)) then true else bif decide (1 < k) && !ok1 s then true else decide (2 < k) && !cont (bt s 2)) := by
  unfold full
  have e0 : bt (s.extract 0 k) 0 = bt s 0 := bt_pre (i := 0) (by omega) hk
  have e2 : 2 < k → bt (s.extract 0 k) 2 = bt s 2 := fun h => bt_pre (i := 2) h hk
  have e1 : 1 < k → ok1 (s.extract 0 k) = ok1 s := fun h => by
    unfold ok1
    have e1 : bt (s.extract 0 k) 1 = bt s 1 := bt_pre (i := 1) h hk
    rw [e0, e1]
  rw [size_pre hk, e0, decide_eq_false (show ¬ k = 0 by omega), cond_false]
  by_cases h : 1 < k
  · rw [e1 h]
    by_cases h2 : 2 < k
    · rw [e2 h2]
    · simp only [h2, decide_false, Bool.false_and]
  · have h2 : ¬ 2 < k := by omega
    simp only [h, h2, decide_false, Bool.false_and]

theorem bad_cases {s : ByteArray} (hf : full s = true) (hl : isL s = false) : (dec s).1 = 65533 ∧ (dec s).2 = 1 ∧ 1 ≤ s.size ∧
    (need (bt s 0) = 0 ∨ (2 ≤ need (bt s 0) ∧ 1 < s.size ∧ ok1 s = false) ∨ (3 ≤ need (bt s 0) ∧ 2 < s.size ∧ ok1 s = true ∧ cont (bt s 2) = false) ∨
      (need (bt s 0) = 4 ∧ 3 < s.size ∧ ok1 s = true ∧ cont (bt s 2) = true)) := by
  unfold isL at hl
  unfold full at hf
  have hs : ¬ s.size = 0 := fun h => by rw [decide_eq_true h] at hf; cases hf
  rw [decide_eq_false hs, cond_false] at hf
  have hN := need_cases (bt s 0)
  unfold dec at hl ⊢
  simp only [decide_eq_false hs, cond_false] at hl ⊢
  by_cases c0 : need (bt s 0) = 0
  · simp only [decide_eq_true c0, cond_true]
    exact ⟨by trivial, by trivial, by omega, .inl c0⟩
  simp only [decide_eq_false c0, cond_false] at hl ⊢
  by_cases c1 : need (bt s 0) = 1
  · simp only [decide_eq_true c1, cond_true] at hl
    have h2 : bt s 0 = 65533 := by simpa using hl
    omega
  simp only [decide_eq_false c1, cond_false] at hl ⊢
  by_cases c2 : (s.size : Int) < need (bt s 0)
  · simp only [decide_eq_true c2, cond_true]
    rw [decide_eq_false (show ¬ need (bt s 0) ≤ (s.size : Int) by omega), cond_false] at hf
    refine ⟨by trivial, by trivial, by omega, ?_⟩
    cases ho : ok1 s with
    | false =>
      by_cases h1 : 1 < s.size
      · exact .inr (.inl ⟨by omega, h1, by trivial⟩)
      · have h2 : ¬ 2 < s.size := by omega
        simp [h1, h2] at hf
    | true =>
      rw [ho] at hf
      simp only [Bool.not_true, Bool.and_false, cond_false, Bool.and_eq_true, decide_eq_true_eq, Bool.not_eq_true'] at hf
      exact .inr (.inr (.inl ⟨by omega, hf.1, by trivial, hf.2⟩))
  simp only [decide_eq_false c2, cond_false] at hl ⊢
  cases ho : ok1 s with
  | false =>
    simp only [ho, Bool.not_false, cond_true]
    exact ⟨by trivial, by trivial, by omega, .inr (.inl ⟨by omega, by omega, by trivial⟩)⟩
  | true =>
    rw [ho] at hl
    simp only [Bool.not_true, cond_false] at hl ⊢
    by_cases c3 : need (bt s 0) = 2
    · simp only [decide_eq_true c3, cond_true] at hl
      simp at hl
    simp only [decide_eq_false c3, cond_false] at hl ⊢
    cases hc : cont (bt s 2) with
    | false =>
      simp only [hc, Bool.not_false, cond_true]
      exact ⟨by trivial, by trivial, by omega, .inr (.inr (.inl ⟨by omega, by omega, by trivial, by trivial⟩))⟩
    | true =>
      rw [hc] at hl
      simp only [Bool.not_true, cond_false] at hl ⊢
      by_cases c4 : need (bt s 0) = 3
      · simp only [decide_eq_true c4, cond_true] at hl
        simp at hl
      simp only [decide_eq_false c4, cond_false] at hl ⊢
      cases hd : cont (bt s 3) with
      | false =>
        simp only [hd, Bool.not_false, cond_true]
        exact ⟨by trivial, by trivial, by omega, .inr (.inr (.inr ⟨by omega, by omega, by trivial, by trivial⟩))⟩
      | true =>
        rw [hd] at hl
        simp at hl
end U
namespace Go.Proofs.YtmnbcnhpklejcaaDoor
open Go.Ev Go.RowKit

theorem v155 (s : ByteArray) : (evFn (E0.withFns F1) Tryd.f155 [.data (.int .i32), .data (.int .i64)] (toAVs [.str] (s, ())) []).val = some (rd (U.dec s)) := by
  rw [t155 s rfl]
  by_cases c0 : s = { data := #[] }
  · simp only [Tr.val, c0, decide_true, Bool.not_true, cond_false]
  · have hp : 0 < s.size := by
      rcases Nat.eq_zero_or_pos s.size with e | e
      · refine absurd (bl_inj ?_) c0
        rw [show bl ({ data := #[] } : ByteArray) = [] from rfl]
        exact List.length_eq_zero_iff.1 (by rw [bl_len]; exact e)
      · exact e
    have i0 : inB 0 s.size = true := inB_true ⟨by omega, by omega⟩
    have hs : ¬ s.size = 0 := by omega
    have b0 := bt_ge s 0
    have b1 := bt_lt s 0
    by_cases c1 : bt s 0 < 128
    · have hn : U.need (bt s 0) = 1 := by unfold U.need; rw [if_pos c1]
      have e : U.dec s = (bt s 0, 1) := by
        unfold U.dec
        rw [decide_eq_false hs, hn]
        rfl
      simp only [Tr.val, c0, c1, i0, e, decide_true, decide_false, Bool.not_false, cond_true, wrap32_id (show -2147483648 ≤ bt s 0 by omega) (by omega)]
    · simp only [Tr.val, c0, c1, i0, decide_true, decide_false, Bool.not_false, cond_true, cond_false]
theorem wk155 : SpecOK Tryd.prog E0 155 w155 := by
  refine dspec_ok (E0 := E0) (E := E0.withFns F1) (fns := F1) tab (.cons wk169 .nil) rfl rfl hm Tryd.func155 (by kernel_rfl) [.data (.int .i32), .data (.int .i64)] (fun x hx => ?_)
  obtain ⟨s, z⟩ := x
  exact v155 s
theorem A6 : AllFn Tryd.prog E0 F6 := .cons wk154 (.cons wk155 .nil)

theorem v140 (r : Int) : (evFn (E0.withFns F5) Tryd.f140 [.data (.int .i64)] (toAVs [.int .i32] (r, ())) []).val = some (ri (U.width r)) := by
  rw [t140 r]
  unfold U.width
  cases h1 : U.valid r <;> by_cases h2 : r < 32 <;> by_cases h3 : 127 ≤ r <;> by_cases h4 : r < 160 <;> cases h5 : U.within U.zero r <;> cases h6 : U.within U.wide r <;>
    simp only [Tr.val, h1, h2, h3, h4, h5, h6, decide_true, decide_false, cond_true, cond_false, Bool.not_true, Bool.not_false, Bool.true_and, Bool.and_true, Bool.false_and, Bool.and_false, Bool.or_true, Bool.true_or, Bool.or_false, Bool.false_or, Bool.or_self, Bool.and_self] <;> rfl
theorem wk140 : SpecOK Tryd.prog E0 140 w140 := by
  refine dspec_ok (E0 := E0) (E := E0.withFns F5) (fns := F5) tab A5 rfl rfl hm Tryd.func140 (by kernel_rfl) [.data (.int .i64)] (fun x hx => ?_)
  obtain ⟨s, z⟩ := x
  exact v140 s
theorem wk94 : SpecOK Tryd.prog E0 94 w94 := by
  refine dspec_ok (E0 := E0) (E := E0.withFns F7) (fns := F7) tab (.cons wk138 .nil) rfl rfl hm Tryd.func94 (by kernel_rfl) [.data .bool] (fun x hx => ?_)
  obtain ⟨⟨a, b, c, z⟩, z'⟩ := x
  have e : evFn (E0.withFns F7) Tryd.f94 [.data .bool] (toAVs [attk] ((a, b, c, z), z')) [] = _ := t94 a b c
  rw [e]
  show Tr.val _ = some (rb (U.inn a 0 256 && (U.inn b 0 256 && U.inn c 0 255)))
  cases h1 : U.inn a 0 256 <;> cases h2 : U.inn b 0 256 <;> simp only [Tr.val, h1, h2, cond_true, cond_false, Bool.true_and, Bool.false_and] <;> rfl

abbrev r3 (x : Int × Int × Int) : FRes := ⟨.tup [.one (.dat (.int .i32) x.1), .one (.dat (.int .i64) x.2.1), .one (.dat (.int .i64) x.2.2)], [], []⟩
theorem v139 (s : ByteArray) : (evFn E139 Tryd.f139 [.data (.int .i32), .data (.int .i64), .data (.int .i64)] (toAVs [.str] (s, ())) []).val = some (r3 (U.first s)) := by
  rw [t139 s rfl rfl rfl rfl]
  unfold U.first
  cases hf : U.full s with
  | false => simp only [Tr.val, hf, Bool.not_false, cond_true]
  | true =>
    simp only [Tr.val, hf, Bool.not_true, cond_false]
    cases hl : U.isL s with
    | true =>
      unfold U.isL at hl
      by_cases c1 : (U.dec s).1 = 65533
      · rw [decide_eq_true c1] at hl
        have c2 : (1 : Int) < (U.dec s).2 := by simpa using hl
        simp only [c1, c2, decide_true, Bool.not_true, cond_true, cond_false]
      · simp only [c1, decide_false, Bool.not_false, cond_true]
    | false =>
      obtain ⟨h1, h2, h3, h4⟩ := U.bad_cases hf hl
      rw [h1, h2]
      have w2 : IntKind.i64.wrap (1 + 1) = 2 := by decide
      have w3 : IntKind.i64.wrap (2 + 1) = 3 := by decide
      have w4 : IntKind.i64.wrap (3 + 1) = 4 := by decide
      simp only [w2, w3, w4, decide_true, Bool.not_true, cond_false, show ¬ (1 : Int) < 1 by omega, decide_false]
      unfold U.bad
      by_cases c1 : (1 : Int) < (s.size : Int)
      · have p2 := U.full_pre (s := s) (k := 2) (by omega) (by omega)
        rw [show ((2 : Int).toNat) = 2 from rfl, show ((3 : Int).toNat) = 3 from rfl, show ((4 : Int).toNat) = 4 from rfl, p2]
        have i2 : decide ((0 : Int) ≤ 2 ∧ (2 : Int) ≤ (s.size : Int)) = true := decide_eq_true ⟨by omega, by omega⟩
        rcases h4 with h4 | ⟨a, b, c⟩ | ⟨a, b, c, d⟩ | ⟨a, b, c, d⟩
        · simp only [c1, i2, h4, decide_true, cond_true, Bool.not_true, cond_false, show (0 : Int) ≤ ((2 : Nat) : Int) by omega]
        · have e0 : ¬ U.need (bt s 0) = 0 := by omega
          by_cases e2 : U.need (bt s 0) ≤ ((2 : Nat) : Int)
          · simp only [c1, i2, e0, e2, c, decide_true, decide_false, cond_true, Bool.not_true, Bool.not_false, cond_false]
          · simp only [c1, i2, e0, e2, c, decide_true, decide_false, cond_true, Bool.not_true, Bool.not_false, cond_false, show 1 < 2 by omega, Bool.and_self]
        · have e0 : ¬ U.need (bt s 0) = 0 := by omega
          have e2 : ¬ U.need (bt s 0) ≤ ((2 : Nat) : Int) := by omega
          have p3 := U.full_pre (s := s) (k := 3) (by omega) (by omega)
          rw [p3]
          have i3 : decide ((0 : Int) ≤ 3 ∧ (3 : Int) ≤ (s.size : Int)) = true := decide_eq_true ⟨by omega, by omega⟩
          have c2 : (2 : Int) < (s.size : Int) := by omega
          by_cases e3 : U.need (bt s 0) ≤ ((3 : Nat) : Int)
          · simp only [c1, c2, i2, i3, e0, e2, e3, c, d, decide_true, decide_false, cond_true, Bool.not_true, Bool.not_false, cond_false, show 1 < 2 by omega, show ¬ 2 < 2 by omega, Bool.and_self, Bool.and_false, Bool.false_and]
          · simp only [c1, c2, i2, i3, e0, e2, e3, c, d, decide_true, decide_false, cond_true, Bool.not_true, Bool.not_false, cond_false, show 1 < 2 by omega, show ¬ 2 < 2 by omega, show 1 < 3 by omega, show 2 < 3 by omega, Bool.and_self, Bool.and_false, Bool.false_and]
        · have e0 : ¬ U.need (bt s 0) = 0 := by omega
          have e2 : ¬ U.need (bt s 0) ≤ ((2 : Nat) : Int) := by omega
          have e3 : ¬ U.need (bt s 0) ≤ ((3 : Nat) : Int) := by omega
          have e4 : U.need (bt s 0) ≤ ((4 : Nat) : Int) := by omega
          have p3 := U.full_pre (s := s) (k := 3) (by omega) (by omega)
          have p4 := U.full_pre (s := s) (k := 4) (by omega) (by omega)
          rw [p3, p4]
          have i3 : decide ((0 : Int) ≤ 3 ∧ (3 : Int) ≤ (s.size : Int)) = true := decide_eq_true ⟨by omega, by omega⟩
          have i4 : decide ((0 : Int) ≤ 4 ∧ (4 : Int) ≤ (s.size : Int)) = true := decide_eq_true ⟨by omega, by omega⟩
          have c2 : (2 : Int) < (s.size : Int) := by omega
          have c3 : (3 : Int) < (s.size : Int) := by omega
          simp only [c1, c2, c3, i2, i3, i4, e0, e2, e3, e4, c, d, decide_true, decide_false, cond_true, Bool.not_true, Bool.not_false, cond_false, show 1 < 2 by omega, show ¬ 2 < 2 by omega, show 1 < 3 by omega, show 2 < 3 by omega, Bool.and_self, Bool.and_false, Bool.false_and]
      · rcases h4 with h4 | ⟨a, b, c⟩ | ⟨a, b, c, d⟩ | ⟨a, b, c, d⟩
        · simp only [c1, h4, decide_true, decide_false, cond_true, cond_false]
        · omega
        · omega
        · omega
end Go.Proofs.YtmnbcnhpklejcaaDoor
