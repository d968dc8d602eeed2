/- The rest of the wire's functions: proofs. -/
import Derived.Test.YtiongkbkjfgimaaZEvWireT
set_option linter.unusedVariables false
set_option linter.unusedSimpArgs false
set_option maxRecDepth 20000
namespace W
open Go Go.Ev
theorem sumL_range : ∀ (l : List UInt8) (n : Int), 0 ≤ n → n ≤ 255 → 0 ≤ sumL l n ∧ sumL l n ≤ 255
  | [], n, h0, h1 => ⟨h0, h1⟩
  | b :: l, n, h0, h1 => by
    rw [sumL, wrap8_eq]
    exact sumL_range l _ (by omega) (by omega)
theorem sum_range (s : ByteArray) : 0 ≤ sum s ∧ sum s ≤ 255 := sumL_range _ _ (by omega) (by omega)
/-- What first tells, case by case. -/
theorem first_cases (s : ByteArray) (hp : 0 < s.size) :
    (bt s 0 < 1 ∧ first s = -1) ∨ (12 < bt s 0 ∧ first s = -1) ∨ (1 ≤ bt s 0 ∧ bt s 0 ≤ 12 ∧
      (((s.size : Int) < 3 ∧ first s = 0) ∨ (3 ≤ (s.size : Int) ∧ ((512 < num s ∧ first s = -1) ∨ (num s ≤ 512 ∧
        (((s.size : Int) < num s + 4 ∧ first s = 0) ∨ (num s + 4 ≤ (s.size : Int) ∧
          ((sum (s.extract 0 (num s + 3).toNat) = bt s (num s + 3) ∧ first s = num s + 4) ∨ (sum (s.extract 0 (num s + 3).toNat) ≠ bt s (num s + 3) ∧ first s = -1))))))))) := by
  have c0 : ¬ s = ByteArray.empty := fun e => by rw [e] at hp; exact absurd hp (by decide)
  unfold first
  by_cases c1 : bt s 0 < 1
  · exact .inl ⟨c1, by simp [c0, c1]⟩
  by_cases c2 : 12 < bt s 0
  · exact .inr (.inl ⟨c2, by simp [c0, c1, c2]⟩)
  refine .inr (.inr ⟨by omega, by omega, ?_⟩)
  by_cases c3 : (s.size : Int) < 3
  · exact .inl ⟨c3, by simp [c0, c1, c2, c3]⟩
  refine .inr ⟨by omega, ?_⟩
  by_cases c4 : 512 < num s
  · exact .inl ⟨c4, by simp [c0, c1, c2, c3, c4]⟩
  refine .inr ⟨by omega, ?_⟩
  by_cases c5 : (s.size : Int) < num s + 4
  · exact .inl ⟨c5, by simp [c0, c1, c2, c3, c4, c5]⟩
  refine .inr ⟨by omega, ?_⟩
  by_cases c6 : sum (s.extract 0 (num s + 3).toNat) = bt s (num s + 3)
  · exact .inl ⟨c6, by simp [c0, c1, c2, c3, c4, c5, c6]⟩
  · exact .inr ⟨c6, by simp [c0, c1, c2, c3, c4, c5, c6]⟩
theorem asks_eq {s : ByteArray} (h : 3 ≤ (s.size : Int)) : asks s = num s + 4 := by
  unfold asks; simp [show ¬ (s.size : Int) < 3 by omega]
theorem asks_none {s : ByteArray} (h : (s.size : Int) < 3) : asks s = 0 := by
  unfold asks; simp [h]
end W
namespace Go.Proofs.Ytiongkbkjfgimaa
open Go.Ev Go.RowKit

/-! ### Sum -/
theorem run40 : ∀ (k : Nat) (s : ByteArray) (n i : Int), 0 ≤ n → n ≤ 255 → 0 ≤ i → i ≤ (s.size : Int) → (s.size : Int) ≤ 1048576 → (s.size : Int) - i < k →
    runB B40 k (s, n, i) = some (.exit 0, ⟨20, [dI .i64 (W.sumL ((bl s).drop i.toNat) n)], []⟩)
  | 0, s, n, i, n0, n1, h0, h1, h2, hk => by omega
  | k + 1, s, n, i, n0, n1, h0, h1, h2, hk => by
    by_cases hlt : i < (s.size : Int)
    · have b0 := bt_ge s i
      have b1 := bt_lt s i
      have e1 : (IntKind.i64.wrap (n + IntKind.i64.wrap (bt s i))).tmod 256 = (n + bt s i) % 256 := by
        rw [wrap64_byte b0 (by omega), wrap64_byte (by omega) (by omega), Int.tmod_eq_emod_of_nonneg (by omega)]
      have e : (B40 (s, n, i)).val = some (.inl (s, (n + bt s i) % 256, i + 1)) := by
        have i1 : inB i s.size = true := by simp [inB]; omega
        simp only [B40, Tr.val, hlt, i1, e1, decide_true, cond_true, wrap64_id (show -9223372036854775808 ≤ i + 1 by omega) (show i + 1 ≤ 9223372036854775807 by omega)]
      simp only [runB, e]
      rw [run40 k s _ (i + 1) (by omega) (by omega) (by omega) (by omega) h2 (by omega)]
      have hl : i.toNat < (bl s).length := by rw [bl_len]; omega
      rw [drop_at hl, W.sumL, wrap8_eq, bt_eq h0, show (i + 1).toNat = i.toNat + 1 by omega]
    · have e : (B40 (s, n, i)).val = some (.inr (.exit 0, ⟨20, [dI .i64 n], []⟩)) := by simp [B40, Tr.val, hlt]
      simp only [runB, e]
      rw [List.drop_eq_nil_of_le (by rw [bl_len]; omega)]
      rfl

theorem loop40 : LoopOK (evI 2) (E40.lend 0) (lc Try.f40 0) := by
  refine loopOK_of 3 [0, 3, 4] [3] V40 B40 (by kernel_rfl) rfl rfl hB40 ?_
  rintro ⟨N, v, h⟩ tr r h1 h2
  replace h1 := at_key (show ls40 3 ⟨N, v, h⟩ = some tr from h1)
  obtain ⟨h1, rfl⟩ := h1
  replace h1 : g40 v h = some tr := h1
  unfold g40 at h1
  split at h1
  · rename_i s n i
    cases h1
    simp only [Tr.val] at h2
    cases hc : decide (0 ≤ (n : Int) ∧ (n : Int) ≤ 255 ∧ 0 ≤ (i : Int) ∧ (i : Int) ≤ (ByteArray.size s : Int) ∧ (ByteArray.size s : Int) ≤ 1048576) with
    | false => rw [hc] at h2; cases h2
    | true =>
      rw [hc] at h2
      simp only [decide_eq_true_eq] at hc
      obtain ⟨c0, c1, c2, c3, c4⟩ := hc
      cases h2
      exact ⟨(s, n, i), _, by kernel_rfl, run40 (((ByteArray.size s : Int) - i).toNat + 1) s n i c0 c1 c2 c3 c4 (by omega)⟩
  · cases h1

theorem wk40 : SpecOK Try.prog E0 40 w34 := by
  refine dspec_ok (E0 := E0) (E := E40) (fns := []) tab .nil rfl rfl hm Try.func40 (by kernel_rfl) [.data (.int .u8)] (fun x hx => ?_) (L := ls_ok (lcs := [lc Try.f40 0]) (rgs := []) (by kernel_rfl) (by kernel_rfl) loop40 trivial)
  obtain ⟨s, z⟩ := x
  have hs : s.size ≤ 1048576 := by simpa [small] using hx
  rw [t40]
  have : (decide ((0 : Int) ≤ (0 : Int) ∧ (0 : Int) ≤ (255 : Int) ∧ (0 : Int) ≤ (0 : Int) ∧ (0 : Int) ≤ (s.size : Int) ∧ (s.size : Int) ≤ (1048576 : Int))) = true := by simp; omega
  rw [this]
  have h := W.sum_range s
  have e : IntKind.u8.wrap (W.sumL (List.drop 0 (bl s)) 0) = W.sum s := by
    rw [wrap8_eq]
    show W.sum s % 256 = W.sum s
    omega
  rw [e]
  rfl

/-! ### Asks, Spoilt, Stands, Right -/
theorem wk38 : SpecOK Try.prog E0 38 w38 := by
  refine dspec_ok (E0 := E0) (E := E0.withFns []) (fns := []) tab .nil rfl rfl hm Try.func38 (by kernel_rfl) [.data (.int .i64)] (fun x hx => ?_)
  obtain ⟨s, z⟩ := x
  rw [t38]
  show Tr.val _ = some (⟨one (.dat (.int .i64) (W.asks s)), [], []⟩ : FRes)
  have b1 := bt_ge s 1
  have b1' := bt_lt s 1
  have b2 := bt_ge s 2
  have b2' := bt_lt s 2
  by_cases c : (s.size : Int) < 3
  · rw [W.asks_none c]
    simp only [Tr.val, c, decide_true, cond_true]
    rfl
  · rw [W.asks_eq (by omega)]
    have i1 : inB 1 s.size = true := by simp [inB]; omega
    have i2 : inB 2 s.size = true := by simp [inB]; omega
    have e : IntKind.i64.wrap (IntKind.i64.wrap (IntKind.i64.wrap ((256 : Int) * IntKind.i64.wrap (bt s (1 : Int))) + IntKind.i64.wrap (bt s (2 : Int))) + (4 : Int)) = W.num s + 4 := by
      rw [wrap64_byte b1 (by omega), wrap64_byte b2 (by omega), wrap64_byte (show 0 ≤ 256 * bt s 1 by omega) (by omega), wrap64_byte (show 0 ≤ 256 * bt s 1 + bt s 2 by omega) (by omega), wrap64_byte (by omega) (by omega)]
      unfold W.num
      omega
    simp only [Tr.val, c, i1, i2, e, decide_false, cond_false, cond_true]
    rfl

theorem MA5 : AllFn Try.prog E0 M5 := .cons wk38 (.cons wk40 .nil)
theorem wk39 : SpecOK Try.prog E0 39 w39 := by
  refine dspec_ok (E0 := E0) (E := E0.withFns M5) (fns := M5) tab MA5 rfl rfl hm Try.func39 (by kernel_rfl) [.data .bool] (fun x hx => ?_)
  obtain ⟨s, z⟩ := x
  have hs : small s = true := by simpa using hx
  have hs' : s.size ≤ 1048576 := by simpa [small] using hs
  show Tr.val _ = some (⟨one (.dat .bool (decide (W.first s < 0))), [], []⟩ : FRes)
  have hn := W.num_range s
  by_cases c0 : s.size = 0
  · have : s = ByteArray.empty := bl_inj (by rw [bl_empty]; exact List.length_eq_zero_iff.1 (by rw [bl_len]; exact c0))
    rw [t39 s rfl rfl rfl]
    subst this
    rfl
  have c0' : ¬ ((s.size : Int) = 0) := by omega
  have i0 : inB 0 s.size = true := by simp [inB]; omega
  rcases W.first_cases s (by omega) with ⟨h1, e⟩ | ⟨h1, e⟩ | ⟨h1, h2, h⟩
  · have : bt s 0 = 0 := by have := bt_ge s 0; omega
    rw [e, t39 s rfl rfl rfl]
    simp only [Tr.val, c0', i0, this, decide_false, decide_true, cond_true, cond_false]
    rfl
  · have : ¬ bt s 0 = 0 := by omega
    rw [e, t39 s rfl rfl rfl]
    simp only [Tr.val, c0', i0, this, h1, decide_false, decide_true, cond_true, cond_false]
    rfl
  have z1 : ¬ bt s 0 = 0 := by omega
  have z2 : ¬ 12 < bt s 0 := by omega
  rcases h with ⟨h3, e⟩ | ⟨h3, h⟩
  · rw [e, t39 s rfl rfl rfl]
    simp only [Tr.val, c0', i0, z1, z2, hs, W.asks_none h3, decide_false, decide_true, cond_true, cond_false]
    rfl
  have e0 := W.asks_eq h3
  have z3 : ¬ W.num s + 4 = 0 := by omega
  rcases h with ⟨h4, e⟩ | ⟨h4, h⟩
  · have z4 : 516 < W.num s + 4 := by omega
    rw [e, t39 s rfl rfl rfl]
    simp only [Tr.val, c0', i0, z1, z2, hs, e0, z3, z4, decide_false, decide_true, cond_true, cond_false]
    rfl
  have z4 : ¬ 516 < W.num s + 4 := by omega
  rcases h with ⟨h5, e⟩ | ⟨h5, h⟩
  · have z5 : ¬ W.num s + 4 ≤ (s.size : Int) := by omega
    rw [e, t39 s rfl rfl rfl]
    simp only [Tr.val, c0', i0, z1, z2, hs, e0, z3, z4, z5, decide_false, decide_true, cond_true, cond_false]
    rfl
  have z6 : IntKind.i64.wrap (W.num s + 3) = W.num s + 3 := wrap64_byte (by omega) (by omega)
  have z7 : (decide ((0 : Int) ≤ W.num s + 3 ∧ W.num s + 3 ≤ (s.size : Int))) = true := by simp; omega
  have z8 : inB (W.num s + 3) s.size = true := by simp [inB]; omega
  have z9 : small (s.extract 0 (W.num s + 3).toNat) = true := by simp [small, ext_size]; omega
  rw [t39 s (v2 := W.num s + 3) (v3 := s.extract 0 (W.num s + 3).toNat) rfl (by rw [e0]; omega) (by rw [z6])]
  rw [z6]
  rcases h with ⟨h6, e⟩ | ⟨h6, e⟩
  · have z10 : ¬ W.num s + 4 < 0 := by omega
    rw [e]
    simp only [Tr.val, c0', i0, z1, z2, hs, e0, z3, z4, h5, z7, z8, z9, z10, h6, decide_false, decide_true, cond_true, cond_false, Bool.not_true]
    rfl
  · rw [e]
    simp only [Tr.val, c0', i0, z1, z2, hs, e0, z3, z4, h5, z7, z8, z9, h6, decide_false, decide_true, cond_true, cond_false, Bool.not_false]
    rfl

theorem MA6 : AllFn Try.prog E0 M6 := .cons wk38 (.cons wk39 .nil)
theorem wk37 : SpecOK Try.prog E0 37 w37 := by
  refine dspec_ok (E0 := E0) (E := E0.withFns M6) (fns := M6) tab MA6 rfl rfl hm Try.func37 (by kernel_rfl) [.data .bool] (fun x hx => ?_)
  obtain ⟨s, z⟩ := x
  have hs : small s = true := by simpa using hx
  show Tr.val _ = some (⟨one (.dat .bool (decide (0 < W.first s))), [], []⟩ : FRes)
  have hn := W.num_range s
  rw [t37]
  have key : (bif !decide (W.first s < 0) then (bif decide (0 < W.asks s) then decide (W.asks s ≤ (s.size : Int)) else false) else false) = decide (0 < W.first s) := by
    by_cases c0 : s.size = 0
    · have : s = ByteArray.empty := bl_inj (by rw [bl_empty]; exact List.length_eq_zero_iff.1 (by rw [bl_len]; exact c0))
      subst this
      rfl
    rcases W.first_cases s (by omega) with ⟨h1, e⟩ | ⟨h1, e⟩ | ⟨h1, h2, ⟨h3, e⟩ | ⟨h3, ⟨h4, e⟩ | ⟨h4, ⟨h5, e⟩ | ⟨h5, ⟨h6, e⟩ | ⟨h6, e⟩⟩⟩⟩⟩
    · rw [e]; rfl
    · rw [e]; rfl
    · rw [e, W.asks_none h3]; rfl
    · rw [e]; rfl
    · rw [e, W.asks_eq h3]
      have a2 : 0 < W.num s + 4 := by omega
      have a3 : ¬ W.num s + 4 ≤ (s.size : Int) := by omega
      simp [a2, a3]
    · rw [e, W.asks_eq h3]
      have a1 : ¬ W.num s + 4 < 0 := by omega
      have a2 : 0 < W.num s + 4 := by omega
      simp only [a1, a2, h5, decide_true, decide_false, Bool.not_false, cond_true]
    · rw [e]; rfl
  rw [← key]
  cases decide (W.first s < 0) <;> cases decide (0 < W.asks s) <;> simp only [Tr.val, hs, Bool.not_true, Bool.not_false, cond_true, cond_false] <;> rfl

theorem MA7 : AllFn Try.prog E0 M7 := .cons wk37 (.cons wk39 .nil)
theorem wk24 : SpecOK Try.prog E0 24 w23 := by
  refine dspec_ok (E0 := E0) (E := E0.withFns M7) (fns := M7) tab MA7 rfl rfl hm Try.func24 (by kernel_rfl) [.data .bool] (fun x hx => ?_)
  obtain ⟨⟨s, b, z⟩, z'⟩ := x
  have hs : small s = true := by simpa using hx
  show Tr.val _ = some (⟨one (.dat .bool (W.right (s, b, ()))), [], []⟩ : FRes)
  rw [show (evFn (E0.withFns M7) Try.f24 [.data .bool] (toAVs [dk] ((s, b, z), z')) []) = _ from t24 s b]
  cases b with
  | true => rfl
  | false =>
    have key : (bif !decide (W.first s < 0) then !decide (0 < W.first s) else false) = decide (W.first s = 0) := by
      by_cases h1 : W.first s < 0
      · simp [h1]; omega
      · by_cases h2 : 0 < W.first s
        · simp [h1, h2]; omega
        · simp [h1, h2]; omega
    show Tr.val _ = some (⟨one (.dat .bool (decide (W.first s = 0))), [], []⟩ : FRes)
    rw [← key]
    cases decide (W.first s < 0) <;> simp only [Tr.val, hs, Bool.not_true, Bool.not_false, cond_true, cond_false] <;> rfl
end Go.Proofs.Ytiongkbkjfgimaa
