/- The wire's functions on frames. -/
import Derived.Test.YtiongkbkjfgimaaZEvWire4
set_option linter.unusedVariables false
set_option linter.unusedSimpArgs false
set_option maxRecDepth 20000
namespace Go.Proofs.Ytiongkbkjfgimaa
open Go.Ev Go.RowKit

theorem wk27 : SpecOK Try.prog E0 27 w27 := by
  refine dspec_ok (E0 := E0) (E := E0.withFns []) (fns := []) tab .nil rfl rfl hm Try.func27 (by kernel_rfl) [.data .bool] (fun x hx => ?_)
  obtain ⟨⟨n, s, z⟩, z'⟩ := x
  show Tr.val _ = some (⟨one (.dat .bool (W.may (n, s, ()))), [], []⟩ : FRes)
  rw [show (evFn (E0.withFns []) Try.f27 [.data .bool] (toAVs [fk] ((n, s, z), z')) []) = _ from t27 n s]
  unfold W.may
  cases h1 : decide (1 ≤ n) <;> cases h2 : decide (n ≤ 12) <;> rfl

theorem may_iff {n : Int} {s : ByteArray} {z : Unit} : W.may (n, s, z) = true ↔ 1 ≤ n ∧ n ≤ 12 ∧ (s.size : Int) ≤ 512 := by simp [W.may]
theorem may_not {n : Int} {s : ByteArray} {z : Unit} (h : ¬ (1 ≤ n ∧ n ≤ 12 ∧ (s.size : Int) ≤ 512)) : W.may (n, s, z) = false := Bool.eq_false_iff.2 fun e => h (may_iff.1 e)

theorem strOf_bl (l : List Int) : bl (strOf l) = l.map fun n => UInt8.ofNat n.toNat := by simp [strOf, bl]
theorem strOf_size (l : List Int) : (strOf l).size = l.length := by rw [← bl_len, strOf_bl, List.length_map]
theorem app_size (a b : ByteArray) : (a ++ b).size = a.size + b.size := by rw [← bl_len, bl_app, List.length_append, bl_len, bl_len]
theorem hd_size (f : W.Fr) : (W.hd f).size = f.2.1.size + 3 := by unfold W.hd; rw [app_size, strOf_size]; simp; omega

theorem MA8 : AllFn Try.prog E0 M8 := .cons wk40 .nil
theorem wk28 : SpecOK Try.prog E0 28 w28 := by
  refine dspec_ok (E0 := E0) (E := E0.withFns M8) (fns := M8) tab MA8 rfl rfl hm Try.func28 (by kernel_rfl) [.data .str] (fun x hx => ?_)
  obtain ⟨⟨n, s, z⟩, z'⟩ := x
  have hs : s.size ≤ 1000000 := by simpa using hx
  show Tr.val _ = some (⟨one (.dat .str (W.enc (n, s, ()))), [], []⟩ : FRes)
  have e2 : IntKind.u8.wrap (IntKind.i64.wrap ((s.size : Int).tdiv 256)) = IntKind.u8.wrap ((s.size : Int) / 256) := by
    rw [Int.tdiv_eq_ediv_of_nonneg (by omega), wrap64_byte (by omega) (by omega)]
  have e1 : IntKind.u8.wrap ((s.size : Int).tmod 256) = IntKind.u8.wrap (s.size : Int) := by
    rw [Int.tmod_eq_emod_of_nonneg (by omega), wrap8_eq, wrap8_eq]; omega
  rw [show (evFn (E0.withFns M8) Try.f28 [.data .str] (toAVs [fk] ((n, s, z), z')) []) = _ from t28 n s (v6 := [IntKind.u8.wrap n, IntKind.u8.wrap ((s.size : Int) / 256), 0]) (v7 := [IntKind.u8.wrap n, IntKind.u8.wrap ((s.size : Int) / 256), IntKind.u8.wrap (s.size : Int)]) (v8 := W.hd (n, s, ())) (v9 := [W.sum (W.hd (n, s, ()))])
    rfl rfl rfl rfl rfl (by rw [← e2]; rfl) (by rw [← e1]; rfl) rfl rfl]
  have i1 : (decide ((strOf [IntKind.u8.wrap n, IntKind.u8.wrap ((s.size : Int) / 256), IntKind.u8.wrap (s.size : Int)]).size + s.size ≤ (9223372036854775807 : Nat))) = true := by rw [strOf_size]; simp; omega
  have i2 : small (W.hd (n, s, ())) = true := by simp [small, hd_size]; omega
  have i3 : (decide ((W.hd (n, s, ())).size + (strOf [W.sum (W.hd (n, s, ()))]).size ≤ (9223372036854775807 : Nat))) = true := by rw [strOf_size, hd_size]; simp; omega
  simp only [Tr.val, i1, i2, i3, cond_true]
  rfl

theorem MA4 : AllFn Try.prog E0 M4 := .cons wk34 .nil
theorem v20 (n : Int) (s : ByteArray) : (evFn (E0.withFns M4) Try.f20 [.data .str, .data (.int .i64)] (toAVs [fk] ((n, s, ()), ())) []).val = some (⟨.tup [.one (.dat .str (bif W.may (n, s, ()) then W.enc (n, s, ()) else ByteArray.empty)), .one (.dat (.int .i64) (bif W.may (n, s, ()) then 0 else 1 : Int))], [], []⟩ : FRes) := by
  have e2 : IntKind.u8.wrap ((s.size : Int).fdiv 256) = IntKind.u8.wrap ((s.size : Int) / 256) := by rw [Int.fdiv_eq_ediv_of_nonneg _ (by omega)]
  rw [t20 n s (v6 := [IntKind.u8.wrap n, IntKind.u8.wrap ((s.size : Int) / 256), 0]) (v7 := [IntKind.u8.wrap n, IntKind.u8.wrap ((s.size : Int) / 256), IntKind.u8.wrap (s.size : Int)]) (v8 := W.hd (n, s, ())) (v9 := [W.sum (W.hd (n, s, ()))])
    rfl rfl rfl rfl rfl (by rw [← e2]; rfl) rfl rfl rfl]
  by_cases c1 : n < 1
  · have m : W.may (n, s, ()) = false := may_not (by omega)
    simp only [Tr.val, c1, m, decide_true, cond_true, cond_false]
    rfl
  by_cases c2 : 12 < n
  · have m : W.may (n, s, ()) = false := may_not (by omega)
    simp only [Tr.val, c1, c2, m, decide_true, decide_false, cond_true, cond_false]
    rfl
  by_cases c3 : 512 < (s.size : Int)
  · have m : W.may (n, s, ()) = false := may_not (by omega)
    simp only [Tr.val, c1, c2, c3, m, decide_true, decide_false, cond_true, cond_false]
    rfl
  have m : W.may (n, s, ()) = true := may_iff.2 (by omega)
  have i1 : (decide ((strOf [IntKind.u8.wrap n, IntKind.u8.wrap ((s.size : Int) / 256), IntKind.u8.wrap (s.size : Int)]).size + s.size ≤ (9223372036854775807 : Nat))) = true := by rw [strOf_size]; simp; omega
  have i2 : small (W.hd (n, s, ())) = true := by simp [small, hd_size]; omega
  have i3 : (decide ((W.hd (n, s, ())).size + (strOf [W.sum (W.hd (n, s, ()))]).size ≤ (9223372036854775807 : Nat))) = true := by rw [strOf_size, hd_size]; simp; omega
  simp only [Tr.val, c1, c2, c3, m, i1, i2, i3, decide_false, cond_true, cond_false]
  rfl

theorem wk20 : SpecOK Try.prog E0 20 w20 := by
  refine dspec_ok (E0 := E0) (E := E0.withFns M4) (fns := M4) tab MA4 rfl rfl hm Try.func20 (by kernel_rfl) [.data .str, .data (.int .i64)] (fun x hx => ?_)
  obtain ⟨⟨n, s, z⟩, z'⟩ := x
  exact v20 n s

theorem wk19 : SpecOK Try.prog E0 19 w19 := by
  refine dspec_ok (E0 := E0) (E := E0.withFns []) (fns := []) tab .nil rfl rfl hm Try.func19 (by kernel_rfl) [.data fk] (fun x hx => ?_)
  obtain ⟨⟨n, s, z⟩, z'⟩ := x
  show Tr.val _ = some (⟨.av (.agg [.dat (.int .i64) n, .dat .str (s.extract 0 (min s.size 515))]), [], []⟩ : FRes)
  have e : minI (s.size : Int) 515 = ((min s.size 515 : Nat) : Int) := by unfold minI; split <;> omega
  rw [show (evFn (E0.withFns []) Try.f19 [.data fk] (toAVs [fk] ((n, s, z), z')) []) = _ from t19 n s (v1 := ((min s.size 515 : Nat) : Int)) e]
  have i1 : (decide ((0 : Int) ≤ ((min s.size 515 : Nat) : Int) ∧ ((min s.size 515 : Nat) : Int) ≤ (s.size : Int))) = true := by simp; omega
  simp only [Tr.val, i1, cond_true]
  rfl

/-! ### Same -/
theorem same1_iff (f g : W.Fr) : same1 f g = true ↔ f = g := by
  obtain ⟨a, b, z⟩ := f
  obtain ⟨c, d, z'⟩ := g
  simp [same1]

theorem dropF_at {l : List W.Fr} {i : Int} (h0 : 0 ≤ i) (h : i < (l.length : Int)) : l.drop i.toNat = rget fk l i :: l.drop (i + 1).toNat := by
  have h' : i.toNat < l.length := by omega
  rw [List.drop_eq_getElem_cons h', show (i + 1).toNat = i.toNat + 1 by omega]
  congr 1
  simp [rget, List.getD, h']

theorem run25 : ∀ (k : Nat) (a b : List W.Fr) (i : Int), a.length = b.length → 0 ≤ i → i ≤ (a.length : Int) → (a.length : Int) ≤ 1048576 → (a.length : Int) - i < k →
    runB B25 k (a, b, a.length, i) = some (bif decide (a.drop i.toNat = b.drop i.toNat) then (.exit 0, ⟨26, [kB false], []⟩) else (.ret, ⟨26, [kB false], []⟩))
  | 0, a, b, i, hl, h0, h1, h2, hk => by omega
  | k + 1, a, b, i, hl, h0, h1, h2, hk => by
    by_cases hlt : i < (a.length : Int)
    · have i1 : inB i a.length = true := by simp [inB]; omega
      have i2 : inB i b.length = true := by simp [inB]; omega
      rw [dropF_at h0 hlt, dropF_at h0 (by omega)]
      by_cases hs : rget fk a i = rget fk b i
      · have e : (B25 (a, b, a.length, i)).val = some (.inl (a, b, a.length, i + 1)) := by
          simp only [B25, Tr.val, hlt, i1, i2, (same1_iff _ _).2 hs, wrap64_id (show -9223372036854775808 ≤ i + 1 by omega) (by omega), decide_true, cond_true, Bool.not_true, cond_false]
        simp only [runB, e]
        rw [run25 k a b (i + 1) hl (by omega) (by omega) h2 (by omega)]
        simp only [hs, List.cons.injEq, true_and]
      · have hs' : same1 (rget fk a i) (rget fk b i) = false := by
          cases h : same1 (rget fk a i) (rget fk b i) with
          | false => rfl
          | true => exact absurd ((same1_iff _ _).1 h) hs
        have e : (B25 (a, b, a.length, i)).val = some (.inr (.ret, ⟨26, [kB false], []⟩)) := by
          simp only [B25, Tr.val, hlt, i1, i2, hs', decide_true, cond_true, Bool.not_false]
        simp only [runB, e, List.cons.injEq, hs, false_and, decide_false, cond_false]
    · have e : (B25 (a, b, a.length, i)).val = some (.inr (.exit 0, ⟨26, [kB false], []⟩)) := by simp [B25, Tr.val, hlt]
      simp only [runB, e]
      rw [List.drop_eq_nil_of_le (by omega), List.drop_eq_nil_of_le (by omega)]
      simp

theorem loop25 : LoopOK (evI 2) (E25.lend 0) (lc Try.f25 0) := by
  refine loopOK_of 4 [0, 1, 4, 12, 13] [4] V25 B25 (by kernel_rfl) rfl rfl hB25 ?_
  rintro ⟨N, v, h⟩ tr r h1 h2
  replace h1 := at_key (show ls25 4 ⟨N, v, h⟩ = some tr from h1)
  obtain ⟨h1, rfl⟩ := h1
  replace h1 : g25 v h = some tr := h1
  unfold g25 at h1
  split at h1
  · rename_i a b rr l i
    cases h1
    simp only [Tr.val] at h2
    cases hc : (!rr && decide (List.length (α := W.Fr) a = List.length (α := W.Fr) b ∧ (l : Int) = (List.length (α := W.Fr) a : Int) ∧ 0 ≤ (i : Int) ∧ (i : Int) ≤ (l : Int) ∧ (l : Int) ≤ 1048576)) with
    | false => rw [hc] at h2; cases h2
    | true =>
      rw [hc] at h2
      simp only [Bool.and_eq_true, Bool.not_eq_true', decide_eq_true_eq] at hc
      obtain ⟨rfl, c0, rfl, c2, c3, c4⟩ := hc
      rw [cond_true] at h2
      refine ⟨(a, b, (List.length (α := W.Fr) a : Int), i), ((List.length (α := W.Fr) a : Int) - i).toNat + 1, by kernel_rfl, ?_⟩
      rw [run25 _ a b i c0 c2 c3 c4 (by omega)]
      cases hd : decide (List.drop (α := W.Fr) (Int.toNat i) a = List.drop (α := W.Fr) (Int.toNat i) b) with
      | true => rw [hd] at h2; exact h2
      | false => rw [hd] at h2; exact h2
  · cases h1

theorem v25 (a b : List W.Fr) (hs : a.length ≤ 1048576) : (evFn E25 Try.f25 [.data .bool] (toAVs [.sl fk, .sl fk] (a, b, ())) []).val = some (⟨one (.dat .bool (decide (a = b))), [], []⟩ : FRes) := by
  rw [t25 a b rfl rfl rfl rfl rfl]
  by_cases hl : a.length = b.length
  · have i1 : (!decide ((a.length : Int) = (b.length : Int))) = false := by simp [hl]
    have i2 : (decide (a.length = b.length ∧ True ∧ (0 : Int) ≤ (0 : Int) ∧ (0 : Int) ≤ (a.length : Int) ∧ (a.length : Int) ≤ (1048576 : Int))) = true := decide_eq_true ⟨hl, trivial, by omega, by omega, by omega⟩
    simp only [Tr.val, List.drop_zero, i1, Bool.true_and, i2, cond_true, cond_false]
    cases decide (a = b) <;> rfl
  · have i1 : (!decide ((a.length : Int) = (b.length : Int))) = true := by simp; omega
    have i3 : decide (a = b) = false := by
      simp only [decide_eq_false_iff_not]
      intro e
      exact hl (by rw [e])
    simp only [Tr.val, i1, i3, cond_true]
    rfl
theorem wk25 : SpecOK Try.prog E0 25 w25 := by
  refine dspec_ok (E0 := E0) (E := E25) (fns := []) tab .nil rfl rfl hm Try.func25 (by kernel_rfl) [.data .bool] (fun x hx => ?_) (L := ls_ok (lcs := [lc Try.f25 0]) (rgs := []) (by kernel_rfl) (by kernel_rfl) loop25 trivial)
  obtain ⟨a, b, z⟩ := x
  exact v25 a b (by simpa using hx)
end Go.Proofs.Ytiongkbkjfgimaa
