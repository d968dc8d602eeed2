/- The wire's Feed, and the reference's; a known frame. -/
import Derived.Test.YtiongkbkjfgimaaZEvWire5
set_option linter.unusedVariables false
set_option linter.unusedSimpArgs false
set_option maxRecDepth 20000
namespace Go.Proofs.Ytiongkbkjfgimaa
open Go.Ev Go.RowKit

theorem run22 (q : K22) : ∀ (k : Nat) (l : List W.Fr) (s : ByteArray), l.length + s.size ≤ 1048576 → s.size < k →
    runB B22 k (q, l, s) = some (.exit 0, V22 (q, l ++ (W.frs k s).1, (W.frs k s).2))
  | 0, l, s, h1, h2 => by omega
  | k + 1, l, s, h1, h2 => by
    have hsm : small s = true := by simp [small]; omega
    by_cases h : 0 < W.first s
    · obtain ⟨p1, p2, p3, p4, p5, p6⟩ := W.first_pos h
      have p7 := W.rest_size h
      have p8 := W.num_range s
      have a1 : W.asks s = W.first s := by rw [W.asks_eq (by omega)]; omega
      have w1 : IntKind.i64.wrap (W.asks s - 1) = W.first s - 1 := by rw [a1]; exact wrap64_byte (by omega) (by omega)
      have w2 : fr22 s = W.frame s := by unfold fr22 W.frame; rw [w1, wrap64_byte (by omega) (by omega)]
      have w3 : s.extract (W.asks s).toNat s.size = W.rest s := by rw [a1]; rfl
      have c1 : cap21 (fr22 s) l = true := by
        cases l with
        | nil => simp [cap21]
        | cons a l => simp only [cap21, decide_eq_true_eq]; simp at h1 ⊢; omega
      have e : (B22 (q, l, s)).val = some (.inl (q, l ++ [fr22 s], W.rest s)) := by
        have i1 : inB 0 s.size = true := by simp [inB]; omega
        have i2 : (decide ((0 : Int) ≤ (3 : Int) ∧ (3 : Int) ≤ IntKind.i64.wrap (W.asks s - 1) ∧ IntKind.i64.wrap (W.asks s - 1) ≤ (s.size : Int))) = true := by rw [w1]; simp; omega
        have i3 : (decide ((0 : Int) ≤ W.asks s ∧ W.asks s ≤ (s.size : Int))) = true := by rw [a1]; simp; omega
        simp only [B22, Tr.val, h, hsm, decide_true, cond_true, i1, i2, i3, c1, w3]
      simp only [runB, e]
      rw [run22 q k (l ++ [fr22 s]) (W.rest s) (by simp; omega) (by omega), w2]
      simp only [W.frs, h, decide_true, cond_true, List.append_assoc, List.singleton_append]
    · have e : (B22 (q, l, s)).val = some (.inr (.exit 0, V22 (q, l, s))) := by simp only [B22, Tr.val, h, hsm, decide_false, cond_true, cond_false]
      simp only [runB, e, W.frs, h, decide_false, cond_false, List.append_nil]

theorem loop22 : LoopOK (evI 2) (E22.lend 0) (lc Try.f22 0) := by
  refine loopOK_of 7 [4, 5, 6] [4, 5, 6] V22 B22 (by kernel_rfl) rfl rfl hB22 ?_
  rintro ⟨N, v, h⟩ tr r h1 h2
  replace h1 := at_key (show ls22 7 ⟨N, v, h⟩ = some tr from h1)
  obtain ⟨h1, rfl⟩ := h1
  replace h1 : g22 v h = some tr := h1
  unfold g22 at h1
  split at h1
  · rename_i a0 b0 s a1 b1 k0 x0 y0 z0 k1 x1 y1 z1
    cases hn : natsEq [a0, b0, a1, b1, k0, k1] [0, 0, 1, 0, 0, 1] with
    | false => rw [hn] at h1; cases h1
    | true =>
      rw [hn, cond_true] at h1
      have hn := natsEq_iff hn
      simp only [List.cons.injEq, and_true] at hn
      obtain ⟨rfl, rfl, rfl, rfl, rfl, rfl⟩ := hn
      cases h1
      simp only [Tr.val] at h2
      cases hc : small s with
      | false => rw [hc] at h2; cases h2
      | true =>
        rw [hc, cond_true] at h2
        simp only [small, decide_eq_true_eq] at hc
        have h3 : r = (.exit 0, V22 (((x0, y0, z0), (x1, y1, z1)), (W.frames s).1, (W.frames s).2)) := by
          cases hl : (W.frames s).1 with
          | nil => rw [hl] at h2; exact (Option.some.inj h2).symm
          | cons f l => rw [hl] at h2; exact (Option.some.inj h2).symm
        subst h3
        refine ⟨(((x0, y0, z0), (x1, y1, z1)), [], s), ByteArray.size s + 1, by kernel_rfl, ?_⟩
        rw [run22 _ (ByteArray.size s + 1) [] s (by simpa using hc) (by omega), W.frs_stable (k' := ByteArray.size s) (by omega) (Nat.le_refl _)]
        rfl
  · cases h1

theorem frs_size : ∀ (k : Nat) (s : ByteArray), (W.frs k s).2.size ≤ s.size ∧ (W.frs k s).1.length ≤ s.size
  | 0, s => ⟨Nat.le_refl _, Nat.zero_le _⟩
  | k + 1, s => by
    by_cases h : 0 < W.first s
    · have := W.rest_size h
      have ih := frs_size k (W.rest s)
      simp only [W.frs, h, decide_true, cond_true, List.length_cons]
      omega
    · simp only [W.frs, h, decide_false, cond_false]
      exact ⟨Nat.le_refl _, Nat.zero_le _⟩

theorem MA9 : AllFn Try.prog E0 M9 := .cons wk24 (.cons wk37 (.cons wk38 (.cons wk39 .nil)))

theorem v22 (b : ByteArray) (d : Bool) (s : ByteArray) (hs : b.size + s.size ≤ 1048576) : (evFn E22 Try.f22 [.data tkd] (toAVs [dk, .str] ((b, d, ()), s, ())) []).val =
    some (⟨.av (.agg [.dat .str (W.feed (b, d, ()) s).1.1, .dat .bool (W.feed (b, d, ()) s).1.2.1, .dat (.sl fk) (W.feed (b, d, ()) s).2.1, .dat (.int .i64) (W.feed (b, d, ()) s).2.2]), [], []⟩ : FRes) := by
  have f1 := (frs_size (b ++ s).size (b ++ s)).1
  have i1 : small b = true := by simp [small]; omega
  have i2 : (decide (b.size + s.size ≤ 9223372036854775807)) = true := by simp; omega
  have i3 : small (b ++ s) = true := by simp [small, app_size]; omega
  have i4 : small (W.frames (b ++ s)).2 = true := by
    have := app_size b s
    exact decide_eq_true (by unfold W.frames; omega)
  rw [t22 b d s rfl rfl rfl]
  unfold W.feed
  cases hr : W.right (b, d, ()) with
  | false => simp only [Tr.val, i1, Bool.not_false, cond_true]; rfl
  | true =>
    cases d with
    | true => simp only [Tr.val, i1, Bool.not_true, cond_true, cond_false]; rfl
    | false =>
      cases hf : decide (W.first (W.frames (b ++ s)).2 < 0) with
      | true =>
        cases hl : (W.frames (b ++ s)).1 with
        | nil => simp only [Tr.val, i1, i2, i3, i4, hf, List.isEmpty, Bool.not_true, cond_true, cond_false]
        | cons f l => simp only [Tr.val, i1, i2, i3, i4, hf, List.isEmpty, Bool.not_true, cond_true, cond_false]
      | false =>
        cases hl : (W.frames (b ++ s)).1 with
        | nil => simp only [Tr.val, i1, i2, i3, i4, hf, List.isEmpty, Bool.not_true, cond_true, cond_false]
        | cons f l => simp only [Tr.val, i1, i2, i3, i4, hf, List.isEmpty, Bool.not_true, cond_true, cond_false]

theorem wk22 : SpecOK Try.prog E0 22 w22 := by
  refine dspec_ok (E0 := E0) (E := E22) (fns := M9) tab MA9 rfl rfl hm Try.func22 (by kernel_rfl) [.data tkd] (fun x hx => ?_) (L := ls_ok (lcs := [lc Try.f22 0]) (rgs := []) (by kernel_rfl) (by kernel_rfl) loop22 trivial)
  obtain ⟨⟨b, d, z⟩, s, z'⟩ := x
  exact v22 b d s (by simpa [okF] using hx)

theorem v21 (b : ByteArray) (d : Bool) (s : ByteArray) (hs : b.size + s.size ≤ 1048576) : (evFn E21 Try.f21 [.data dk, .data (.sl fk), .data (.int .i64)] (toAVs [dk, .str] ((b, d, ()), s, ())) []).val =
    some (⟨.tup [.agg [.dat .str (W.feed (b, d, ()) s).1.1, .dat .bool (W.feed (b, d, ()) s).1.2.1], .one (.dat (.sl fk) (W.feed (b, d, ()) s).2.1), .one (.dat (.int .i64) (W.feed (b, d, ()) s).2.2)], [], []⟩ : FRes) := by
  have f1 := (frs_size (b ++ s).size (b ++ s)).1
  have i1 : small b = true := by simp [small]; omega
  have i2 : (decide (b.size + s.size ≤ 9223372036854775807)) = true := by simp; omega
  have i3 : small (b ++ s) = true := by simp [small, app_size]; omega
  have i4 : small (W.frames (b ++ s)).2 = true := by
    have := app_size b s
    exact decide_eq_true (by unfold W.frames; omega)
  rw [t21 b d s rfl rfl rfl]
  unfold W.feed
  cases hr : W.right (b, d, ()) with
  | false => simp only [Tr.val, i1, Bool.not_false, cond_true]; rfl
  | true =>
    cases d with
    | true => simp only [Tr.val, i1, Bool.not_true, cond_true, cond_false]; rfl
    | false =>
      cases hf : decide (W.first (W.frames (b ++ s)).2 < 0) with
      | true =>
        cases hl : (W.frames (b ++ s)).1 with
        | nil => simp only [Tr.val, i1, i2, i3, i4, hf, List.isEmpty, decide_true, Bool.and_self, Bool.not_true, cond_true, cond_false]
        | cons f l => simp only [Tr.val, i1, i2, i3, i4, hf, List.isEmpty, decide_true, Bool.and_self, Bool.not_true, cond_true, cond_false]
      | false =>
        cases hl : (W.frames (b ++ s)).1 with
        | nil => simp only [Tr.val, i1, i2, i3, i4, hf, List.isEmpty, decide_true, Bool.and_self, Bool.not_true, cond_true, cond_false]
        | cons f l => simp only [Tr.val, i1, i2, i3, i4, hf, List.isEmpty, decide_true, Bool.and_self, Bool.not_true, cond_true, cond_false]

theorem it21 : ItOK Try.prog E21 := itOK_of (l := [(44, Try.f44)]) rfl (by
  intro p hp
  simp only [List.mem_singleton] at hp
  subst hp
  exact ⟨Try.func44, by kernel_rfl⟩)

theorem wk21 : SpecOK Try.prog E0 21 w21 := by
  refine dspec_ok (E0 := E0) (E := E21) (fns := M3) tab MA3 rfl rfl hm Try.func21 (by kernel_rfl) [.data dk, .data (.sl fk), .data (.int .i64)] (fun x hx => ?_) (IO := it21)
    (L := ls_ok (lcs := []) (rgs := [rg Try.f21 0]) (by kernel_rfl) (by kernel_rfl) trivial range21)
  obtain ⟨⟨b, d, z⟩, s, z'⟩ := x
  exact v21 b d s (by simpa [okF] using hx)

theorem MA10 : AllFn Try.prog E0 M10 := .cons wk20 (.cons wk21 .nil)
theorem wk26 : SpecOK Try.prog E0 26 w26 := by
  refine dspec_ok (E0 := E0) (E := E0.withFns M10) (fns := M10) tab MA10 rfl rfl hm Try.func26 (by kernel_rfl) [.data .bool] (fun x hx => ?_)
  rw [show (evFn (E0.withFns M10) Try.f26 [.data .bool] (toAVs [] x) []) = _ from t26]
  rfl
end Go.Proofs.Ytiongkbkjfgimaa
namespace Go.Proofs.Ytiongkbkjfgimaa
open Go.Ev Go.RowKit
def M11 : List (Nat × FSpec) := [(19, w19), (20, w20), (21, w21), (22, w22), (23, w23), (24, w23), (25, w25), (26, w26), (27, w27), (28, w28)]
theorem MA11 : AllFn Try.prog E0 M11 := .cons wk19 (.cons wk20 (.cons wk21 (.cons wk22 (.cons wk23 (.cons wk24 (.cons wk25 (.cons wk26 (.cons wk27 (.cons wk28 .nil)))))))))
end Go.Proofs.Ytiongkbkjfgimaa
