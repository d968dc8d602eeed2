/- WireCuts: the law is true. -/
import Derived.Test.YtiongkbkjfgimaaZEvWire7
set_option linter.unusedVariables false
set_option linter.unusedSimpArgs false
set_option maxRecDepth 20000
namespace W
open Go Go.Ev Go.Proofs.Ytiongkbkjfgimaa

theorem bt_app {s t : ByteArray} {i : Int} (h0 : 0 ≤ i) (h : i < (s.size : Int)) : bt (s ++ t) i = bt s i := by
  rw [bt_eq h0, bt_eq h0, bl_app]
  have : i.toNat < (bl s).length := by rw [bl_len]; omega
  simp only [List.getD, List.getElem?_append_left this]
theorem ext_app {s t : ByteArray} {i j : Nat} (h : j ≤ s.size) : (s ++ t).extract i j = s.extract i j := by
  apply bl_inj
  rw [bl_ext, bl_ext, bl_app, List.take_append_of_le_length (by rw [bl_len]; exact h)]
theorem ext_all (s t : ByteArray) {k : Nat} (h : k ≤ s.size) : (s ++ t).extract k (s ++ t).size = s.extract k s.size ++ t := by
  apply bl_inj
  rw [bl_ext, bl_app, bl_app, bl_ext, List.take_of_length_le (by rw [List.length_append, bl_len, bl_len, app_size]; exact Nat.le_refl _), List.take_of_length_le (by rw [bl_len]; exact Nat.le_refl _),
    List.drop_append_of_le_length (by rw [bl_len]; exact h)]
theorem num_app {s t : ByteArray} (h : 3 ≤ s.size) : num (s ++ t) = num s := by
  unfold num
  rw [bt_app (by omega) (by omega), bt_app (by omega) (by omega)]

theorem first_app_pos {s t : ByteArray} (h : 0 < first s) : first (s ++ t) = first s ∧ frame (s ++ t) = frame s ∧ rest (s ++ t) = rest s ++ t := by
  obtain ⟨h1, h2, h3, h4, h5, h6⟩ := first_pos h
  have hn := num_range s
  have e0 : bt (s ++ t) 0 = bt s 0 := bt_app (by omega) (by omega)
  have e1 : num (s ++ t) = num s := num_app (by omega)
  have e2 : bt (s ++ t) (num s + 3) = bt s (num s + 3) := bt_app (by omega) (by omega)
  have e3 : (s ++ t).extract 0 (num s + 3).toNat = s.extract 0 (num s + 3).toNat := ext_app (by omega)
  have e4 := app_size s t
  have e5 : first (s ++ t) = first s := by
    rcases first_cases (s ++ t) (by omega) with ⟨g1, e⟩ | ⟨g1, e⟩ | ⟨g1, g2, ⟨g3, e⟩ | ⟨g3, ⟨g4, e⟩ | ⟨g4, ⟨g5, e⟩ | ⟨g5, ⟨g6, e⟩ | ⟨g6, e⟩⟩⟩⟩⟩
    · omega
    · omega
    · omega
    · omega
    · omega
    · omega
    · rw [e1, e2, e3] at g6
      exact absurd h6 g6
  refine ⟨e5, ?_, ?_⟩
  · unfold frame
    rw [e5, e0, ext_app (by omega)]
  · unfold rest
    rw [e5, ext_all s t (by omega)]

theorem first_app_neg {s t : ByteArray} (h : first s < 0) : first (s ++ t) < 0 := by
  have hp : 0 < s.size := by
    rcases Nat.eq_zero_or_pos s.size with e | e
    · have : s = ByteArray.empty := bl_inj (by rw [bl_empty]; exact List.length_eq_zero_iff.1 (by rw [bl_len]; exact e))
      rw [this] at h
      exact absurd h (by decide)
    · exact e
  have hn := num_range s
  have e4 := app_size s t
  have e0 : bt (s ++ t) 0 = bt s 0 := bt_app (by omega) (by omega)
  rcases first_cases s hp with ⟨h1, e⟩ | ⟨h1, e⟩ | ⟨h1, h2, ⟨h3, e⟩ | ⟨h3, hh⟩⟩
  · rcases first_cases (s ++ t) (by omega) with ⟨g1, e⟩ | ⟨g1, e⟩ | ⟨g1, g2, _⟩ <;> omega
  · rcases first_cases (s ++ t) (by omega) with ⟨g1, e⟩ | ⟨g1, e⟩ | ⟨g1, g2, _⟩ <;> omega
  · omega
  have e1 : num (s ++ t) = num s := num_app (by omega)
  rcases hh with ⟨h4, e⟩ | ⟨h4, ⟨h5, e⟩ | ⟨h5, ⟨h6, e⟩ | ⟨h6, e⟩⟩⟩
  · rcases first_cases (s ++ t) (by omega) with ⟨g1, e⟩ | ⟨g1, e⟩ | ⟨g1, g2, ⟨g3, e⟩ | ⟨g3, ⟨g4, e⟩ | ⟨g4, _⟩⟩⟩ <;> omega
  · omega
  · omega
  · have e2 : bt (s ++ t) (num s + 3) = bt s (num s + 3) := bt_app (by omega) (by omega)
    have e3 : (s ++ t).extract 0 (num s + 3).toNat = s.extract 0 (num s + 3).toNat := ext_app (by omega)
    rcases first_cases (s ++ t) (by omega) with ⟨g1, e⟩ | ⟨g1, e⟩ | ⟨g1, g2, ⟨g3, e⟩ | ⟨g3, ⟨g4, e⟩ | ⟨g4, ⟨g5, e⟩ | ⟨g5, ⟨g6, e⟩ | ⟨g6, e⟩⟩⟩⟩⟩
    · omega
    · omega
    · omega
    · omega
    · omega
    · rw [e1, e2, e3] at g6
      exact absurd g6 h6
    · omega

theorem frames_pos {s : ByteArray} (h : 0 < first s) : frames s = (frame s :: (frames (rest s)).1, (frames (rest s)).2) := by
  have hr := rest_size h
  have : frames s = frs (s.size - 1 + 1) s := by unfold frames; rw [Nat.sub_add_cancel (by omega)]
  rw [this]
  simp only [frs, h, decide_true, cond_true]
  rw [frs_stable (k := s.size - 1) (k' := (rest s).size) (by omega) (Nat.le_refl _)]
  rfl
theorem frames_none {s : ByteArray} (h : ¬ 0 < first s) : frames s = ([], s) := by
  unfold frames
  cases s.size with
  | zero => rfl
  | succ k => simp only [frs, h, decide_false, cond_false]
theorem frames_rest : ∀ (k : Nat) (s : ByteArray), s.size ≤ k → ¬ 0 < first (frames s).2
  | 0, s, hk => by
    have h : ¬ 0 < first s := fun h => by have := rest_size h; omega
    rw [frames_none h]; exact h
  | k + 1, s, hk => by
    by_cases h : 0 < first s
    · rw [frames_pos h]
      exact frames_rest k (rest s) (by have := rest_size h; omega)
    · rw [frames_none h]; exact h
theorem frames_app : ∀ (k : Nat) (s t : ByteArray), s.size ≤ k → frames (s ++ t) = ((frames s).1 ++ (frames ((frames s).2 ++ t)).1, (frames ((frames s).2 ++ t)).2)
  | 0, s, t, hk => by
    have h : ¬ 0 < first s := fun h => by have := rest_size h; omega
    rw [frames_none h]; rfl
  | k + 1, s, t, hk => by
    by_cases h : 0 < first s
    · obtain ⟨a1, a2, a3⟩ := first_app_pos (t := t) h
      rw [frames_pos h, frames_pos (s := s ++ t) (by rw [a1]; exact h), a2, a3, frames_app k (rest s) t (by have := rest_size h; omega)]
      rfl
    · rw [frames_none h]; rfl

theorem app_assoc (a b c : ByteArray) : a ++ (b ++ c) = a ++ b ++ c := bl_inj (by simp only [bl_app, List.append_assoc])

/-- The two parts, and the whole. -/
theorem feed_bad {d : De} {s t : ByteArray} (h : (feed d s).2.2 ≠ 0) : feed d (s ++ t) = feed d s := by
  unfold feed at h ⊢
  cases hr : right d with
  | false => rfl
  | true =>
    cases hd : d.2.1 with
    | true => rfl
    | false =>
      simp only [hr, hd, Bool.not_true, cond_false] at h ⊢
      cases hf : decide (first (frames (d.1 ++ s)).2 < 0) with
      | false => rw [hf] at h; exact absurd rfl h
      | true =>
        have hf' := of_decide_eq_true hf
        have h1 := first_app_neg (t := t) hf'
        have h2 : frames ((frames (d.1 ++ s)).2 ++ t) = ([], (frames (d.1 ++ s)).2 ++ t) := frames_none (by omega)
        rw [app_assoc, frames_app _ _ _ (Nat.le_refl _), h2]
        simp only [List.append_nil, h1, decide_true, cond_true]
theorem feed_good {d : De} {s t : ByteArray} (h : (feed d s).2.2 = 0) : (feed d (s ++ t)).1 = (feed (feed d s).1 t).1 ∧ (feed d (s ++ t)).2.1 = (feed d s).2.1 ++ (feed (feed d s).1 t).2.1 ∧ (feed d (s ++ t)).2.2 = (feed (feed d s).1 t).2.2 := by
  have hs := h
  unfold feed at hs
  cases hr : right d with
  | false => simp [hr] at hs
  | true =>
    cases hd : d.2.1 with
    | true => simp [hr, hd] at hs
    | false =>
      cases hf : decide (first (frames (d.1 ++ s)).2 < 0) with
      | true => simp [hr, hd, hf] at hs
      | false =>
        have hf' := of_decide_eq_false hf
        have h0 : first (frames (d.1 ++ s)).2 = 0 := by have := frames_rest _ (d.1 ++ s) (Nat.le_refl _); omega
        have e1 : feed d s = (((frames (d.1 ++ s)).2, false, ()), (frames (d.1 ++ s)).1, 0) := by
          unfold feed
          simp only [hr, hd, hf, Bool.not_true, cond_false]
        have e2 : right ((frames (d.1 ++ s)).2, false, ()) = true := by
          unfold right
          simp [h0]
        have e3 : feed ((frames (d.1 ++ s)).2, false, ()) t = bif decide (first (frames ((frames (d.1 ++ s)).2 ++ t)).2 < 0) then ((ByteArray.empty, true, ()), (frames ((frames (d.1 ++ s)).2 ++ t)).1, 4) else
            (((frames ((frames (d.1 ++ s)).2 ++ t)).2, false, ()), (frames ((frames (d.1 ++ s)).2 ++ t)).1, 0) := by
          unfold feed
          simp only [e2, Bool.not_true, cond_false]
        have e4 : feed d (s ++ t) = bif decide (first (frames ((frames (d.1 ++ s)).2 ++ t)).2 < 0) then ((ByteArray.empty, true, ()), (frames (d.1 ++ s)).1 ++ (frames ((frames (d.1 ++ s)).2 ++ t)).1, 4) else
            (((frames ((frames (d.1 ++ s)).2 ++ t)).2, false, ()), (frames (d.1 ++ s)).1 ++ (frames ((frames (d.1 ++ s)).2 ++ t)).1, 0) := by
          unfold feed
          simp only [hr, hd, Bool.not_true, cond_false]
          rw [app_assoc, frames_app _ _ _ (Nat.le_refl _)]
        rw [e1, e3, e4]
        cases decide (first (frames ((frames (d.1 ++ s)).2 ++ t)).2 < 0) <;> exact ⟨rfl, rfl, rfl⟩
theorem feed_size (d : De) (s : ByteArray) : (feed d s).1.1.size ≤ d.1.size + s.size := by
  unfold feed
  cases right d with
  | false => exact Nat.zero_le _
  | true =>
    cases d.2.1 with
    | true => exact Nat.zero_le _
    | false =>
      have := (frs_size (d.1 ++ s).size (d.1 ++ s)).1
      rw [app_size] at this
      have h2 : (frames (d.1 ++ s)).2.size ≤ d.1.size + s.size := by unfold frames; rw [app_size]; exact this
      cases hf : decide (first (frames (d.1 ++ s)).2 < 0) with
      | true => exact Nat.zero_le _
      | false => exact h2
end W
namespace Go.Proofs.Ytiongkbkjfgimaa
open Go.Ev Go.RowKit

theorem v5 (b : ByteArray) (d : Bool) (s t : ByteArray) : (evFn (E0.withFns M11) Try.f5 [.data .bool] (toAVs [dk, .str, .str] ((b, d, ()), s, t, ())) []).val = some (rb true) := by
  rw [t5 b d s t (v1 := ((min t.size 600 : Nat) : Int)) (v2 := t.extract 0 (min t.size 600)) (v3 := ((min b.size 600 : Nat) : Int)) (v4 := b.extract 0 (min b.size 600)) (v5 := ((min s.size 600 : Nat) : Int)) (v6 := s.extract 0 (min s.size 600)) (v14 := [])
    (W.minI_eq t.size 600) (by simp) (W.minI_eq b.size 600) (by simp) (W.minI_eq s.size 600) (by simp) rfl rfl rfl rfl rfl rfl rfl rfl rfl rfl rfl]
  have e1 : (b.extract 0 (min b.size 600)).size = min b.size 600 := by rw [ext_size]; omega
  have e2 : (s.extract 0 (min s.size 600)).size = min s.size 600 := by rw [ext_size]; omega
  have e3 : (t.extract 0 (min t.size 600)).size = min t.size 600 := by rw [ext_size]; omega
  generalize hb : b.extract 0 (min b.size 600) = b' at *
  generalize hs : s.extract 0 (min s.size 600) = s' at *
  generalize ht : t.extract 0 (min t.size 600) = t' at *
  have i1 : (decide ((0 : Int) ≤ ((min b.size 600 : Nat) : Int) ∧ ((min b.size 600 : Nat) : Int) ≤ (b.size : Int))) = true := by simp; omega
  have i2 : (decide ((0 : Int) ≤ ((min s.size 600 : Nat) : Int) ∧ ((min s.size 600 : Nat) : Int) ≤ (s.size : Int))) = true := by simp; omega
  have i3 : (decide ((0 : Int) ≤ ((min t.size 600 : Nat) : Int) ∧ ((min t.size 600 : Nat) : Int) ≤ (t.size : Int))) = true := by simp; omega
  have i4 : okF ((b', d, ()), s', ()) = true := by simp [okF]; omega
  have i5 : (decide (s'.size + t'.size ≤ (9223372036854775807 : Nat))) = true := decide_eq_true (by omega)
  have i6 : okF ((b', d, ()), s' ++ t', ()) = true := by simp [okF, app_size]; omega
  have l1 : (W.feed (b', d, ()) s').2.1.length ≤ b'.size + s'.size := W.feed_len (b', d, ()) s'
  have i7 : (decide ((W.feed (b', d, ()) s').2.1.length ≤ 1048576)) = true := decide_eq_true (by omega)
  by_cases he : (W.feed (b', d, ()) s').2.2 = 0
  · obtain ⟨g1, g2, g3⟩ := W.feed_good (t := t') he
    have hx : (W.feed (b', d, ()) s').1 = ((W.feed (b', d, ()) s').1.1, (W.feed (b', d, ()) s').1.2.1, ()) := rfl
    have l2 : (W.feed (b', d, ()) s').1.1.size ≤ b'.size + s'.size := W.feed_size (b', d, ()) s'
    have l3 := W.feed_len (W.feed (b', d, ()) s').1 t'
    have i8 : okF (((W.feed (b', d, ()) s').1.1, (W.feed (b', d, ()) s').1.2.1, ()), t', ()) = true := by simp [okF]; omega
    rw [← hx] at i8 ⊢
    rw [g1, g2, g3]
    have i9 : (decide (((0 : Nat) + (W.feed (b', d, ()) s').2.1.length) * (24 : Nat) ≤ (140737488355328 : Nat))) = true := decide_eq_true (by omega)
    have i10 : (decide ((List.length ([] ++ (W.feed (b', d, ()) s').2.1) + (W.feed (W.feed (b', d, ()) s').1 t').2.1.length) * (24 : Nat) ≤ (140737488355328 : Nat))) = true := decide_eq_true (by rw [List.nil_append]; omega)
    have i11 : (decide (List.length ([] ++ (W.feed (b', d, ()) s').2.1 ++ (W.feed (W.feed (b', d, ()) s').1 t').2.1) ≤ (1048576 : Nat))) = true := decide_eq_true (by rw [List.nil_append, List.length_append]; omega)
    simp only [Tr.val, i1, i2, i3, i4, i5, i6, i7, i8, i9, i10, i11, he, Bool.not_true, decide_true, Bool.and_self, beq_self_eq_true, cond_true, cond_false, Bool.and_true]
    rw [show ([] ++ (W.feed (b', d, ()) s').2.1 ++ (W.feed (W.feed (b', d, ()) s').1 t').2.1) = (W.feed (b', d, ()) s').2.1 ++ (W.feed (W.feed (b', d, ()) s').1 t').2.1 from by rw [List.nil_append]]
    simp only [decide_true]
    rfl
  · rw [W.feed_bad (t := t') he]
    simp only [Tr.val, i1, i2, i3, i4, i5, i6, i7, he, Bool.not_true, Bool.not_false, decide_true, decide_false, Bool.and_self, beq_self_eq_true, cond_true, cond_false, Bool.and_true]
    rfl

def w5 : FSpec := dspec [dk, .str, .str] fun _ => bool1 true
theorem wk5 : SpecOK Try.prog E0 5 w5 := by
  refine dspec_ok (E0 := E0) (E := E0.withFns M11) (fns := M11) tab MA11 rfl rfl hm Try.func5 (by kernel_rfl) [.data .bool] (fun x hx => ?_)
  obtain ⟨⟨b, d, z'⟩, s, t, z''⟩ := x
  exact v5 b d s t
end Go.Proofs.Ytiongkbkjfgimaa
