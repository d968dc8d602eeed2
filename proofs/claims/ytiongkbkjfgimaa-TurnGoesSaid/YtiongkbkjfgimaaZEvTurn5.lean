/- The law of the turn is true. -/
import Derived.Test.YtiongkbkjfgimaaZEvTurn4
set_option linter.unusedVariables false
set_option linter.unusedSimpArgs false
set_option maxRecDepth 20000
namespace Go.Proofs.Ytiongkbkjfgimaa
open Go.Ev Go.RowKit

theorem right_h0 {h u : Int} (hR : Pl.right h u = true) (h0 : h = 0) : u = 0 := by
  simp only [Pl.right, Pl.client, Pl.time, Bool.or_eq_true, Bool.and_eq_true, decide_eq_true_eq] at hR
  omega
theorem client_pos {w : Int} (hC : Pl.client w = true) : w ≠ 0 := by
  simp only [Pl.client, Bool.and_eq_true, decide_eq_true_eq] at hC
  omega

def vIs (x : Int × Int × Int) (bad a b : Int) : Bool := Pl.is x.1 x.2.1 x.2.2 bad a b

theorem isT_bad {bad a b : Int} (hb : bad ≠ 0) : isT (0, 0, bad) bad a b = true := by simp [isT, Pl.is, hb]
theorem isT_good {a b : Int} : isT (a, b, 0) 0 a b = true := by simp [isT, Pl.is]

theorem gone_bad {h u who : Int} (hx : Pl.right h u = false ∨ Pl.client who = false) : Pl.gone h u who = (0, 0, 1) := by
  rcases hx with e | e
  · simp [Pl.gone, e]
  · cases hR : Pl.right h u <;> simp [Pl.gone, e, hR]
theorem take_bad {h u who n l : Int} (hx : Pl.right h u = false ∨ Pl.client who = false ∨ Pl.time n = false) : Pl.take h u who n l = (0, 0, 1) := by
  rcases hx with e | e | e
  · simp [Pl.take, e]
  · cases hR : Pl.right h u <;> simp [Pl.take, e, hR]
  · cases hR : Pl.right h u <;> cases hC : Pl.client who <;> simp [Pl.take, e, hR, hC]
theorem leave_bad {h u who n : Int} (hx : Pl.right h u = false ∨ Pl.client who = false ∨ Pl.time n = false) : Pl.leave h u who n = (0, 0, 1) := by
  rcases hx with e | e | e
  · simp [Pl.leave, e]
  · cases hR : Pl.right h u <;> simp [Pl.leave, e, hR]
  · cases hR : Pl.right h u <;> cases hC : Pl.client who <;> simp [Pl.leave, e, hR, hC]
theorem tick_bad {h u n : Int} (hx : Pl.right h u = false ∨ Pl.time n = false) : Pl.tick h u n = (0, 0, 1) := by
  rcases hx with e | e
  · simp [Pl.tick, e]
  · cases hR : Pl.right h u <;> simp [Pl.tick, e, hR]

theorem lt_le (n u : Int) : decide (n < u) = !decide (u ≤ n) := by
  by_cases h : u ≤ n
  · simp [h]
  · simp [h]; omega

section
variable {h u who n l : Int}
theorem x_bad (hx : Pl.right h u = false ∨ Pl.time n = false) : (tX h u who n l).val = some (rb true) := by
  have ht : Pl.take h u who n l = (0, 0, 1) := take_bad (by rcases hx with e | e; exact .inl e; exact .inr (.inr e))
  have hl : Pl.leave h u who n = (0, 0, 1) := leave_bad (by rcases hx with e | e; exact .inl e; exact .inr (.inr e))
  simp only [tX, tick_bad hx, ht, hl, isT_bad (show (1 : Int) ≠ 0 by decide), Tr.val, cond_true]
theorem over_eq (hR : Pl.right h u = true) (hT : Pl.time n = true) (c : Bool) (hc : decide (u ≤ n) = c) : isT (Pl.tick h u n) 0 (bif c then 0 else h) (bif c then 0 else u) = true := by
  subst hc
  by_cases e : u ≤ n
  · have e' : ¬ n < u := by omega
    simp [Pl.tick, hR, hT, Pl.at_, e, e', isT_good]
  · have e' : n < u := by omega
    by_cases h0 : h = 0
    · have := right_h0 hR h0
      subst this; subst h0
      simp [Pl.tick, hR, hT, Pl.at_, e, e', isT_good]
    · simp [Pl.tick, hR, hT, Pl.at_, e, e', h0, isT_good]
theorem leave_yes (hR : Pl.right h u = true) (hC : Pl.client who = true) (hT : Pl.time n = true) (hw : h = who) (hn : n < u) : Pl.leave h u who n = (0, 0, 0) := by
  subst hw
  simp [Pl.leave, hR, hC, hT, Pl.at_, hn]
theorem leave_no (hR : Pl.right h u = true) (hC : Pl.client who = true) (hT : Pl.time n = true) (hw : ¬ (h = who ∧ n < u)) : Pl.leave h u who n = (0, 0, 10) := by
  have h0 := client_pos hC
  by_cases hn : n < u
  · have : h ≠ who := fun e => hw ⟨e, hn⟩
    simp [Pl.leave, hR, hC, hT, Pl.at_, hn, this]
  · have : (0 : Int) ≠ who := fun e => h0 e.symm
    simp [Pl.leave, hR, hC, hT, Pl.at_, hn, this]
theorem valV (hR : Pl.right h u = true) (hC : Pl.client who = true) (hT : Pl.time n = true) : (tV h u who n l).val = some (rb true) := by
  have h0 := client_pos hC
  by_cases l1 : l < 1
  · have e : Pl.take h u who n l = (0, 0, 1) := by simp [Pl.take, hR, hC, hT, l1]
    simp only [tV, tL, e, isT_bad (show (1 : Int) ≠ 0 by decide), Tr.val, l1, decide_true, cond_true]
  by_cases l2 : 1000 < l
  · have e : Pl.take h u who n l = (0, 0, 1) := by simp [Pl.take, hR, hC, hT, l1, l2]
    simp only [tV, tL, e, isT_bad (show (1 : Int) ≠ 0 by decide), Tr.val, l1, l2, decide_true, decide_false, cond_true, cond_false]
  have K : ∀ (c : Bool), (decide (Pl.at_ h u n = 0) || decide (Pl.at_ h u n = who)) = true → (tK h u who n l).val = some (rb true) := by
    intro _ hk
    have e : Pl.take h u who n l = (who, minI (IntKind.i64.wrap (n + l)) 1099511627776, 0) := by simp only [Pl.take, hR, hC, hT, l1, l2, hk, decide_false, Bool.not_true, cond_false, cond_true]
    simp only [tK, e, isT_good, Tr.val]
  simp only [tV, l1, l2, decide_false, Tr.val, cond_false]
  by_cases a : h = 0
  · have hk : (decide (Pl.at_ h u n = 0) || decide (Pl.at_ h u n = who)) = true := by
      subst a; simp [Pl.at_]
    simp only [tU, a, decide_true, Bool.not_true, Tr.val, cond_false]
    exact a ▸ K true hk
  by_cases b : h = who
  · have hk : (decide (Pl.at_ h u n = 0) || decide (Pl.at_ h u n = who)) = true := by
      subst b
      by_cases hn : n < u <;> simp [Pl.at_, hn]
    have := K true hk
    simp only [tU, a, b, decide_true, decide_false, Bool.not_true, Bool.not_false, Tr.val, cond_false, cond_true]
    have h2 : ¬ who = 0 := h0
    simp only [h2, decide_false, Bool.not_false, cond_true]
    exact b ▸ this
  by_cases hn : n < u
  · have e : Pl.take h u who n l = (0, 0, 10) := by simp [Pl.take, hR, hC, hT, l1, l2, Pl.at_, hn, a, b]
    simp only [tU, a, b, hn, e, isT_bad (show (10 : Int) ≠ 0 by decide), decide_true, decide_false, Bool.not_true, Bool.not_false, Tr.val, cond_false, cond_true]
  · have hk : (decide (Pl.at_ h u n = 0) || decide (Pl.at_ h u n = who)) = true := by simp [Pl.at_, hn]
    have := K true hk
    simp only [tU, a, b, hn, decide_true, decide_false, Bool.not_true, Bool.not_false, Tr.val, cond_false, cond_true, this]
theorem valW (hR : Pl.right h u = true) (hC : Pl.client who = true) (hT : Pl.time n = true) : ∀ has : Option Bool, has.getD false = (decide (h = who) && decide (n < u)) → (tW h u who n l has).val = some (rb true)
  | none, hh => by
    have no : ¬ (h = who ∧ n < u) := fun ⟨a, b⟩ => by simp [a, b] at hh
    simp only [tW, tB, leave_no hR hC hT no, isT_bad (show (10 : Int) ≠ 0 by decide), Bool.not_true, Tr.val, cond_false, valV hR hC hT]
  | some true, hh => by
    have yes : h = who ∧ n < u := by
      have := hh.symm
      simpa using this
    simp only [tW, leave_yes hR hC hT yes.1 yes.2, isT_good, Bool.not_true, Tr.val, cond_true, cond_false, valV hR hC hT]
  | some false, hh => by
    have no : ¬ (h = who ∧ n < u) := fun ⟨a, b⟩ => by simp [a, b] at hh
    simp only [tW, tB, leave_no hR hC hT no, isT_bad (show (10 : Int) ≠ 0 by decide), Bool.not_true, Bool.not_false, Tr.val, cond_true, cond_false, valV hR hC hT]
/-- What is left behind the first tests. -/
theorem valR (has : Option Bool) (bad : Int) (go ov : Int × Int) (hh : has.getD false = Pl.may h u who n)
    (hbad : bad = bif Pl.right h u && Pl.client who then 0 else 1) (hgo : go = bif decide (h = who) then (0, 0) else (h, u))
    (hov : ov = bif decide (u ≤ n) then (0, 0) else (h, u)) : (tR h u who n l has bad go ov).val = some (rb true) := by
  have G : isT (Pl.gone h u who) bad go.1 go.2 = true := by
    cases hR : Pl.right h u with
    | false => rw [hbad, gone_bad (.inl hR), hR]; exact isT_bad (by decide)
    | true =>
      cases hC : Pl.client who with
      | false => rw [hbad, gone_bad (.inr hC), hR, hC]; exact isT_bad (by decide)
      | true =>
        rw [hbad, hgo, hR, hC]
        by_cases hw : h = who
        · simp only [Pl.gone, hR, hC, hw, decide_true, Bool.not_true, Bool.and_true, cond_true, cond_false]
          simp only [hw] at hR
          simp [hR, isT_good]
        · simp [Pl.gone, hR, hC, hw, isT_good]
  cases hR : Pl.right h u with
  | false => simp only [tR, G, hR, Bool.not_true, Bool.not_false, Tr.val, cond_true, cond_false, x_bad (.inl hR)]
  | true =>
  cases hT : Pl.time n with
  | false => simp only [tR, G, hR, hT, Bool.not_true, Bool.not_false, Tr.val, cond_true, cond_false, x_bad (.inr hT)]
  | true =>
  have O : isT (Pl.tick h u n) 0 ov.1 ov.2 = true := by
    have := over_eq hR hT _ rfl
    rw [hov]
    cases hc : decide (u ≤ n) <;> rw [hc] at this <;> exact this
  simp only [tR, G, hR, hT, Bool.not_true, Tr.val, cond_false, tY, O]
  cases hC : Pl.client who with
  | false =>
    rw [hR, hC] at hbad
    subst hbad
    simp [tZ, take_bad (.inr (.inl hC)), leave_bad (.inr (.inl hC)), isT_bad, Tr.val]
  | true =>
    rw [hR, hC] at hbad
    subst hbad
    simp only [Bool.and_true, cond_true, decide_true, Bool.not_true, cond_false]
    refine valW hR hC hT has ?_
    rw [hh, Pl.may, hR, hC]
    rfl
theorem valM (has : Option Bool) (hh : has.getD false = Pl.may h u who n) : (tM h u who n l has).val = some (rb true) := by
  have key : ∀ bad : Int, (bad = bif Pl.right h u && Pl.client who then 0 else 1) → (tG h u who n l has bad).val = some (rb true) := by
    intro bad hb
    cases hw : decide (h = who) <;> cases hn : decide (u ≤ n) <;> simp only [tG, tO, hw, hn, Tr.val, cond_true, cond_false] <;>
      exact valR has bad _ _ hh hb (by rw [hw]; rfl) (by rw [hn]; rfl)
  simp only [tM, hh, beq_self_eq_true, Bool.not_true, Tr.val, cond_false, tBad]
  cases hR : Pl.right h u with
  | false => simp only [Bool.not_false, cond_true]; exact key 1 (by rw [hR]; rfl)
  | true =>
    cases hC : Pl.client who with
    | false => simp only [Bool.not_true, Bool.not_false, cond_true, cond_false]; exact key 1 (by rw [hR, hC]; rfl)
    | true => simp only [Bool.not_true, cond_true, cond_false]; exact key 0 (by rw [hR, hC]; rfl)
end
theorem law (h u who n l : Int) : (tree h u who n l).val = some (rb true) := by
  have N : Pl.may h u who n = false → (tM h u who n l none).val = some (rb true) := fun e => valM none e.symm
  cases hR : Pl.right h u with
  | false => simp only [tree, hR, Tr.val, cond_false]; exact N (by simp [Pl.may, hR])
  | true =>
  cases hw : decide (h = who) with
  | false => simp only [tree, hR, hw, Tr.val, cond_false, cond_true]; exact N (by simp [Pl.may, hw])
  | true =>
  cases hC : Pl.client who with
  | false => simp only [tree, hR, hw, hC, Tr.val, cond_false, cond_true]; exact N (by simp [Pl.may, hC])
  | true =>
    simp only [tree, hR, hw, hC, Tr.val, cond_true]
    exact valM _ (by rw [Pl.may, hR, hw, hC]; rfl)

def s3 : FSpec := dspec [tk, .int .i64, .int .i64, .int .i64] fun _ => bool1 true
theorem ok3 : SpecOK Try.prog E0 3 s3 := by
  refine dspec_ok (E := E0.withFns L7) (fns := L7) tab A7 rfl rfl hm Try.func3 (by kernel_rfl) [.data .bool] fun x _ => ?_
  obtain ⟨⟨h, u, z⟩, who, n, l, z'⟩ := x
  rw [tree_eq]
  exact law h u who n l
end Go.Proofs.Ytiongkbkjfgimaa
