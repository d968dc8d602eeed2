/- What is pushed in two parts is pushed as in one. -/
import Derived.Test.YtmnbcnhpklejcaaDoorZEvAuto
import Derived.Test.YtmnbcnhpklejcaaDoorZEvC5
set_option linter.unusedVariables false
set_option linter.unusedSimpArgs false
set_option maxRecDepth 20000
open Go Go.Ev
namespace U
theorem drop_app {α : Type} (p q : List α) (j : Nat) : (p ++ q).drop (p.length + j) = q.drop j := by
  rw [List.drop_append, List.drop_eq_nil_of_le (by omega), List.nil_append]
  congr 1
  omega
/-- The last n. -/
def lastN {α : Type} (n : Nat) (l : List α) : List α := l.drop (l.length - n)
theorem lastN_len {α : Type} (n : Nat) (l : List α) : (lastN n l).length = min l.length n := by unfold lastN; rw [List.length_drop]; omega
theorem lastN_app {α : Type} (n : Nat) (l m : List α) : lastN n (lastN n l ++ m) = lastN n (l ++ m) := by
  unfold lastN
  rw [List.length_append, List.length_append, List.length_drop]
  by_cases h : l.length ≤ n
  · rw [show l.length - n = 0 by omega, List.drop_zero]
    simp
  · rw [show l.length - (l.length - n) + m.length - n = m.length by omega]
    rw [List.drop_append, List.drop_append, List.drop_drop]
    congr 1
    · congr 1; omega
    · congr 1; rw [List.length_drop]; omega
theorem lastN_mem {α : Type} {n : Nat} {l : List α} {x : α} (h : x ∈ lastN n l) : x ∈ l := List.mem_of_mem_drop h
/-- An index out of any number. -/
theorem index (c : Int) (n : Nat) (hn : n ≤ 1000) : ∃ k : Nat, k ≤ n ∧ (IntKind.i64.wrap (IntKind.i64.wrap (c.tmod (IntKind.i64.wrap ((n : Int) + 1)) + (n : Int)) + 1)).tmod (IntKind.i64.wrap ((n : Int) + 1)) = (k : Int) := by
  have e0 : IntKind.i64.wrap ((n : Int) + 1) = (n : Int) + 1 := w64 (by omega) (by omega)
  rw [e0]
  have h1 : c.tmod ((n : Int) + 1) < (n : Int) + 1 := by
    have := Int.tmod_lt_of_pos c (show (0 : Int) < (n : Int) + 1 by omega)
    exact this
  have h2 : -((n : Int) + 1) < c.tmod ((n : Int) + 1) := by
    rcases Int.le_total 0 c with h | h
    · have := Int.tmod_nonneg ((n : Int) + 1) h; omega
    · have h3 := Int.tmod_lt_of_pos (-c) (show (0 : Int) < (n : Int) + 1 by omega)
      rw [Int.neg_tmod] at h3
      omega
  generalize c.tmod ((n : Int) + 1) = r at *
  rw [w64 (n := r + (n : Int)) (by omega) (by omega), w64 (n := r + (n : Int) + 1) (by omega) (by omega)]
  have h4 : 0 ≤ r + (n : Int) + 1 := by omega
  have h5 := Int.tmod_nonneg ((n : Int) + 1) h4
  have h6 := Int.tmod_lt_of_pos (r + (n : Int) + 1) (show (0 : Int) < (n : Int) + 1 by omega)
  obtain ⟨k, hk⟩ := Int.eq_ofNat_of_zero_le h5
  exact ⟨k, by omega, hk⟩
theorem index_ne (n : Nat) (hn : n ≤ 1000) : decide (IntKind.i64.wrap ((n : Int) + 1) = 0) = false := by
  rw [w64 (by omega) (by omega)]
  exact decide_eq_false (by omega)
end U
namespace Go.Proofs.YtmnbcnhpklejcaaDoor
open Go.RowKit
theorem push_t {n : Int} {p q : List Line} (hk : keepB (n, p, ()) = true) (hq : (q.any fun y => U.odd y.1) = false) : U.rawPush (n, p, ()) q = (n, U.lastN n.toNat (p ++ q), 0) := by
  obtain ⟨m1, m2, m3, m4⟩ := keep_max hk
  unfold U.rawPush U.lastN
  rw [hk, hq]
  have e : (maxI (((p ++ q).length : Int) - n) 0).toNat = (p ++ q).length - n.toNat := by unfold maxI; split <;> omega
  show (n, (p ++ q).drop (maxI (((p ++ q).length : Int) - n) 0).toNat, (0 : Int)) = _
  rw [e]
theorem push_f {n : Int} {p q : List Line} (h : keepB (n, p, ()) = false ∨ (q.any fun y => U.odd y.1) = true) : U.rawPush (n, p, ()) q = (0, [], 1) := by
  unfold U.rawPush
  rcases h with h | h
  · rw [h]; rfl
  · rw [h, Bool.not_true, Bool.and_false]; rfl
theorem keep_of {n : Int} {p : List Line} (m1 : 0 ≤ n) (m2 : n ≤ 40) (m3 : (p.length : Int) ≤ n) (m4 : ∀ x ∈ p, U.odd x.1 = false) : keepB (n, p, ()) = true := by
  have : (p.any fun y => U.odd y.1) = false := by rw [List.any_eq_false]; intro x hx; rw [m4 x hx]; decide
  simp [keepB, m1, m2, m3, this]
theorem law4 (a1 : Int) (a2 b : List Line) (c : Int) : (d4 a1 a2 b c).val = some true := by
  have k2 := U.few_ok a2 (n := 42) (by omega)
  have k1 := U.few_ok b (n := 50) (by omega)
  have l2 := U.few_len a2 42
  have l1 := U.few_len b 50
  dsimp only [d4]
  generalize U.few a2 42 = p at *
  generalize U.few b 50 = q at *
  have hpq : p.length + q.length ≤ 1048576 := by omega
  obtain ⟨k, hk, ek⟩ := U.index c q.length (by omega)
  have ei := U.index_ne q.length (by omega)
  rw [ek]
  have n0 : okls [] = true := by rfl
  by_cases hb : keepB (a1, p, ()) = false ∨ (q.any fun y => U.odd y.1) = true
  · simp only [Tr.val, push_f hb, ei, k1, k2, hpq, n0, U.eqLs_refl, decide_true, Bool.not_false, Bool.and_self, cond_true, cond_false, show ¬ (1 : Int) = 0 by decide, decide_false]
  · have hk0 : keepB (a1, p, ()) = true := by cases h : keepB (a1, p, ()) with | true => rfl | false => exact absurd (.inl h) hb
    have hq : (q.any fun y => U.odd y.1) = false := by cases h : q.any (fun y => U.odd y.1) with | false => rfl | true => exact absurd (.inr h) hb
    obtain ⟨m1, m2, m3, m4⟩ := keep_max hk0
    have op : ∀ x ∈ p, U.odd x.1 = false := fun x hx => by
      have := List.any_eq_false.1 m4 x hx
      simpa using this
    have oq : ∀ x ∈ q, U.odd x.1 = false := fun x hx => by
      have := List.any_eq_false.1 hq x hx
      simpa using this
    have any_f : ∀ {l : List Line}, (∀ x ∈ l, U.odd x.1 = false) → (l.any fun y => U.odd y.1) = false := fun {l} h => by
      rw [List.any_eq_false]; intro x hx; rw [h x hx]; decide
    have ht : (((q.take k).any) fun y => U.odd y.1) = false := any_f fun x hx => oq x (List.mem_of_mem_take hx)
    have hd : (((q.drop k).any) fun y => U.odd y.1) = false := any_f fun x hx => oq x (List.mem_of_mem_drop hx)
    -- the first part
    have lD1 := U.lastN_len a1.toNat (p ++ q.take k)
    have oD1 : ∀ x ∈ U.lastN a1.toNat (p ++ q.take k), U.odd x.1 = false := fun x hx => by
      rcases List.mem_append.1 (U.lastN_mem hx) with h | h
      · exact op x h
      · exact oq x (List.mem_of_mem_take h)
    have kD1 : keepB (a1, U.lastN a1.toNat (p ++ q.take k), ()) = true := keep_of m1 m2 (by rw [lD1]; omega) oD1
    have eD : U.lastN a1.toNat (U.lastN a1.toNat (p ++ q.take k) ++ q.drop k) = U.lastN a1.toNat (p ++ q) := by
      rw [U.lastN_app, List.append_assoc, List.take_append_drop]
    -- the whole
    have lD := U.lastN_len a1.toNat (p ++ q)
    have oD : ∀ x ∈ U.lastN a1.toNat (p ++ q), U.odd x.1 = false := fun x hx => by
      rcases List.mem_append.1 (U.lastN_mem hx) with h | h
      · exact op x h
      · exact oq x h
    have kD : keepB (a1, U.lastN a1.toNat (p ++ q), ()) = true := keep_of m1 m2 (by rw [lD]; omega) oD
    have kpq := U.okl_app k2 k1 hpq
    have okD : U.okl (U.lastN a1.toNat (p ++ q)) = true := U.okl_sub kpq (fun x hx => U.lastN_mem hx) (by rw [lD]; omega)
    have okt : U.okl (q.take k) = true := U.okl_sub k1 (fun x hx => List.mem_of_mem_take hx) (by rw [List.length_take]; omega)
    have okd : U.okl (q.drop k) = true := U.okl_sub k1 (fun x hx => List.mem_of_mem_drop hx) (by rw [List.length_drop]; omega)
    have kpt := U.okl_app k2 okt (by rw [List.length_take]; omega)
    have okD1 : U.okl (U.lastN a1.toNat (p ++ q.take k)) = true := U.okl_sub kpt (fun x hx => U.lastN_mem hx) (by rw [lD1]; omega)
    rw [List.length_append] at lD
    rw [List.length_append, List.length_take] at lD1
    have eT : U.rawTake (a1, U.lastN a1.toNat (p ++ q), ()) (q.length : Int) = (a1, (U.lastN a1.toNat (p ++ q)).take ((U.lastN a1.toNat (p ++ q)).length - q.length), (U.lastN a1.toNat (p ++ q)).drop ((U.lastN a1.toNat (p ++ q)).length - q.length), 0) := by
      unfold U.rawTake
      rw [kD, decide_eq_true (show (0 : Int) ≤ (q.length : Int) by omega)]
      rfl
    have eK : (U.lastN a1.toNat (p ++ q)).drop ((U.lastN a1.toNat (p ++ q)).length - q.length) = q.drop (q.length - min q.length (U.lastN a1.toNat (p ++ q)).length) := by
      rw [← U.drop_app p q]
      conv => lhs; unfold U.lastN
      rw [List.drop_drop]
      congr 1
      rw [List.length_drop, lD, List.length_append]
      omega
    have lK : ((U.lastN a1.toNat (p ++ q)).drop ((U.lastN a1.toNat (p ++ q)).length - q.length)).length = min q.length (U.lastN a1.toNat (p ++ q)).length := by rw [List.length_drop]; omega
    have lT : ((U.lastN a1.toNat (p ++ q)).take ((U.lastN a1.toNat (p ++ q)).length - q.length)).length = (U.lastN a1.toNat (p ++ q)).length - q.length := by rw [List.length_take]; omega
    have okK : U.okl ((U.lastN a1.toNat (p ++ q)).drop ((U.lastN a1.toNat (p ++ q)).length - q.length)) = true := U.okl_sub okD (fun x hx => List.mem_of_mem_drop hx) (by rw [List.length_drop]; omega)
    have okT : U.okl ((U.lastN a1.toNat (p ++ q)).take ((U.lastN a1.toNat (p ++ q)).length - q.length)) = true := U.okl_sub okD (fun x hx => List.mem_of_mem_take hx) (by rw [List.length_take]; omega)
    have kT : keepB (a1, (U.lastN a1.toNat (p ++ q)).take ((U.lastN a1.toNat (p ++ q)).length - q.length), ()) = true := keep_of m1 m2 (by rw [lT]; omega) (fun x hx => oD x (List.mem_of_mem_take hx))
    have sK := U.okl_s okK
    have sD := U.okl_s okD
    rw [eK] at sK lK
    rw [lK] at sK
    have f1 : ((k : Nat) : Int) ≤ (q.length : Int) := by omega
    have f2 : ¬ a1 < ((U.lastN a1.toNat (p ++ q)).length : Int) := by omega
    have f3 : ((min q.length (U.lastN a1.toNat (p ++ q)).length : Nat) : Int) = minI (q.length : Int) a1 := by unfold minI; split <;> omega
    have f4 : IntKind.i64.wrap ((q.length : Int) - ((min q.length (U.lastN a1.toNat (p ++ q)).length : Nat) : Int)) = ((q.length - min q.length (U.lastN a1.toNat (p ++ q)).length : Nat) : Int) := by rw [w64 (by omega) (by omega)]; omega
    have f5 : ((q.length - min q.length (U.lastN a1.toNat (p ++ q)).length : Nat) : Int) ≤ (q.length : Int) := by omega
    have f6 : IntKind.i64.wrap (((U.lastN a1.toNat (p ++ q)).length : Int) - ((min q.length (U.lastN a1.toNat (p ++ q)).length : Nat) : Int)) = (((U.lastN a1.toNat (p ++ q)).length - q.length : Nat) : Int) := by rw [w64 (by omega) (by omega)]; omega
    have g1 : p.length + (q.take k).length ≤ 1048576 := by rw [List.length_take]; omega
    have g2 : (U.lastN a1.toNat (p ++ q.take k)).length + (q.drop k).length ≤ 1048576 := by rw [List.length_drop]; omega
    simp only [Tr.val, U.sub_tk, U.sub_dr, Int.toNat_natCast, push_t hk0 hq, push_t hk0 ht, push_t kD1 hd, eD, eT, eK, lK, lT, kT, okT, sK, sD, okD, okD1, okt, okd, k1, k2, ei, hpq, f1, f2, f4, f5, f6, g1, g2, decide_eq_true f3, Int.natCast_nonneg, and_self, U.eqLs_refl,
      decide_true, decide_false, Bool.not_false, Bool.not_true, Bool.and_self, cond_true, cond_false]
abbrev w4 : FSpec := s4' fun _ => true
theorem wk4 : SpecOK Tryd.prog E0 4 w4 := k4' fun a1 a2 b c => law4 a1 a2 b c
end Go.Proofs.YtmnbcnhpklejcaaDoor
