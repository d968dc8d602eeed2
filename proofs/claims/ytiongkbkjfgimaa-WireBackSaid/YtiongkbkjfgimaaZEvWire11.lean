/- WireBack: the first loop. -/
import Derived.Test.YtiongkbkjfgimaaZEvWireV
set_option linter.unusedVariables false
set_option linter.unusedSimpArgs false
set_option maxRecDepth 20000
namespace Go.Proofs.Ytiongkbkjfgimaa
open Go.Ev Go.RowKit

abbrev A6a : Type := List Int × List W.Fr × List W.Fr × Nat
def V6a (x : A6a) : VS := ⟨106, [dC x.1, kB false, dS (W.cat x.2.2.1), lS (leafO 0 x.2.2.1), dF x.2.1, dI .i64 (x.2.1.length : Int), dI .i64 (x.2.2.2 : Int)], rowO 0 x.2.2.1⟩
def Z6a (x : A6a) : VS := ⟨106, [dC x.1, kB false, dS (W.cat x.2.2.1), lS (leafO 0 x.2.2.1)], rowO 0 x.2.2.1⟩
def done6a (l : List W.Fr) (i : Nat) : List W.Fr := ((l.take i).map W.cut).filter W.may
def Inv6a (x : A6a) : Prop := x.2.2.2 ≤ 6 ∧ x.2.2.2 ≤ x.2.1.length ∧ x.2.2.1 = done6a x.2.1 x.2.2.2
def at6 (l : List W.Fr) (i : Nat) : W.Fr := W.cut (rget fk l (i : Int))
def step6a (x : A6a) : A6a ⊕ (Ex × VS) :=
  if x.2.2.2 < x.2.1.length ∧ x.2.2.2 < 6 then
    (bif W.may (at6 x.2.1 x.2.2.2) then .inl (x.1, x.2.1, x.2.2.1 ++ [at6 x.2.1 x.2.2.2], x.2.2.2 + 1) else .inl (x.1, x.2.1, x.2.2.1, x.2.2.2 + 1))
  else .inr (.exit 0, Z6a x)

theorem done_succ {l : List W.Fr} {i : Nat} (h : i < l.length) : done6a l (i + 1) = bif W.may (at6 l i) then done6a l i ++ [at6 l i] else done6a l i := by
  unfold done6a
  have e : l.take (i + 1) = l.take i ++ [rget fk l (i : Int)] := by
    rw [List.take_succ_eq_append_getElem h]
    congr 2
    simp [rget, List.getD, h]
  rw [e, List.map_append, List.filter_append]
  show _ ++ [at6 l i].filter W.may = _
  cases hm : W.may (at6 l i) with
  | true => simp [hm]
  | false => simp [hm]

theorem done_may {l : List W.Fr} {i : Nat} : ∀ f ∈ done6a l i, W.may f = true := fun f hf => (List.mem_filter.1 hf).2
theorem done_len {l : List W.Fr} {i : Nat} : (done6a l i).length ≤ i := by
  unfold done6a
  refine Nat.le_trans (List.length_filter_le _ _) ?_
  rw [List.length_map, List.length_take]
  exact Nat.min_le_left _ _

theorem inv6a (x y : A6a) (h : Inv6a x) (hs : step6a x = .inl y) : Inv6a y := by
  obtain ⟨c, l, acc, i⟩ := x
  obtain ⟨h1, h2, h4⟩ := h
  simp only [] at h1 h2 h4
  unfold step6a at hs
  split at hs
  · rename_i hc
    simp only [] at hc
    have hd := done_succ hc.1
    simp only [] at hs
    cases hm : W.may (at6 l i) with
    | true =>
      rw [hm] at hs hd
      cases hs
      exact ⟨by show i + 1 ≤ 6; omega, by show i + 1 ≤ l.length; omega, by show acc ++ [at6 l i] = _; rw [h4]; exact hd.symm⟩
    | false =>
      rw [hm] at hs hd
      cases hs
      exact ⟨by show i + 1 ≤ 6; omega, by show i + 1 ≤ l.length; omega, by show acc = _; rw [h4]; exact hd.symm⟩
  · cases hs

theorem step_yes {c : List Int} {l acc : List W.Fr} {i : Nat} (h : i < l.length) (h6 : i < 6) (hm : W.may (at6 l i) = true) : step6a (c, l, acc, i) = .inl (c, l, acc ++ [at6 l i], i + 1) := by
  unfold step6a
  rw [if_pos ⟨h, h6⟩]
  show (bif W.may (at6 l i) then _ else _) = _
  rw [hm, cond_true]
theorem step_no {c : List Int} {l acc : List W.Fr} {i : Nat} (h : i < l.length) (h6 : i < 6) (hm : W.may (at6 l i) = false) : step6a (c, l, acc, i) = .inl (c, l, acc, i + 1) := by
  unfold step6a
  rw [if_pos ⟨h, h6⟩]
  show (bif W.may (at6 l i) then _ else _) = _
  rw [hm, cond_false]
theorem step_out {c : List Int} {l acc : List W.Fr} {i : Nat} (h : ¬ (i < l.length ∧ i < 6)) : step6a (c, l, acc, i) = .inr (.exit 0, Z6a (c, l, acc, i)) := by
  unfold step6a
  rw [if_neg h]

theorem V6a_nil (c : List Int) (l : List W.Fr) (i : Nat) : V6a (c, l, [], i) = { n := 106, v := [dC c, kB false, dS (W.cat []), lS .nils, dF l, dI .i64 (l.length : Int), dI .i64 (i : Int)], h := [] } := rfl
theorem V6a_cons (c : List Int) (l : List W.Fr) (f : W.Fr) (m : List W.Fr) (i : Nat) : V6a (c, l, f :: m, i) = { n := 106, v := [dC c, kB false, dS (W.cat (f :: m)), lS (.row 0), dF l, dI .i64 (l.length : Int), dI .i64 (i : Int)], h := [(0, .row 36 fk (f :: m))] } := rfl

theorem hB6n (c : List Int) (l : List W.Fr) (i : Nat) (h1 : i ≤ 6) : ((evC (evI 2) (lc Try.f6 0) (E6.lend 0) (unV [1, 4, 5, 6, 18, 19, 20] (V6a (c, l, [], i)))).map (decL 0 [1, 4, 5, 6, 18, 19, 20] [1, 4, 5, 6])).val = some (encL V6a (step6a (c, l, [], i))) := by
  have w1 : IntKind.i64.wrap ((i : Int) + 1) = ((i + 1 : Nat) : Int) := by rw [wrap64_byte (by omega) (by omega)]; omega
  have hesz := W.enc_size (at6 l i)
  rw [V6a_nil, b6an l c (W.cat []) (l.length : Int) (i : Int) (v3 := (at6 l i).1) (v4 := (at6 l i).2.1) (v5 := W.enc (at6 l i)) (v7 := [at6 l i]) rfl rfl rfl rfl rfl rfl rfl]
  by_cases c1 : i < l.length
  · have c1' : (i : Int) < (l.length : Int) := by omega
    have i1 : inB (i : Int) l.length = true := by simp [inB]; omega
    by_cases c2 : i < 6
    · have c2' : ¬ (6 : Int) ≤ (i : Int) := by omega
      cases hm : W.may (at6 l i) with
      | false =>
        have hm' : W.may ((at6 l i).1, (at6 l i).2.1, ()) = false := hm
        rw [step_no c1 c2 hm]
        simp only [Tr.val, c1', i1, c2', hm', decide_true, decide_false, cond_true, cond_false, show decide ((1 : Int) = 0) = false from rfl, Bool.not_false, w1]
        rfl
      | true =>
        have hm' : W.may ((at6 l i).1, (at6 l i).2.1, ()) = true := hm
        have h5 := (W.may_un hm).2.2
        have j1 : (decide ((W.cat []).size + (W.enc (at6 l i)).size ≤ (9223372036854775807 : Nat))) = true := decide_eq_true (by rw [show (W.cat []).size = 0 from rfl]; omega)
        have j2 : (decide ([at6 l i].length * (24 : Nat) ≤ (140737488355328 : Nat))) = true := rfl
        rw [step_yes c1 c2 hm]
        simp only [Tr.val, c1', i1, c2', hm', decide_true, decide_false, cond_true, cond_false, Bool.not_true, j1, j2, w1]
        rw [← W.cat_snoc]
        rfl
    · have c2' : (6 : Int) ≤ (i : Int) := by omega
      rw [step_out (by omega)]
      simp only [Tr.val, c1', i1, c2', decide_true, cond_true]
      rfl
  · have c1' : ¬ (i : Int) < (l.length : Int) := by omega
    rw [step_out (by omega)]
    simp only [Tr.val, c1', decide_false, cond_false]
    rfl

theorem hB6r (c : List Int) (l : List W.Fr) (f : W.Fr) (m : List W.Fr) (i : Nat) (h1 : i ≤ 6) (h2 : (f :: m).length ≤ 6) (h3 : (W.cat (f :: m)).size ≤ 3096) : ((evC (evI 2) (lc Try.f6 0) (E6.lend 0) (unV [1, 4, 5, 6, 18, 19, 20] (V6a (c, l, f :: m, i)))).map (decL 0 [1, 4, 5, 6, 18, 19, 20] [1, 4, 5, 6])).val = some (encL V6a (step6a (c, l, f :: m, i))) := by
  have w1 : IntKind.i64.wrap ((i : Int) + 1) = ((i + 1 : Nat) : Int) := by rw [wrap64_byte (by omega) (by omega)]; omega
  have hesz := W.enc_size (at6 l i)
  rw [V6a_cons, b6ar l c (W.cat (f :: m)) (l.length : Int) (i : Int) f m (v3 := (at6 l i).1) (v4 := (at6 l i).2.1) (v5 := W.enc (at6 l i)) (v7 := [at6 l i]) rfl rfl rfl rfl rfl rfl rfl]
  by_cases c1 : i < l.length
  · have c1' : (i : Int) < (l.length : Int) := by omega
    have i1 : inB (i : Int) l.length = true := by simp [inB]; omega
    by_cases c2 : i < 6
    · have c2' : ¬ (6 : Int) ≤ (i : Int) := by omega
      cases hm : W.may (at6 l i) with
      | false =>
        have hm' : W.may ((at6 l i).1, (at6 l i).2.1, ()) = false := hm
        rw [step_no c1 c2 hm]
        simp only [Tr.val, c1', i1, c2', hm', decide_true, decide_false, cond_true, cond_false, show decide ((1 : Int) = 0) = false from rfl, Bool.not_false, w1]
        rfl
      | true =>
        have hm' : W.may ((at6 l i).1, (at6 l i).2.1, ()) = true := hm
        have h5 := (W.may_un hm).2.2
        have j1 : (decide ((W.cat (f :: m)).size + (W.enc (at6 l i)).size ≤ (9223372036854775807 : Nat))) = true := decide_eq_true (by omega)
        have j2 : (decide (((f :: m).length + [at6 l i].length) * (24 : Nat) ≤ (140737488355328 : Nat))) = true := decide_eq_true (by rw [List.length_singleton]; omega)
        rw [step_yes c1 c2 hm]
        simp only [Tr.val, c1', i1, c2', hm', decide_true, decide_false, cond_true, cond_false, Bool.not_true, j1, j2, w1]
        rw [← W.cat_snoc]
        rfl
    · have c2' : (6 : Int) ≤ (i : Int) := by omega
      rw [step_out (by omega)]
      simp only [Tr.val, c1', i1, c2', decide_true, cond_true]
      rfl
  · have c1' : ¬ (i : Int) < (l.length : Int) := by omega
    rw [step_out (by omega)]
    simp only [Tr.val, c1', decide_false, cond_false]
    rfl

theorem hB6a (x : A6a) (hx : Inv6a x) : ((evC (evI 2) (lc Try.f6 0) (E6.lend 0) (unV [1, 4, 5, 6, 18, 19, 20] (V6a x))).map (decL 0 [1, 4, 5, 6, 18, 19, 20] [1, 4, 5, 6])).val = some (encL V6a (step6a x)) := by
  obtain ⟨c, l, acc, i⟩ := x
  obtain ⟨h1, h2, h4⟩ := hx
  simp only [] at h1 h2 h4
  have hlen := done_len (l := l) (i := i)
  rw [← h4] at hlen
  have hsz : (W.cat acc).size ≤ 516 * acc.length := W.cat_size (by rw [h4]; exact done_may)
  cases acc with
  | nil => exact hB6n c l i h1
  | cons f m => exact hB6r c l f m i h1 (by omega) (by omega)

theorem run6a (c : List Int) (l : List W.Fr) : ∀ (k i : Nat), i ≤ 6 → i ≤ l.length → min 6 l.length - i < k → runS step6a k (c, l, done6a l i, i) = some (.exit 0, Z6a (c, l, W.sent l, 0))
  | 0, i, h1, h2, h3 => by omega
  | k + 1, i, h1, h2, h3 => by
    by_cases hc : i < l.length ∧ i < 6
    · have e : step6a (c, l, done6a l i, i) = .inl (c, l, done6a l (i + 1), i + 1) := by
        unfold step6a
        rw [if_pos hc, done_succ hc.1]
        cases W.may (at6 l i) <;> rfl
      simp only [runS, e]
      exact run6a c l k (i + 1) (by omega) (by omega) (by omega)
    · have e : step6a (c, l, done6a l i, i) = .inr (.exit 0, Z6a (c, l, done6a l i, i)) := by
        unfold step6a
        rw [if_neg hc]
      simp only [runS, e]
      have : done6a l i = W.sent l := by
        unfold done6a W.sent
        congr 2
        by_cases h6 : i = 6
        · rw [h6]
        · have : i = l.length := by omega
          rw [List.take_of_length_le (by omega), List.take_of_length_le (by omega)]
      rw [this]
      rfl

theorem loop6a : LoopOK (evI 2) (E6.lend 0) (lc Try.f6 0) := by
  refine loopOK_S 4 [1, 4, 5, 6, 18, 19, 20] [1, 4, 5, 6] V6a Inv6a step6a (by kernel_rfl) rfl rfl hB6a inv6a ?_
  rintro ⟨N, v, h⟩ tr r h1 h2
  replace h1 := at_key (show (bif Nat.beq 4 4 && Nat.beq N 106 then g6a v h else none) = some tr from by
    have h1 : (bif Nat.beq N 106 then g6a v h else none) = some tr := by
      have h1 : (bif Nat.beq N 106 then g6a v h else none) = some tr := h1
      exact h1
    exact h1)
  obtain ⟨h1, rfl⟩ := h1
  unfold g6a at h1
  split at h1
  · rename_i c b a l n i
    cases h1
    simp only [Tr.val] at h2
    cases hc : (!b && (decide ((a : ByteArray) = ByteArray.empty) && (decide ((n : Int) = (List.length (α := W.Fr) l : Int)) && decide ((i : Int) = 0)))) with
    | false => rw [hc] at h2; cases h2
    | true =>
      rw [hc, cond_true] at h2
      simp only [Bool.and_eq_true, Bool.not_eq_true', decide_eq_true_eq] at hc
      obtain ⟨rfl, rfl, rfl, rfl⟩ := hc
      refine ⟨(c, l, [], 0), 7, ⟨Nat.zero_le _, Nat.zero_le _, rfl⟩, by kernel_rfl, ?_⟩
      have := run6a c l 7 0 (by omega) (Nat.zero_le _) (by omega)
      rw [show done6a l 0 = [] from rfl] at this
      rw [this, ← h2]
      cases hs : W.sent l with
      | nil => rfl
      | cons f m => rfl
  · cases h1
end Go.Proofs.Ytiongkbkjfgimaa
