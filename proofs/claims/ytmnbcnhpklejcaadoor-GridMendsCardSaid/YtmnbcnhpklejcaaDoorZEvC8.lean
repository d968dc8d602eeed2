/- A line that is mended. -/
import Derived.Test.YtmnbcnhpklejcaaDoorZEvAuto
import Derived.Test.YtmnbcnhpklejcaaDoorZEvC7
set_option linter.unusedVariables false
set_option linter.unusedSimpArgs false
set_option maxRecDepth 20000
open Go Go.Ev
namespace U
theorem mendAt_eq {i : Nat} {l : List Cl} (h : whole l i = true) : mendAt i l = l := by unfold mendAt; rw [if_pos h]
theorem fold_id {l : List Cl} : ∀ (k i : Nat), (∀ j, i ≤ j → j < i + k → whole l j = true) → (List.range' i k).foldl (fun l i => mendAt i l) l = l
  | 0, _, _ => rfl
  | k + 1, i, h => by
    rw [List.range'_succ, List.foldl_cons, mendAt_eq (h i (Nat.le_refl _) (by omega))]
    exact fold_id k (i + 1) fun j h1 h2 => h j (by omega) (by omega)
/-- A line that is whole stays. -/
theorem mend_id {l : List Cl} (h : ∀ j, j < l.length → whole l j = true) : mend l = l := fold_id _ _ fun j _ h2 => h j (by omega)
def wide3 (l : List Cl) : Prop := ∀ j, j < l.length → cw l j = 0 ∨ cw l j = 1 ∨ cw l j = 2
theorem cw_set {l : List Cl} {i j : Nat} {c : Cl} (hi : i < l.length) : cw (l.set i c) j = if j = i then c.2.1 else cw l j := by
  unfold cw
  rw [List.getD_eq_getElem?_getD, List.getD_eq_getElem?_getD, List.getElem?_set]
  by_cases h : i = j
  · subst h
    rw [if_pos rfl, if_pos hi, if_pos rfl]
    rfl
  · rw [if_neg h, if_neg (fun e => h e.symm)]
/-- Ahead of i all are whole; so they stay when i is mended. -/
theorem mend_step {l : List Cl} {i : Nat} (hi : i < l.length) (h : ∀ j, j < i → whole l j = true) : ∀ j, j < i + 1 → whole (mendAt i l) j = true := by
  intro j hj
  cases hw : whole l i with
  | true =>
    rw [mendAt_eq hw]
    by_cases e : j = i
    · rw [e]; exact hw
    · exact h j (by omega)
  | false =>
    unfold mendAt
    rw [hw, if_neg (by decide)]
    have hl : (l.set i (blank (l.getD i dC).2.2.1)).length = l.length := by simp
    have hb : (blank (l.getD i dC).2.2.1).2.1 = 1 := rfl
    have key : ∀ k, cw (l.set i (blank (l.getD i dC).2.2.1)) k = if k = i then 1 else cw l k := fun k => by rw [cw_set hi, hb]
    generalize l.set i (blank (l.getD i dC).2.2.1) = m at *
    by_cases e : j = i
    · subst e
      unfold whole
      rw [key, if_pos rfl]
      simp
    · have hj' : j < i := by omega
      have h1 := h j hj'
      unfold whole at h1 ⊢
      unfold whole at hw
      rw [key, key, key, if_neg e, hl]
      by_cases c2 : cw l j = 2
      · rw [if_pos c2] at h1 ⊢
        by_cases e2 : j + 1 = i
        · exfalso
          subst e2
          simp only [Bool.and_eq_true, decide_eq_true_eq] at h1
          rw [if_neg (by omega), if_pos h1.2] at hw
          simp [c2] at hw
        · rw [if_neg e2]; exact h1
      · rw [if_neg c2] at h1 ⊢
        by_cases c0 : cw l j = 0
        · rw [if_pos c0] at h1 ⊢
          have : ¬ j - 1 = i := by omega
          rw [if_neg this]
          exact h1
        · rw [if_neg c0]
theorem mend_fold (N : Nat) : ∀ (k i : Nat) (l : List Cl), i + k = N → l.length = N → (∀ j, j < i → whole l j = true) →
    ((List.range' i k).foldl (fun l i => mendAt i l) l).length = N ∧ ∀ j, j < N → whole ((List.range' i k).foldl (fun l i => mendAt i l) l) j = true
  | 0, i, l, h1, h2, h3 => ⟨h2, fun j hj => h3 j (by omega)⟩
  | k + 1, i, l, h1, h2, h3 => by
    rw [List.range'_succ, List.foldl_cons]
    exact mend_fold N k (i + 1) (mendAt i l) (by omega) (by rw [mendAt_len]; exact h2) (mend_step (by omega) h3)
theorem mend_len (l : List Cl) : (mend l).length = l.length := (mend_fold l.length l.length 0 l (by omega) rfl (fun j h => absurd h (Nat.not_lt_zero j))).1
theorem mend_whole (l : List Cl) : ∀ j, j < (mend l).length → whole (mend l) j = true := by
  rw [mend_len]
  exact (mend_fold l.length l.length 0 l (by omega) rfl (fun j h => absurd h (Nat.not_lt_zero j))).2
theorem mend_mend (l : List Cl) : mend (mend l) = mend l := mend_id (mend_whole l)
/-- Each of a mended line's cells was there, or is a blank of one. -/
theorem mend_mem {P : Cl → Prop} (hb : ∀ c, P c → P (blank c.2.2.1)) : ∀ (k i : Nat) (l : List Cl), i + k ≤ l.length → (∀ c ∈ l, P c) → ∀ c ∈ (List.range' i k).foldl (fun l i => mendAt i l) l, P c
  | 0, i, l, _, h => h
  | k + 1, i, l, hl, h => by
    rw [List.range'_succ, List.foldl_cons]
    refine mend_mem hb k (i + 1) (mendAt i l) (by rw [mendAt_len]; omega) fun c hc => ?_
    unfold mendAt at hc
    split at hc
    · exact h c hc
    · rcases List.mem_or_eq_of_mem_set hc with hc | hc
      · exact h c hc
      · rw [hc]
        exact hb _ (h _ (by rw [getD_el (by omega)]; exact List.getElem_mem _))
theorem blank_R {c : Cl} (h : cellR c = true) : cellR (blank c.2.2.1) = true := by
  have hl : look c.2.2.1 = true := by
    unfold cellR at h
    split at h
    · rw [Bool.and_eq_true] at h; exact h.1
    · split at h
      · rw [Bool.and_eq_true] at h; exact h.1
      · cases h
  have hi : inn c.2.2.1.2.1 0 256 = true := by
    unfold look at hl
    simp only [Bool.and_eq_true] at hl
    exact hl.2.1
  unfold cellR
  rw [if_pos (show (blank c.2.2.1).1.size = 0 from rfl)]
  unfold look
  simp only [blank, hi, Bool.and_eq_true]
  decide
end U
namespace Go.Proofs.YtmnbcnhpklejcaaDoor
open Go.RowKit
abbrev G5 : List (Nat × FSpec) := [(25, w25), (27, w27), (28, w28), (29, w29), (30, w30), (31, w31)]
theorem AG5 : AllFn Tryd.prog E0 G5 := .cons wk25 (.cons wk27 (.cons wk28 (.cons wk29 (.cons wk30 (.cons wk31 .nil)))))
def live5 (key : Nat) : Lv :=
  bif Nat.beq key 3 then { ls := [1, 9, 10, 11] } else bif Nat.beq key 1003 then { ls := [1, 2] } else
  { ls := [] }
abbrev M5 (ls : Nat → VS → Option (Tr (Ex × VS))) : Env := (E0.withFns G5).loops live5 ls
@[reducible] def p5_0 : LP := { n := 50, sl := [.c (Leaf.ptr ( 0) ( 0)), .d (celk.sl), .d (.int .i64), .d (.int .i64)], bl := [(0, .box [.d (celk.sl), .d (Kd.bool)])] }
def B5_0 (x1 : List Cell) (x2 : Int) (x3 : Int) (h0_0 : List Cell) (h0_1 : Bool) : Tr (p5_0.T ⊕ (Bool × List Cell × Bool ⊕ List Cell × Bool)) :=
  Tr.ite (decide (x3 < x2))
    (Tr.ite (inB x3 x1.length)
      (Tr.ite (decide (ByteArray.size (rget celk x1 x3).fst ≤ (1048576 : Nat)))
        (Tr.ite (!U.cellR (rget celk x1 x3)) (Tr.ret (Sum.inr (Sum.inl (true, h0_0, h0_1)))) (Tr.ret (Sum.inl ((x1, x2, IntKind.i64.wrap (x3 + (1 : Int)), ()), (h0_0, h0_1, ()), ())))) Tr.fail)
      Tr.fail)
    (Tr.ret (Sum.inr (Sum.inr (h0_0, h0_1))))
def X5_0 : (Bool × List Cell × Bool ⊕ List Cell × Bool) → Ex × VS
  | (.inl r) => Prod.mk Ex.ret { n := 50, v := [Slot.av (AV.one (Leaf.ptr ( 0) ( 0))), Slot.av (AV.one (Leaf.dat Kd.bool r.fst))], h := [( 0, Blk.box [Leaf.dat celk.sl r.snd.fst, Leaf.dat Kd.bool r.snd.snd])] }
  | (.inr r) => Prod.mk (Ex.exit ( 0)) { n := 50, v := [Slot.av (AV.one (Leaf.ptr ( 0) ( 0))), Slot.av (AV.one Leaf.undef)], h := [( 0, Blk.box [Leaf.dat celk.sl r.fst, Leaf.dat Kd.bool r.snd])] }
def b5_0 : p5_0.T → Tr (p5_0.T ⊕ (Bool × List Cell × Bool ⊕ List Cell × Bool)) := fun ⟨⟨x1, ⟨x2, ⟨x3, _⟩⟩⟩, ⟨⟨h0_0, ⟨h0_1, _⟩⟩, _⟩⟩ => B5_0 x1 x2 x3 h0_0 h0_1
theorem h5_0 (ls : Nat → VS → Option (Tr (Ex × VS))) (x : p5_0.T) : (evC (evI 2) (lc Tryd.f5 0) (Env.lend (M5 ls) 0) (unV (live5 3) (p5_0.V x))).map (decL 0 (live5 3) (live5 1003)) = (b5_0 x).map (encR p5_0.V X5_0) := by
  obtain ⟨⟨x1, ⟨x2, ⟨x3, _⟩⟩⟩, ⟨⟨h0_0, ⟨h0_1, _⟩⟩, _⟩⟩ := x; kernel_rfl
theorem c5_0 (x : p5_0.T) : canV 0 (live5 3) (unV (live5 3) (p5_0.V x)) = p5_0.V x := by
  obtain ⟨⟨x1, ⟨x2, ⟨x3, _⟩⟩⟩, ⟨⟨h0_0, ⟨h0_1, _⟩⟩, _⟩⟩ := x; kernel_rfl
theorem l5_0 {T : p5_0.T → Tr (Bool × List Cell × Bool ⊕ List Cell × Bool)} {ls : Nat → VS → Option (Tr (Ex × VS))} (hls : ∀ x, (Env.lend (M5 ls) 0).ls 3 x = p5_0.ls (fun a => (T a).map X5_0) x) (hS : ∀ x r, (T x).val = some r → Rounds b5_0 x r) : LoopOK (evI 2) (Env.lend (M5 ls) 0) (lc Tryd.f5 0) :=
  loopA 3 (live5 3) (live5 1003) p5_0 b5_0 X5_0 T (by kernel_rfl) rfl rfl hls (h5_0 ls) c5_0 hS
def T5 (x : p5_0.T) : Tr (Bool × List Cell × Bool ⊕ List Cell × Bool) :=
  .ite (decide ((x.1.2.1 : Int) = (List.length (α := Cell) x.1.1 : Int) ∧ (x.1.2.2.1 : Int) = 0) && U.okc x.1.1)
    (.ite (allN (fun i => U.cellR (List.getD (α := Cell) x.1.1 i U.dC)) (List.length (α := Cell) x.1.1) 0) (.ret (.inr (x.2.1.1, x.2.1.2.1))) (.ret (.inl (true, x.2.1.1, x.2.1.2.1)))) .fail
abbrev E5 : Env := M5 fun key x => bif Nat.beq key 3 then p5_0.ls (fun a => (T5 a).map X5_0) x else none
theorem L5 : LoopOK (evI 2) (E5.lend 0) (lc Tryd.f5 0) := by
  refine l5_0 (T := T5) (fun x => rfl) ?_
  rintro ⟨⟨l, n, i, z⟩, ⟨m, s, z1⟩, z2⟩ r h
  obtain ⟨h1, h2⟩ := pre_val h
  rw [Bool.and_eq_true] at h1
  obtain ⟨h1, hok⟩ := h1
  obtain ⟨e1, e2⟩ := of_decide_eq_true h1
  dsimp only at e1 e2 hok h2
  subst e1
  subst e2
  have hl := U.okc_len hok
  have := Rounds.all (B := b5_0) (N := l.length) (fun i => ((l, (l.length : Int), (i : Int), ()), (m, s, ()), ())) (fun i => U.cellR (l.getD i U.dC)) (.inl (true, m, s)) (.inr (m, s)) (fun i hi => ?_) ?_
  · cases ha : allN (fun i => U.cellR (l.getD i U.dC)) l.length 0 <;> simp only [ha, Tr.val, cond_true, cond_false] at h2 this <;> cases h2 <;> exact this
  · have h3 := U.okc_at hok hi
    simp only [b5_0, B5_0, Tr.val, inB_nat hi, rgetC, h3, show ((i : Int) < (l.length : Int)) by omega, decide_true, cond_true, wrap64_nat (show i ≤ 1048576 by omega)]
    cases U.cellR (l.getD i U.dC) <;> rfl
  · simp only [b5_0, B5_0, Tr.val, show ¬ ((l.length : Int) < (l.length : Int)) by omega, decide_false, cond_false]
def d5 (a1 : List Cell) (a2 : Bool) : Tr (Bool) :=
  let v1 : Int := ((↑(U.cutL a1).length : Int))
  let v2 : Int := ((↑(U.cutL a1).length : Int))
  let v3 : Int := ((↑(U.mend (U.cutL a1)).length : Int))
  Tr.ite (decide (v2 = v1 ∧ (0 : Int) = (0 : Int)) && U.okc (U.cutL a1))
    (Tr.ite (allN (fun (i : Nat) => U.cellR ((U.cutL a1).getD i U.dC)) (U.cutL a1).length (0 : Nat))
      (Tr.ite (decide ((U.cutL a1).length ≤ (1048576 : Nat)))
        (Tr.ite (U.okc (U.mend (U.cutL a1)))
          (Tr.ite (!(U.fitC (U.mend (U.cutL a1)) && decide (v3 = v2))) (Tr.ret false)
            (Tr.ite (decide ((U.mend (U.cutL a1)).length ≤ (1048576 : Nat)))
              (Tr.ite (decide ((U.mend (U.mend (U.cutL a1))).length ≤ (1048576 : Nat)))
                (Tr.ite (!U.eqL (U.mend (U.mend (U.cutL a1)), a2, ()) (U.mend (U.cutL a1), a2, ())) (Tr.ret false)
                  (Tr.ite false (Tr.ret false)
                    (Tr.ite (U.okc (U.cutL a1))
                      (Tr.ite (!(U.fitC (U.cutL a1) && decide (v1 = v2))) (Tr.ret true)
                        (Tr.ite (decide ((U.mend (U.cutL a1)).length ≤ (1048576 : Nat))) (Tr.ret (U.eqL (U.mend (U.cutL a1), a2, ()) (U.cutL a1, a2, ()))) Tr.fail))
                      Tr.fail)))
                Tr.fail)
              Tr.fail))
          Tr.fail)
        Tr.fail)
      (Tr.ret true))
    Tr.fail
def e5 (r : Bool) : FRes := { rs := Slot.av (AV.one (Leaf.dat Kd.bool r)), upd := [], new := [] }
@[reducible] def a5 : List AK := [AK.d link]
@[reducible] def b5 : List BK := []
theorem t5 (a1 : List Cell) (a2 : Bool) : evFn (E5) Tryd.f5 [PM.data Kd.bool] (akAV a5 ((a1, a2, ()), ())) (bkBs b5 ()) = (d5 a1 a2).map e5 := by kernel_rfl
def s5 (C : akT a5 → Bool) (G : akT a5 → Bool) : FSpec := aspec a5 b5 e5 (fun x _ => C x) (fun x _ => G x)
def s5' (G : akT a5 → Bool) : FSpec := aspec0 a5 b5 e5 (fun x _ => G x)
theorem k5 {C : akT a5 → Bool} {G : akT a5 → Bool} (hd : ∀ (a1 : List Cell) (a2 : Bool), C ((a1, a2, ()), ()) = true → (d5 a1 a2).val = some (G ((a1, a2, ()), ()))) (IO : ItOK Tryd.prog (E5) := by exact itOK_none rfl) (L : ∀ c, Tryd.f5.body = some c → LsOK (evI 2) ((E5).lend 0) c := by exact fun c _ => LsOK_none rfl c) : SpecOK Tryd.prog E0 5 (s5 C G) :=
  aspec_ok (ak := a5) (bl := b5) (e := e5) (c := fun x _ => C x) (g := fun x _ => G x) (E0 := E0) (E := E5) tab AG5 rfl rfl hm Tryd.func5 (by kernel_rfl) [PM.data Kd.bool] (fun X Y H => by obtain ⟨⟨a1, ⟨a2, _⟩⟩, _⟩ := X; exact val_of (t5 a1 a2) (hd a1 a2 H)) IO L
theorem k5' {G : akT a5 → Bool} (hd : ∀ (a1 : List Cell) (a2 : Bool), (d5 a1 a2).val = some (G ((a1, a2, ()), ()))) (IO : ItOK Tryd.prog (E5) := by exact itOK_none rfl) (L : ∀ c, Tryd.f5.body = some c → LsOK (evI 2) ((E5).lend 0) c := by exact fun c _ => LsOK_none rfl c) : SpecOK Tryd.prog E0 5 (s5' G) :=
  aspec0_ok (ak := a5) (bl := b5) (e := e5) (g := fun x _ => G x) (E0 := E0) (E := E5) tab AG5 rfl rfl hm Tryd.func5 (by kernel_rfl) [PM.data Kd.bool] (fun X Y => by obtain ⟨⟨a1, ⟨a2, _⟩⟩, _⟩ := X; exact val_of (t5 a1 a2) (hd a1 a2)) IO L
end Go.Proofs.YtmnbcnhpklejcaaDoor
namespace U
theorem okc_iff {l : List Cl} : okc l = true ↔ l.length ≤ 1048576 ∧ ∀ c ∈ l, c.1.size ≤ 1048576 := by
  unfold okc
  rw [Bool.and_eq_true, decide_eq_true_eq, List.all_eq_true]
  constructor
  · rintro ⟨a, b⟩; exact ⟨a, fun c hc => of_decide_eq_true (b c hc)⟩
  · rintro ⟨a, b⟩; exact ⟨a, fun c hc => decide_eq_true (b c hc)⟩
theorem mend_ok {l : List Cl} (h : okc l = true) : okc (mend l) = true := by
  rw [okc_iff] at *
  exact ⟨by rw [mend_len]; exact h.1, mend_mem (P := fun c => c.1.size ≤ 1048576) (fun c _ => Nat.zero_le _) l.length 0 l (by omega) h.2⟩
theorem fitC_iff {l : List Cl} : fitC l = true ↔ (∀ c ∈ l, cellR c = true) ∧ ∀ j, j < l.length → whole l j = true := by
  unfold fitC
  rw [all0]
  constructor
  · intro h
    refine ⟨fun c hc => ?_, fun j hj => ?_⟩
    · obtain ⟨i, hi, rfl⟩ := List.getElem_of_mem hc
      have := h i hi
      rw [Bool.and_eq_true, getD_el hi] at this
      exact this.1
    · have := h j hj
      rw [Bool.and_eq_true] at this
      exact this.2
  · rintro ⟨a, b⟩ j hj
    rw [Bool.and_eq_true, getD_el hj]
    exact ⟨a _ (List.getElem_mem hj), b j hj⟩
theorem mend_fit {l : List Cl} (h : ∀ c ∈ l, cellR c = true) : fitC (mend l) = true :=
  fitC_iff.2 ⟨mend_mem (P := fun c => cellR c = true) (fun _ h => blank_R h) l.length 0 l (by omega) h, mend_whole l⟩
theorem fit_mend {l : List Cl} (h : fitC l = true) : mend l = l := mend_id (fitC_iff.1 h).2
theorem allR_iff {l : List Cl} : allN (fun i => cellR (l.getD i dC)) l.length 0 = true ↔ ∀ c ∈ l, cellR c = true := by
  rw [all0]
  constructor
  · intro h c hc
    obtain ⟨i, hi, rfl⟩ := List.getElem_of_mem hc
    have := h i hi
    rwa [getD_el hi] at this
  · intro h j hj
    rw [getD_el hj]
    exact h _ (List.getElem_mem hj)
end U
namespace Go.Proofs.YtmnbcnhpklejcaaDoor
theorem law5 (a1 : List Cell) (a2 : Bool) : (d5 a1 a2).val = some true := by
  have k := U.cutL_ok a1
  dsimp only [d5]
  generalize U.cutL a1 = p at *
  have kl := U.okc_len k
  have km := U.mend_ok k
  have e1 := U.mend_len p
  have e2 := U.mend_mend p
  cases hR : allN (fun i => U.cellR (p.getD i U.dC)) p.length 0 with
  | false => simp only [Tr.val, hR, k, decide_true, and_self, Bool.and_self, cond_true, cond_false]
  | true =>
    have hf := U.mend_fit (U.allR_iff.1 hR)
    cases hp : U.fitC p with
    | false => simp only [Tr.val, hR, k, kl, km, e1, e2, hf, hp, U.eqL_refl, decide_true, and_self, Bool.and_self, Bool.not_true, Bool.false_and, Bool.not_false, cond_true, cond_false]
    | true =>
      have e3 := U.fit_mend hp
      simp only [Tr.val, hR, k, kl, e3, hp, U.eqL_refl, decide_true, and_self, Bool.and_self, Bool.not_true, Bool.not_false, cond_true, cond_false]
abbrev w5 : FSpec := s5' fun _ => true
theorem wk5 : SpecOK Tryd.prog E0 5 w5 := by
  refine k5' (fun a1 a2 => law5 a1 a2) (L := ls_ok (lcs := [lc Tryd.f5 0]) (rgs := []) (by kernel_rfl) (by kernel_rfl) L5 trivial)
end Go.Proofs.YtmnbcnhpklejcaaDoor
