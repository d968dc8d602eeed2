/- Part 4 of what the proof leans on: an evaluator of Go code over plain data, with its soundness; contracts of functions; laws of plain data. -/
import Derived.Test.YtmnbcnhpklejcaaDoorZq3
section
set_option linter.unusedVariables false
set_option linter.unusedSimpArgs false
set_option maxRecDepth 20000
set_option maxHeartbeats 4000000
open Go Go.Ev
namespace U
def ones (l : List Cl) : Bool := l.all fun c => decide (c.2.1 = 1)
end U
namespace Go.Proofs.YtmnbcnhpklejcaaDoor
open Go.RowKit
def live13 (key : Nat) : Lv :=
  bif Nat.beq key 24 then { ls := [10, 16, 121, 122] } else bif Nat.beq key 1024 then { ls := [6] } else
  bif Nat.beq key 7 then { ls := [0, 1, 2, 32, 33, 40, 41, 42] } else bif Nat.beq key 1007 then { ls := [0, 1, 2, 6, 32, 33] } else
  bif Nat.beq key 4 then { ls := [0, 1, 2, 32, 33] } else bif Nat.beq key 1004 then { ls := [0, 1, 2, 6] } else
  { ls := [] }
abbrev G13 : List (Nat × FSpec) := [(51, w51), (53, w53), (54, w54), (70, w70)]
theorem AG13 : AllFn Tryd.prog E0 G13 := .cons wk51 (.cons wk53 (.cons wk54 (.cons wk70 .nil)))
abbrev M13 (ls : Nat → VS → Option (Tr (Ex × VS))) : Env := (E0.withFns G13).loops live13 ls
@[reducible] def p13_0 : LP := { n := 135, sl := [.d (Kd.sl link), .d (.int .i64), .d (.int .i64), .d (.int .i64), .d (.int .i64)], bl := [] }
@[reducible] def p13_1 : LP := { n := 135, sl := [.d (Kd.sl link), .d (.int .i64), .d (.int .i64), .d (.int .i64), .d (.int .i64), .d (Kd.sl celk), .d (.int .i64), .d (.int .i64)], bl := [] }
def B13_1 (x0 : List Line) (x1 : Int) (x2 : Int) (x3 : Int) (x4 : Int) (x5 : List Cell) (x6 : Int) (x7 : Int) : Tr (p13_1.T ⊕ (List Line × Int × Int × Bool × Int × Int ⊕ List Line × Int × Int × Int × Int)) :=
 Tr.ite (decide (x7 < x6)) (Tr.ite (inB x7 (List.length x5)) (Tr.ite (!decide ((rget celk x5 x7).snd.fst = (1 : Int))) (Tr.ret (Sum.inr (Sum.inl (x0, x1, x2, true, x3, x4)))) (Tr.ret (Sum.inl ((x0, x1, x2, x3, x4, x5, x6, IntKind.wrap IntKind.i64 (x7 + (1 : Int)), ()), ())))) Tr.fail) (Tr.ret (Sum.inr (Sum.inr (x0, x1, x2, x3, x4))))
def X13_1 : (List Line × Int × Int × Bool × Int × Int ⊕ List Line × Int × Int × Int × Int) → Ex × VS
  | (.inl r) => Prod.mk Ex.ret { n := 135, v := [Slot.av (AV.one (Leaf.dat (Kd.sl link) r.fst)), Slot.av (AV.one (Leaf.dat (.int .i64) r.snd.fst)), Slot.av (AV.one (Leaf.dat (.int .i64) r.snd.snd.fst)), Slot.av (AV.one (Leaf.dat Kd.bool r.snd.snd.snd.fst)), Slot.av (AV.one (Leaf.dat (.int .i64) r.snd.snd.snd.snd.fst)), Slot.av (AV.one (Leaf.dat (.int .i64) r.snd.snd.snd.snd.snd))], h := [] }
  | (.inr r) => Prod.mk (Ex.exit ( 2)) { n := 135, v := [Slot.av (AV.one (Leaf.dat (Kd.sl link) r.fst)), Slot.av (AV.one (Leaf.dat (.int .i64) r.snd.fst)), Slot.av (AV.one (Leaf.dat (.int .i64) r.snd.snd.fst)), Slot.av (AV.one Leaf.undef), Slot.av (AV.one (Leaf.dat (.int .i64) r.snd.snd.snd.fst)), Slot.av (AV.one (Leaf.dat (.int .i64) r.snd.snd.snd.snd))], h := [] }
def b13_1 : p13_1.T → Tr (p13_1.T ⊕ (List Line × Int × Int × Bool × Int × Int ⊕ List Line × Int × Int × Int × Int)) := fun ⟨⟨x0, ⟨x1, ⟨x2, ⟨x3, ⟨x4, ⟨x5, ⟨x6, ⟨x7, _⟩⟩⟩⟩⟩⟩⟩⟩, _⟩ => B13_1 x0 x1 x2 x3 x4 x5 x6 x7
theorem h13_1 (ls : Nat → VS → Option (Tr (Ex × VS))) (x : p13_1.T) : (evC (evI 2) (lc Tryd.f13 1) (Env.lend (M13 ls) 0) (unV (live13 7) (p13_1.V x))).map (decL 0 (live13 7) (live13 1007)) = (b13_1 x).map (encR p13_1.V X13_1) := by
  obtain ⟨⟨x0, ⟨x1, ⟨x2, ⟨x3, ⟨x4, ⟨x5, ⟨x6, ⟨x7, _⟩⟩⟩⟩⟩⟩⟩⟩, _⟩ := x; kernel_rfl
theorem c13_1 (x : p13_1.T) : canV 0 (live13 7) (unV (live13 7) (p13_1.V x)) = p13_1.V x := by
  obtain ⟨⟨x0, ⟨x1, ⟨x2, ⟨x3, ⟨x4, ⟨x5, ⟨x6, ⟨x7, _⟩⟩⟩⟩⟩⟩⟩⟩, _⟩ := x; kernel_rfl
theorem l13_1 {T : p13_1.T → Tr (List Line × Int × Int × Bool × Int × Int ⊕ List Line × Int × Int × Int × Int)} {ls : Nat → VS → Option (Tr (Ex × VS))} (hls : ∀ x, (Env.lend (M13 ls) 0).ls 7 x = p13_1.ls (fun a => (T a).map X13_1) x) (hS : ∀ x r, (T x).val = some r → Rounds b13_1 x r) : LoopOK (evI 2) (Env.lend (M13 ls) 0) (lc Tryd.f13 1) :=
  loopA 7 (live13 7) (live13 1007) p13_1 b13_1 X13_1 T (by kernel_rfl) rfl rfl hls (h13_1 ls) c13_1 hS
def T13_1 (x : p13_1.T) : Tr (List Line × Int × Int × Bool × Int × Int ⊕ List Line × Int × Int × Int × Int) :=
  match x with
  | ⟨⟨x0, x1, x2, x3, x4, l, n, i, _⟩, _⟩ => .ite (decide ((n : Int) = (List.length (α := Cell) l : Int) ∧ (i : Int) = 0 ∧ List.length (α := Cell) l ≤ 1048576)) (.ite (U.ones l) (.ret (.inr (x0, x1, x2, x3, x4))) (.ret (.inl (x0, x1, x2, true, x3, x4)))) .fail
abbrev N13 (ls : Nat → VS → Option (Tr (Ex × VS))) : Env := M13 fun key x => bif Nat.beq key 7 then p13_1.ls (fun a => (T13_1 a).map X13_1) x else ls key x
theorem ones_allN (l : List U.Cl) : allN (fun i => decide ((l.getD i U.dC).2.1 = 1)) l.length 0 = U.ones l := allN_list (q := fun c : U.Cl => decide (c.2.1 = 1)) (d := U.dC)
theorem L13_1 {ls : Nat → VS → Option (Tr (Ex × VS))} : LoopOK (evI 2) ((N13 ls).lend 0) (lc Tryd.f13 1) := by
  refine l13_1 (T := T13_1) (fun x => rfl) ?_
  rintro ⟨⟨x0, x1, x2, x3, x4, l, n, i, z⟩, z1⟩ r hh
  obtain ⟨g1, g2⟩ := pre_val hh
  have g1 : (n : Int) = (l.length : Int) ∧ (i : Int) = 0 ∧ l.length ≤ 1048576 := of_decide_eq_true g1
  obtain ⟨rfl, rfl, e3⟩ := g1
  have := Rounds.all (B := b13_1) (N := l.length) (fun i => ((x0, x1, x2, x3, x4, l, (l.length : Int), (i : Int), ()), ())) (fun i => decide ((l.getD i U.dC).2.1 = 1)) (.inl (x0, x1, x2, true, x3, x4)) (.inr (x0, x1, x2, x3, x4)) (fun i hi => ?_) ?_
  · rw [ones_allN] at this
    have g2 : (Tr.ite (U.ones l) (.ret (.inr (x0, x1, x2, x3, x4))) (.ret (.inl (x0, x1, x2, true, x3, x4))) : Tr (List Line × Int × Int × Bool × Int × Int ⊕ List Line × Int × Int × Int × Int)).val = some r := g2
    revert this g2
    cases U.ones l <;> intro this g2 <;> cases g2 <;> exact this
  · have e : rget celk l (i : Int) = l.getD i U.dC := rgetC l i
    have c1 : decide ((i : Int) < (l.length : Int)) = true := decide_eq_true (by omega)
    simp only [b13_1, B13_1, Tr.val, e, c1, inB_nat hi, cond_true, wrap64_nat (show i ≤ 1048576 by omega)]
    cases decide ((l.getD i U.dC).2.1 = 1) <;> rfl
  · simp only [b13_1, B13_1, Tr.val, show ¬ ((l.length : Int) < (l.length : Int)) by omega, decide_false, cond_false]
def B13_0 (x0 : List Line) (x1 : Int) (x2 : Int) (x3 : Int) (x4 : Int) : Tr (p13_0.T ⊕ (List Line × Int × Int × Bool ⊕ List Line × Int × Int)) :=
 let v1 : Int := ((↑(List.length (rget link x0 x4).fst) : Int))
 let v2 : Int := ((↑(List.length (rget link x0 x4).fst) : Int))
 Tr.ite (decide (x4 < x3)) (Tr.ite (inB x4 (List.length x0)) (Tr.ite (decide (v2 = v1 ∧ (0 : Int) = (0 : Int) ∧ List.length (rget link x0 x4).fst ≤ (1048576 : Nat))) (Tr.ite (U.ones (rget link x0 x4).fst) (Tr.ret (Sum.inl ((x0, x1, x2, x3, IntKind.wrap IntKind.i64 (x4 + (1 : Int)), ()), ()))) (Tr.ret (Sum.inr (Sum.inl (x0, x1, x2, true))))) Tr.fail) Tr.fail) (Tr.ret (Sum.inr (Sum.inr (x0, x1, x2))))
def X13_0 : (List Line × Int × Int × Bool ⊕ List Line × Int × Int) → Ex × VS
  | (.inl r) => Prod.mk Ex.ret { n := 135, v := [Slot.av (AV.one (Leaf.dat (Kd.sl link) r.fst)), Slot.av (AV.one (Leaf.dat (.int .i64) r.snd.fst)), Slot.av (AV.one (Leaf.dat (.int .i64) r.snd.snd.fst)), Slot.av (AV.one (Leaf.dat Kd.bool r.snd.snd.snd))], h := [] }
  | (.inr r) => Prod.mk (Ex.exit ( 0)) { n := 135, v := [Slot.av (AV.one (Leaf.dat (Kd.sl link) r.fst)), Slot.av (AV.one (Leaf.dat (.int .i64) r.snd.fst)), Slot.av (AV.one (Leaf.dat (.int .i64) r.snd.snd)), Slot.av (AV.one Leaf.undef)], h := [] }
def b13_0 : p13_0.T → Tr (p13_0.T ⊕ (List Line × Int × Int × Bool ⊕ List Line × Int × Int)) := fun ⟨⟨x0, ⟨x1, ⟨x2, ⟨x3, ⟨x4, _⟩⟩⟩⟩⟩, _⟩ => B13_0 x0 x1 x2 x3 x4
theorem h13_0 (ls : Nat → VS → Option (Tr (Ex × VS))) (x : p13_0.T) : (evC (evI 2) (lc Tryd.f13 0) (Env.lend (N13 ls) 0) (unV (live13 4) (p13_0.V x))).map (decL 0 (live13 4) (live13 1004)) = (b13_0 x).map (encR p13_0.V X13_0) := by
  obtain ⟨⟨x0, ⟨x1, ⟨x2, ⟨x3, ⟨x4, _⟩⟩⟩⟩⟩, _⟩ := x; kernel_rfl
theorem c13_0 (x : p13_0.T) : canV 0 (live13 4) (unV (live13 4) (p13_0.V x)) = p13_0.V x := by
  obtain ⟨⟨x0, ⟨x1, ⟨x2, ⟨x3, ⟨x4, _⟩⟩⟩⟩⟩, _⟩ := x; kernel_rfl
theorem l13_0 {T : p13_0.T → Tr (List Line × Int × Int × Bool ⊕ List Line × Int × Int)} {ls : Nat → VS → Option (Tr (Ex × VS))} (hls : ∀ x, (Env.lend (N13 ls) 0).ls 4 x = p13_0.ls (fun a => (T a).map X13_0) x) (hS : ∀ x r, (T x).val = some r → Rounds b13_0 x r) : LoopOK (evI 2) (Env.lend (N13 ls) 0) (lc Tryd.f13 0) :=
  loopA 4 (live13 4) (live13 1004) p13_0 b13_0 X13_0 T (by kernel_rfl) rfl rfl hls (h13_0 ls) c13_0 hS
def T13_0 (x : p13_0.T) : Tr (List Line × Int × Int × Bool ⊕ List Line × Int × Int) :=
  match x with
  | ⟨⟨l, x1, x2, n, i, _⟩, _⟩ => .ite (decide ((n : Int) = (List.length (α := Line) l : Int) ∧ (i : Int) = 0) && U.okl l) (.ite (List.all (α := Line) l fun y => U.ones y.1) (.ret (.inr (l, x1, x2))) (.ret (.inl (l, x1, x2, true)))) .fail
abbrev O13 (ls : Nat → VS → Option (Tr (Ex × VS))) : Env := N13 fun key x => bif Nat.beq key 4 then p13_0.ls (fun a => (T13_0 a).map X13_0) x else ls key x
theorem L13_0 {ls : Nat → VS → Option (Tr (Ex × VS))} : LoopOK (evI 2) ((O13 ls).lend 0) (lc Tryd.f13 0) := by
  refine l13_0 (T := T13_0) (fun x => rfl) ?_
  rintro ⟨⟨l, x1, x2, n, i, z⟩, z1⟩ r hh
  obtain ⟨g1, g2⟩ := pre_val hh
  rw [Bool.and_eq_true] at g1
  obtain ⟨g1, gk⟩ := g1
  have g1 : (n : Int) = (l.length : Int) ∧ (i : Int) = 0 := of_decide_eq_true g1
  obtain ⟨rfl, rfl⟩ := g1
  have gk : U.okl l = true := gk
  have hl := U.okl_len gk
  have := Rounds.all (B := b13_0) (N := l.length) (fun i => ((l, x1, x2, (l.length : Int), (i : Int), ()), ())) (fun i => U.ones (l.getD i U.dL).1) (.inl (l, x1, x2, true)) (.inr (l, x1, x2)) (fun i hi => ?_) ?_
  · rw [allN_list (q := fun y : U.Ln => U.ones y.1) (d := U.dL)] at this
    have g2 : (Tr.ite (l.all fun y => U.ones y.1) (.ret (.inr (l, x1, x2))) (.ret (.inl (l, x1, x2, true))) : Tr (List Line × Int × Int × Bool ⊕ List Line × Int × Int)).val = some r := g2
    rcases Bool.eq_false_or_eq_true (List.all (α := Line) l fun y => U.ones y.1) with hq | hq
    · simp only [hq, cond_true, Tr.val] at this g2
      cases g2; exact this
    · simp only [hq, cond_false, Tr.val] at this g2
      cases g2; exact this
  · have e : rget link l (i : Int) = l.getD i U.dL := rgetL l i
    have c1 : decide ((i : Int) < (l.length : Int)) = true := decide_eq_true (by omega)
    have c2 := U.okc_len (U.okl_at gk hi)
    have c2 : (l.getD i U.dL).1.length ≤ 1048576 := c2
    simp only [b13_0, B13_0, Tr.val, e, c1, c2, inB_nat hi, and_self, decide_true, cond_true, wrap64_nat (show i ≤ 1048576 by omega)]
    cases U.ones (List.getD l i U.dL).1 <;> rfl
  · simp only [b13_0, B13_0, Tr.val, show ¬ ((l.length : Int) < (l.length : Int)) by omega, decide_false, cond_false]
@[reducible] def p13_2 : LP := { n := 135, sl := [.d (Kd.sl Kd.str), .d (Kd.sl Kd.str), .d (.int .i64), .d (.int .i64)], bl := [] }
def B13_2 (x0 : List ByteArray) (x1 : List ByteArray) (x2 : Int) (x3 : Int) : Tr (p13_2.T ⊕ (Unit ⊕ Unit)) :=
 Tr.ite (decide (x3 < x2)) (Tr.ite (inB x3 (List.length x0)) (Tr.ite (inB x3 (List.length x1)) (Tr.ite (!decide (rget Kd.str x0 x3 = rget Kd.str x1 x3)) (Tr.ret (Sum.inr (Sum.inl ()))) (Tr.ret (Sum.inl ((x0, x1, x2, IntKind.wrap IntKind.i64 (x3 + (1 : Int)), ()), ())))) Tr.fail) Tr.fail) (Tr.ret (Sum.inr (Sum.inr ())))
def X13_2 : (Unit ⊕ Unit) → Ex × VS
  | (.inl r) => Prod.mk Ex.ret { n := 135, v := [Slot.av (AV.one (Leaf.kb false))], h := [] }
  | (.inr r) => Prod.mk (Ex.exit ( 4)) { n := 135, v := [Slot.av (AV.one Leaf.undef)], h := [] }
def b13_2 : p13_2.T → Tr (p13_2.T ⊕ (Unit ⊕ Unit)) := fun ⟨⟨x0, ⟨x1, ⟨x2, ⟨x3, _⟩⟩⟩⟩, _⟩ => B13_2 x0 x1 x2 x3
theorem h13_2 (ls : Nat → VS → Option (Tr (Ex × VS))) (x : p13_2.T) : (evC (evI 2) (lc Tryd.f13 2) (Env.lend (O13 ls) 0) (unV (live13 24) (p13_2.V x))).map (decL 0 (live13 24) (live13 1024)) = (b13_2 x).map (encR p13_2.V X13_2) := by
  obtain ⟨⟨x0, ⟨x1, ⟨x2, ⟨x3, _⟩⟩⟩⟩, _⟩ := x; kernel_rfl
theorem c13_2 (x : p13_2.T) : canV 0 (live13 24) (unV (live13 24) (p13_2.V x)) = p13_2.V x := by
  obtain ⟨⟨x0, ⟨x1, ⟨x2, ⟨x3, _⟩⟩⟩⟩, _⟩ := x; kernel_rfl
theorem l13_2 {T : p13_2.T → Tr (Unit ⊕ Unit)} {ls : Nat → VS → Option (Tr (Ex × VS))} (hls : ∀ x, (Env.lend (O13 ls) 0).ls 24 x = p13_2.ls (fun a => (T a).map X13_2) x) (hS : ∀ x r, (T x).val = some r → Rounds b13_2 x r) : LoopOK (evI 2) (Env.lend (O13 ls) 0) (lc Tryd.f13 2) :=
  loopA 24 (live13 24) (live13 1024) p13_2 b13_2 X13_2 T (by kernel_rfl) rfl rfl hls (h13_2 ls) c13_2 hS
def T13_2 (x : p13_2.T) : Tr (Unit ⊕ Unit) :=
  match x with
  | ⟨⟨s, t, n, i, _⟩, _⟩ => .ite (decide ((n : Int) = (List.length (α := ByteArray) s : Int) ∧ (i : Int) = 0 ∧ List.length (α := ByteArray) s ≤ 1048576) && Kd.eqb (.sl .str) s t) (.ret (.inr ())) .fail
abbrev E13 : Env := O13 fun key x => bif Nat.beq key 24 then p13_2.ls (fun a => (T13_2 a).map X13_2) x else none
theorem L13_2 : LoopOK (evI 2) (E13.lend 0) (lc Tryd.f13 2) := by
  refine l13_2 (T := T13_2) (fun x => rfl) ?_
  rintro ⟨⟨s, t, n, i, z⟩, z1⟩ r hh
  obtain ⟨g1, g2⟩ := pre_val hh
  rw [Bool.and_eq_true] at g1
  obtain ⟨g1, gk⟩ := g1
  have g1 : (n : Int) = (s.length : Int) ∧ (i : Int) = 0 ∧ s.length ≤ 1048576 := of_decide_eq_true g1
  obtain ⟨rfl, rfl, e3⟩ := g1
  have gk := eqb_iff gk
  subst gk
  cases g2
  have := Rounds.all (B := b13_2) (N := s.length) (fun i => ((s, s, (s.length : Int), (i : Int), ()), ())) (fun i => true) (.inl ()) (.inr ()) (fun i hi => ?_) ?_
  · have e : allN (fun _ => true) s.length 0 = true := allN_iff.2 fun _ _ _ => rfl
    rw [e] at this
    exact this
  · have c1 : decide ((i : Int) < (s.length : Int)) = true := decide_eq_true (by omega)
    simp only [b13_2, B13_2, Tr.val, c1, inB_nat hi, decide_true, Bool.not_true, cond_true, cond_false, wrap64_nat (show i ≤ 1048576 by omega)]
  · simp only [b13_2, B13_2, Tr.val, show ¬ ((s.length : Int) < (s.length : Int)) by omega, decide_false, cond_false]
def d13 (a : List Line) (b : Int) (c : Int) : Tr (Bool) :=
 let v1 : List U.Ln := (U.few a (30 : Nat))
 let v2 : Bool := (U.okl v1)
 let v3 : Bool := (U.may v1)
 let v4 : List (List U.Cl) := (U.joinL v1 [])
 let v5 : Int := ((↑(List.length v1) : Int))
 let v6 : Int := ((↑(List.length v1) : Int))
 let v7 : Bool := (decide (U.cells v1 ≤ (1048576 : Nat)))
 let v8 : Int := (IntKind.wrap IntKind.i64 ((1 : Int) + Int.tmod (IntKind.wrap IntKind.i64 (Int.tmod b (20 : Int) + (20 : Int))) (20 : Int)))
 let v9 : Int := (IntKind.wrap IntKind.i64 ((1 : Int) + Int.tmod (IntKind.wrap IntKind.i64 (Int.tmod c (20 : Int) + (20 : Int))) (20 : Int)))
 let v10 : List ByteArray × Int := (bif v3 then (List.map (fun (l : List Cell) => strOf (U.sayR l)) v4, (0 : Int)) else ([], (1 : Int)))
 let v11 : Int := (v10.snd)
 let v12 : List ByteArray := (v10.fst)
 let v13 : Int := ((↑(List.length v12) : Int))
 let v14 : Int := ((↑(List.length v12) : Int))
 let v15 : Bool := (decide (v11 = (0 : Int)))
 let v16 : List Line × Int := (bif v3 && (decide ((1 : Int) ≤ v8) && decide (v8 ≤ (80 : Int))) then (U.flowL v1 (Int.toNat v8), (0 : Int)) else ([], (1 : Int)))
 let v17 : List Line := (v16.fst)
 let v18 : Int := (v16.snd)
 let v19 : Int := ((↑(List.length v17) : Int))
 let v20 : List Line × Int := (bif U.may v17 && (decide ((1 : Int) ≤ v9) && decide (v9 ≤ (80 : Int))) then (U.flowL v17 (Int.toNat v9), (0 : Int)) else ([], (1 : Int)))
 let v21 : Int := (v20.snd)
 let v22 : List Line := (v20.fst)
 let v23 : Bool := (U.may v22)
 let v24 : List (List U.Cl) := (U.joinL v22 [])
 let v25 : Int := ((↑(List.length v22) : Int))
 let v26 : Bool := (decide (v21 = (0 : Int)))
 let v27 : List ByteArray × Int := (bif v23 then (List.map (fun (l : List Cell) => strOf (U.sayR l)) v24, (0 : Int)) else ([], (1 : Int)))
 let v28 : Int := (v27.snd)
 let v29 : List ByteArray := (v27.fst)
 let v30 : Int := ((↑(List.length v29) : Int))
 Tr.ite true (Tr.ite true (Tr.ite true (Tr.ite true (Tr.ite (decide (v6 = v5 ∧ (0 : Int) = (0 : Int)) && v2) (Tr.ite (List.all v1 fun (y : Line) => U.ones y.fst) (Tr.ite (v2 && (v7 && (!v3 || decide (List.length v4 ≤ (1048576 : Nat)) && List.all v4 U.okR))) (Tr.ite (v2 && v7) (Tr.ite (!v15) (Tr.ite true (Tr.ite v15 (Tr.ret true) (Tr.ret (decide (v11 = v18)))) (Tr.ret false)) (Tr.ite (!decide (v18 = (0 : Int))) (Tr.ite true (Tr.ite v15 (Tr.ret true) (Tr.ret (decide (v11 = v18)))) (Tr.ret false)) (Tr.ite (decide ((200 : Int) < v19)) (Tr.ite true (Tr.ite v15 (Tr.ret true) (Tr.ret (decide (v11 = v18)))) (Tr.ret false)) (Tr.ite (U.okl v17 && decide (U.cells v17 ≤ (1048576 : Nat))) (Tr.ite (!v26) (Tr.ite true (Tr.ret v26) (Tr.ret false)) (Tr.ite (decide ((200 : Int) < v25)) (Tr.ite true (Tr.ret v26) (Tr.ret false)) (Tr.ite (U.okl v22 && (decide (U.cells v22 ≤ (1048576 : Nat)) && (!v23 || decide (List.length v24 ≤ (1048576 : Nat)) && List.all v24 U.okR))) (Tr.ite (!decide (v28 = (0 : Int))) (Tr.ret false) (Tr.ite (!decide (v14 = v30)) (Tr.ret false) (Tr.ite false (Tr.ret false) (Tr.ite (decide (v14 = v13 ∧ (0 : Int) = (0 : Int) ∧ List.length v12 ≤ (1048576 : Nat)) && Kd.eqb (Kd.sl Kd.str) v12 v29) (Tr.ret true) Tr.fail)))) Tr.fail))) Tr.fail)))) Tr.fail) Tr.fail) (Tr.ret true)) Tr.fail) Tr.fail) Tr.fail) Tr.fail) Tr.fail
def e13 (r : Bool) : FRes := { rs := Slot.av (AV.one (Leaf.dat Kd.bool r)), upd := [], new := [] }
@[reducible] def a13 : List AK := [AK.d (Kd.sl link), AK.d (.int .i64), AK.d (.int .i64)]
@[reducible] def b13 : List BK := []
theorem t13 (a : List Line) (b : Int) (c : Int) : evFn (E13) Tryd.f13 [PM.data Kd.bool] (akAV a13 (a, b, c, ())) (bkBs b13 ()) = (d13 a b c).map e13 := by kernel_rfl
def s13' (G : akT a13 → Bool) : FSpec := aspec0 a13 b13 e13 (fun x _ => G x)
theorem k13' {G : akT a13 → Bool} (hd : ∀ (a : List Line) (b : Int) (c : Int), (d13 a b c).val = some (G (a, b, c, ()))) (IO : ItOK Tryd.prog (E13) := by exact itOK_none rfl) (L : ∀ c, Tryd.f13.body = some c → LsOK (evI 2) ((E13).lend 0) c := by exact fun c _ => LsOK_none rfl c) : SpecOK Tryd.prog E0 13 (s13' G) :=
  aspec0_ok (ak := a13) (bl := b13) (e := e13) (g := fun x _ => G x) (E0 := E0) (E := E13) tab AG13 rfl rfl hm Tryd.func13 (by kernel_rfl) [PM.data Kd.bool] (fun X Y => by obtain ⟨a, ⟨b, ⟨c, _⟩⟩⟩ := X; exact val_of (t13 a b c) (hd a b c)) IO L
end Go.Proofs.YtmnbcnhpklejcaaDoor
namespace U
open Go.Proofs.YtmnbcnhpklejcaaDoor
theorem trim_trim (l : List Cl) : trimR (trimR l) = trimR l := by
  refine Go.Ev.snocRec (p := fun l => trimR (trimR l) = trimR l) (by simp [trimR]) (fun l a ih => ?_) l
  rw [trimR_snoc]
  cases hb : isNone a with
  | true => exact ih
  | false => rw [cond_false, trimR_snoc, hb]; rfl
theorem isNone_none : isNone noneC = true := by decide
theorem trim_none (l : List Cl) : ∀ k, trimR (l ++ List.replicate k noneC) = trimR l
  | 0 => by simp
  | k + 1 => by
    rw [List.replicate_succ', ← List.append_assoc, trimR_snoc, isNone_none, cond_true]
    exact trim_none l k
theorem joinL_soft (y : Ln) (rest : List Ln) (hy : y.2.1 = false) : ∀ (out : List Ln) (h : List Cl), (∀ x ∈ out, x.2.1 = true) → joinL (out ++ y :: rest) h = trimR (h ++ out.flatMap (fun x => x.1) ++ y.1) :: joinL rest []
  | [], h, _ => by
    rw [List.nil_append]
    show (bif !y.2.1 || decide (rest.length = 0) then trimR (h ++ y.1) :: joinL rest [] else joinL rest (h ++ y.1)) = _
    rw [hy]
    simp
  | x :: out, h, hs => by
    have hx := hs x (by simp)
    rw [List.cons_append]
    show (bif !x.2.1 || decide ((out ++ y :: rest).length = 0) then trimR (h ++ x.1) :: joinL (out ++ y :: rest) [] else joinL (out ++ y :: rest) (h ++ x.1)) = _
    have e : decide ((out ++ y :: rest).length = 0) = false := decide_eq_false (by simp)
    rw [hx, e]
    have := joinL_soft y rest hy out (h ++ x.1) fun z hz => hs z (by simp [hz])
    simp only [Bool.not_true, Bool.or_self, cond_false]
    rw [this, List.flatMap_cons]
    simp [List.append_assoc]
theorem ones_cons {c : Cl} {l : List Cl} (h : ones (c :: l) = true) : c.2.1 = 1 ∧ ones l = true := by
  unfold ones at h ⊢
  rw [List.all_cons, Bool.and_eq_true] at h
  exact ⟨of_decide_eq_true h.1, h.2⟩
theorem pcs_ones : ∀ (k : Nat) (l : List Cl), l.length ≤ k → ones l = true → pcs k l = l.map fun c => [c]
  | k, [], _, _ => by rw [pcs_nil]; rfl
  | 0, c :: l, h, _ => by simp at h
  | k + 1, c :: l, h, ho => by
    obtain ⟨h1, h2⟩ := ones_cons ho
    rw [pcs_one h1, pcs_ones k l (by simpa using h) h2]
    rfl
theorem fold_ones (n : Nat) (hn : 1 ≤ n) : ∀ (l : List Cl) (s : List Ln × List Cl), s.2.length ≤ n → (∀ y ∈ s.1, y.2.1 = true) →
    (((l.map fun c => [c]).foldl (stepP n) s).1.flatMap (fun x => x.1) ++ ((l.map fun c => [c]).foldl (stepP n) s).2 = s.1.flatMap (fun x => x.1) ++ s.2 ++ l) ∧ (∀ y ∈ ((l.map fun c => [c]).foldl (stepP n) s).1, y.2.1 = true)
  | [], s, _, h => ⟨by simp, h⟩
  | c :: l, s, hs, h => by
    rw [List.map_cons, List.foldl_cons]
    by_cases p : n < s.2.length + 1
    · have e : stepP n s [c] = (s.1 ++ [(fillL s.2 n, true, ())], [c]) := by
        unfold stepP
        rw [decide_eq_false (show ¬ n < [c].length by simp; omega), decide_eq_true (show n < s.2.length + [c].length by simpa using p)]
        rfl
      have e2 : fillL s.2 n = s.2 := by unfold fillL; rw [show n - s.2.length = 0 by omega]; simp
      rw [e, e2]
      obtain ⟨h1, h2⟩ := fold_ones n hn l (s.1 ++ [(s.2, true, ())], [c]) (by simp; omega) fun y hy => by
        rcases List.mem_append.1 hy with hy | hy
        · exact h y hy
        · rw [List.mem_singleton] at hy; subst hy; rfl
      refine ⟨?_, h2⟩
      rw [h1, List.flatMap_append]
      simp
    · have e : stepP n s [c] = (s.1, s.2 ++ [c]) := by
        unfold stepP
        rw [decide_eq_false (show ¬ n < [c].length by simp; omega), decide_eq_false (show ¬ n < s.2.length + [c].length by simpa using p)]
        rfl
      rw [e]
      obtain ⟨h1, h2⟩ := fold_ones n hn l (s.1, s.2 ++ [c]) (by simp; omega) h
      refine ⟨?_, h2⟩
      rw [h1]
      simp
theorem join_fold {n : Nat} (hn : 1 ≤ n) {r : List Cl} (ho : ones r = true) (ht : trimR r = r) (rest : List Ln) : joinL (foldL n r ++ rest) [] = r :: joinL rest [] := by
  have hp := pcs_ones r.length r (Nat.le_refl _) ho
  obtain ⟨h1, h2⟩ := fold_ones n hn r ([], []) (by simp) (by simp)
  unfold foldL
  rw [hp, List.append_assoc, List.singleton_append, joinL_soft _ rest rfl _ _ h2]
  congr 1
  unfold fillL
  rw [List.nil_append, ← List.append_assoc, h1, List.flatMap_nil, List.nil_append, List.nil_append, trim_none]
  exact ht
theorem join_flat {n : Nat} (hn : 1 ≤ n) : ∀ rows : List (List Cl), (∀ r ∈ rows, ones r = true ∧ trimR r = r) → joinL (rows.flatMap (foldL n)) [] = rows
  | [], _ => rfl
  | r :: rows, h => by
    obtain ⟨h1, h2⟩ := h r (by simp)
    rw [List.flatMap_cons, join_fold hn h1 h2, join_flat hn rows fun x hx => h x (by simp [hx])]
theorem joinL_mem : ∀ (l : List Ln) (h : List Cl), ∀ r ∈ joinL l h, trimR r = r ∧ ∀ c ∈ r, c ∈ h ∨ ∃ y ∈ l, c ∈ y.1
  | [], h, r, hr => by simp [joinL] at hr
  | y :: l, h, r, hr => by
    have hr : r ∈ (bif !y.2.1 || decide (l.length = 0) then trimR (h ++ y.1) :: joinL l [] else joinL l (h ++ y.1)) := hr
    cases hc : (!y.2.1 || decide (l.length = 0)) with
    | true =>
      rw [hc, cond_true] at hr
      rcases List.mem_cons.1 hr with rfl | hr
      · refine ⟨trim_trim _, fun c hcm => ?_⟩
        rcases List.mem_append.1 (mem_trim hcm) with h1 | h1
        · exact .inl h1
        · exact .inr ⟨y, by simp, h1⟩
      · obtain ⟨h1, h2⟩ := joinL_mem l [] r hr
        refine ⟨h1, fun c hcm => ?_⟩
        rcases h2 c hcm with h3 | ⟨z, hz, h3⟩
        · simp at h3
        · exact .inr ⟨z, by simp [hz], h3⟩
    | false =>
      rw [hc, cond_false] at hr
      obtain ⟨h1, h2⟩ := joinL_mem l (h ++ y.1) r hr
      refine ⟨h1, fun c hcm => ?_⟩
      rcases h2 c hcm with h3 | ⟨z, hz, h3⟩
      · rcases List.mem_append.1 h3 with h4 | h4
        · exact .inl h4
        · exact .inr ⟨y, by simp, h4⟩
      · exact .inr ⟨z, by simp [hz], h3⟩
theorem step_mem (n : Nat) : ∀ (ps : List (List Cl)) (s : List Ln × List Cl) (Q : Cl → Prop), Q noneC → (∀ p ∈ ps, ∀ c ∈ p, Q c) → (∀ y ∈ s.1, ∀ c ∈ y.1, Q c) → (∀ c ∈ s.2, Q c) →
    (∀ y ∈ (ps.foldl (stepP n) s).1, ∀ c ∈ y.1, Q c) ∧ ∀ c ∈ (ps.foldl (stepP n) s).2, Q c
  | [], s, Q, _, _, h1, h2 => ⟨h1, h2⟩
  | p :: ps, s, Q, hq, hp, h1, h2 => by
    rw [List.foldl_cons]
    have hp1 := hp p (by simp)
    refine step_mem n ps (stepP n s p) Q hq (fun z hz => hp z (by simp [hz])) ?_ ?_
    · intro y hy c hc
      unfold stepP at hy
      by_cases p1 : n < p.length
      · rw [decide_eq_true p1] at hy; exact h1 y hy c hc
      · by_cases p2 : n < s.2.length + p.length
        · rw [decide_eq_false p1, decide_eq_true p2] at hy
          rcases List.mem_append.1 hy with hy | hy
          · exact h1 y hy c hc
          · rw [List.mem_singleton] at hy
            subst hy
            have hc : c ∈ s.2 ++ List.replicate (n - s.2.length) noneC := hc
            rcases List.mem_append.1 hc with hc | hc
            · exact h2 c hc
            · rw [(List.mem_replicate.1 hc).2]; exact hq
        · rw [decide_eq_false p1, decide_eq_false p2] at hy; exact h1 y hy c hc
    · intro c hc
      unfold stepP at hc
      by_cases p1 : n < p.length
      · rw [decide_eq_true p1] at hc; exact h2 c hc
      · by_cases p2 : n < s.2.length + p.length
        · rw [decide_eq_false p1, decide_eq_true p2] at hc; exact hp1 c hc
        · rw [decide_eq_false p1, decide_eq_false p2] at hc
          rcases List.mem_append.1 hc with hc | hc
          · exact h2 c hc
          · exact hp1 c hc
theorem mem_pcs : ∀ (k : Nat) (l : List Cl), ∀ p ∈ pcs k l, ∀ c ∈ p, c ∈ l
  | 0, l, p, hp => by simp [pcs] at hp
  | k + 1, [], p, hp => by simp [pcs] at hp
  | k + 1, d :: l, p, hp => by
    have hp : p ∈ (d :: l).take (wd d) :: pcs k ((d :: l).drop (wd d)) := hp
    intro c hc
    rcases List.mem_cons.1 hp with rfl | hp
    · exact List.mem_of_mem_take hc
    · exact List.mem_of_mem_drop (mem_pcs k _ p hp c hc)
theorem fold_mem (n : Nat) (l : List Cl) (Q : Cl → Prop) (hq : Q noneC) (h : ∀ c ∈ l, Q c) : ∀ y ∈ foldL n l, ∀ c ∈ y.1, Q c := by
  obtain ⟨h1, h2⟩ := step_mem n (pcs l.length l) ([], []) Q hq (fun p hp c hc => h c (mem_pcs _ _ p hp c hc)) (by simp) (by simp)
  intro y hy c hc
  unfold foldL at hy
  rcases List.mem_append.1 hy with hy | hy
  · exact h1 y hy c hc
  · rw [List.mem_singleton] at hy
    subst hy
    have hc : c ∈ ((pcs l.length l).foldl (stepP n) ([], [])).2 ++ List.replicate (n - ((pcs l.length l).foldl (stepP n) ([], [])).2.length) noneC := hc
    rcases List.mem_append.1 hc with hc | hc
    · exact h2 c hc
    · rw [(List.mem_replicate.1 hc).2]; exact hq
def One (c : Cl) : Prop := c.2.1 = 1 ∧ cellR c = true ∧ c.1.size ≤ 1048576
theorem One.none : One noneC := ⟨rfl, by decide, by decide⟩
theorem ones_fit {l : List Cl} (h : ∀ c ∈ l, One c) : fitC l = true := by
  unfold fitC
  refine allN_iff.2 fun i _ hi => ?_
  have hi : i < l.length := by omega
  have e : l.getD i dC = l[i] := getD_el hi
  have h1 := h _ (List.getElem_mem hi)
  rw [Bool.and_eq_true]
  refine ⟨by rw [e]; exact h1.2.1, ?_⟩
  unfold whole cw
  rw [e, h1.1]
  rfl
theorem cells_lines {n : Nat} : ∀ {l : List Ln}, (∀ y ∈ l, y.1.length = n) → cells l = n * l.length
  | [], _ => rfl
  | y :: l, h => by
    show y.1.length + cells l = n * (l.length + 1)
    rw [h y (by simp), cells_lines (l := l) fun z hz => h z (by simp [hz]), Nat.mul_add]
    omega
theorem flow_ones {l : List Ln} (h : ∀ y ∈ l, ∀ c ∈ y.1, One c) {n : Nat} (h1 : 1 ≤ n) (h2 : n ≤ 20) (hl : l.length ≤ 1000) (hc : cells l ≤ 100000) (hj : (joinL l []).length ≤ l.length) :
    (∀ y ∈ flowL l n, ∀ c ∈ y.1, One c) ∧ okl (flowL l n) = true ∧ cells (flowL l n) = n * (flowL l n).length ∧ (flowL l n).length ≤ cells l + l.length ∧ mayL (flowL l n) = true ∧ joinL (flowL l n) [] = joinL l [] := by
  have hr : ∀ r ∈ joinL l [], trimR r = r ∧ ∀ c ∈ r, One c := fun r hr => by
    obtain ⟨g1, g2⟩ := joinL_mem l [] r hr
    refine ⟨g1, fun c hcm => ?_⟩
    rcases g2 c hcm with g | ⟨y, hy, g⟩
    · simp at g
    · exact h y hy c g
  have ho : ∀ y ∈ flowL l n, ∀ c ∈ y.1, One c := fun y hy => by
    obtain ⟨r, hrm, hy⟩ := List.mem_flatMap.1 hy
    exact fold_mem n r One One.none (hr r hrm).2 y hy
  have hlen := flowL_lines n l
  have hsz := flowL_len n l hj
  refine ⟨ho, ?_, cells_lines hlen, hsz, ?_, ?_⟩
  · unfold okl
    rw [Bool.and_eq_true]
    refine ⟨decide_eq_true (by omega), List.all_eq_true.2 fun y hy => ?_⟩
    unfold okc
    rw [Bool.and_eq_true]
    exact ⟨decide_eq_true (by rw [hlen y hy]; omega), List.all_eq_true.2 fun c hcm => decide_eq_true (ho y hy c hcm).2.2⟩
  · rw [may_evens]
    unfold evens
    rw [Bool.not_eq_true', List.any_eq_false]
    intro y hy
    have hm : mayR y = true := by
      unfold mayR
      have e := hlen y hy
      have d1 : ¬ ((y.1.length : Int) < 1) := by omega
      have d2 : ¬ ((80 : Int) < (y.1.length : Int)) := by omega
      rw [ones_fit (ho y hy), decide_eq_false d1, decide_eq_false d2]
      rfl
    rw [mayR_odd] at hm
    simpa using hm
  · unfold flowL
    refine join_flat h1 _ fun r hrm => ⟨?_, (hr r hrm).1⟩
    unfold ones
    exact List.all_eq_true.2 fun c hcm => decide_eq_true ((hr r hrm).2 c hcm).1
end U
namespace Go.Proofs.YtmnbcnhpklejcaaDoor
theorem mod20 (b : Int) : ∃ n : Nat, IntKind.wrap IntKind.i64 ((1 : Int) + Int.tmod (IntKind.wrap IntKind.i64 (Int.tmod b (20 : Int) + (20 : Int))) (20 : Int)) = (n : Int) ∧ 1 ≤ n ∧ n ≤ 20 := by
  have h1 := Int.tmod_lt_of_pos b (show (0 : Int) < 20 by decide)
  have h2 : -20 < Int.tmod b 20 := by
    rcases Int.le_total 0 b with h | h
    · have := Int.tmod_nonneg (a := b) 20 h; omega
    · have h1 := Int.neg_tmod (-b) 20
      have h2 := Int.tmod_lt_of_pos (-b) (show (0 : Int) < 20 by decide)
      rw [Int.neg_neg] at h1; omega
  generalize Int.tmod b 20 = m at *
  rw [Go.Ev.w64 (n := m + 20) (by omega) (by omega)]
  have h3 := Int.tmod_lt_of_pos (m + 20) (show (0 : Int) < 20 by decide)
  have h4 := Int.tmod_nonneg (a := m + 20) 20 (by omega)
  generalize Int.tmod (m + 20) 20 = q at *
  rw [Go.Ev.w64 (by omega) (by omega)]
  exact ⟨(1 + q).toNat, by omega, by omega, by omega⟩
theorem law13 (a : List Line) (b c : Int) : (d13 a b c).val = some true := by
  have k1 := U.few_ok a (n := 30) (by omega)
  have k2' := U.cells_few a 30
  have k2 : decide (U.cells (U.few a 30) ≤ 1048576) = true := decide_eq_true (by omega)
  have k4 := U.few_len a 30
  obtain ⟨n, hn, n1, n2⟩ := mod20 b
  obtain ⟨m, hm, m1, m2⟩ := mod20 c
  simp only [d13, Tr.val, k1, k2, hn, hm, Bool.and_self, Bool.true_and, and_self, decide_true, cond_true, Int.toNat_natCast]
  generalize U.few a 30 = l at *
  have c1 : decide ((1 : Int) ≤ (n : Int)) = true := decide_eq_true (by omega)
  have c2 : decide ((n : Int) ≤ 80) = true := decide_eq_true (by omega)
  have c3 : decide ((1 : Int) ≤ (m : Int)) = true := decide_eq_true (by omega)
  have c4 : decide ((m : Int) ≤ 80) = true := decide_eq_true (by omega)
  rw [c1, c2, c3, c4]
  rcases Bool.eq_false_or_eq_true (List.all (α := Line) l fun y => U.ones y.1) with hq | hq
  · simp only [hq, cond_true]
    cases hmay : U.may l with
    | false => simp
    | true =>
      have hmay' := hmay
      rw [U.may_mayL, Bool.and_eq_true] at hmay'
      have hg := U.mayL_fit hmay'.1 k1
      obtain ⟨j1, j2⟩ := U.joinL_good l [] hg .nil
      have okR : ∀ {l : List U.Ln}, U.okl l = true → U.mayL l = true → U.cells l ≤ 1048576 → ((U.joinL l []).all U.okR) = true := fun {l} hk hm hc => List.all_eq_true.2 fun r hr => by
        obtain ⟨g1, g2⟩ := (U.joinL_good l [] (U.mayL_fit hm hk) .nil).1 r hr
        exact g1.okR (by simp only [List.length_nil] at g2; omega)
      have a2 := okR k1 hmay'.1 (by omega)
      have a1 : decide ((U.joinL l []).length ≤ 1048576) = true := decide_eq_true (by omega)
      have hone : ∀ y ∈ l, ∀ c ∈ y.1, U.One c := fun y hy c hcm => by
        have h1 : U.ones y.1 = true := List.all_eq_true.1 hq y hy
        unfold U.ones at h1
        have h2 := of_decide_eq_true (List.all_eq_true.1 h1 c hcm)
        exact ⟨h2, (hg y hy).2 c hcm⟩
      obtain ⟨A1, A2, A3, A4, A5, A6⟩ := U.flow_ones hone n1 n2 (by omega) (by omega) j2
      simp only [a1, a2, Bool.not_true, Bool.or_self, Bool.and_self, Bool.false_or, Bool.true_and, cond_true, cond_false, decide_true]
      generalize hA : U.flowL l n = A at *
      by_cases p1 : (200 : Int) < (A.length : Int)
      · simp only [p1, decide_true, cond_true]
      · have p1' : A.length ≤ 200 := by omega
        have ac : U.cells A ≤ 4000 := by
          rw [A3]
          calc n * A.length ≤ 20 * 200 := Nat.mul_le_mul n2 p1'
            _ = 4000 := rfl
        have mayA : U.may A = true := by rw [U.may_mayL, A5]; exact decide_eq_true (by omega)
        have jA : (U.joinL A []).length ≤ A.length := (U.joinL_good A [] (U.mayL_fit A5 A2) .nil).2
        obtain ⟨B1, B2, B3, B4, B5, B6⟩ := U.flow_ones A1 m1 m2 (by omega) (by omega) jA
        have e1 : decide (U.cells A ≤ 1048576) = true := decide_eq_true (by omega)
        simp only [p1, A2, e1, mayA, Bool.and_self, decide_false, decide_true, Bool.not_true, cond_true, cond_false]
        generalize hB : U.flowL A m = B at *
        by_cases p2 : (200 : Int) < (B.length : Int)
        · simp only [p2, decide_true, cond_true]
        · have p2' : B.length ≤ 200 := by omega
          have bc : U.cells B ≤ 4000 := by
            rw [B3]
            calc m * B.length ≤ 20 * 200 := Nat.mul_le_mul m2 p2'
              _ = 4000 := rfl
          have mayB : U.may B = true := by rw [U.may_mayL, B5]; exact decide_eq_true (by omega)
          have e2 : decide (U.cells B ≤ 1048576) = true := decide_eq_true (by omega)
          have e3 := okR B2 B5 (by omega)
          have e4 : (U.joinL B []) = U.joinL l [] := B6.trans A6
          rw [e4] at e3
          have e5 : (U.joinL l []).length ≤ 1048576 := by omega
          simp only [p2, B2, e2, e4, a1, a2, mayB, e5, List.length_map, eqb_self, Bool.and_self, Bool.not_true, Bool.false_or, Bool.true_and, and_self, decide_false, decide_true, cond_true, cond_false]
  · simp only [hq, cond_false]
abbrev w13 : FSpec := s13' fun _ => true
theorem wk13 : SpecOK Tryd.prog E0 13 w13 := k13' (fun a b c => law13 a b c) (L := ls_ok (lcs := [lc Tryd.f13 0, lc Tryd.f13 1, lc Tryd.f13 2]) (rgs := []) (by kernel_rfl) (by kernel_rfl) ⟨L13_0, L13_1, L13_2⟩ trivial)
end Go.Proofs.YtmnbcnhpklejcaaDoor
end
