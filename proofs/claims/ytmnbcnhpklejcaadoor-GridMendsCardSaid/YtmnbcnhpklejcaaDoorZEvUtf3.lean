/- Letters: spans. -/
import Derived.Test.YtmnbcnhpklejcaaDoorZEvUtf2
set_option linter.unusedVariables false
set_option linter.unusedSimpArgs false
set_option maxRecDepth 20000
namespace U
open Go Go.Ev
abbrev Sp := Int × Int × Unit
def fi (l : List Sp) (r : Int) : Option Nat := findN (fun j => span (l.getD j (0, 0, ())) r) l.length 0
def idx (l : List Sp) (r : Int) : Int := match fi l r with
  | some j => (j : Int)
  | none => -1
def within (l : List Sp) (r : Int) : Bool := l.any fun x => span x r
theorem idx_within (l : List Sp) (r : Int) : decide (0 ≤ idx l r) = within l r := by
  have h := find_any (fun x => span x r) (0, 0, ()) l
  have h' : (fi l r).isSome = within l r := h
  rw [← h']
  unfold idx
  cases fi l r with
  | none => rfl
  | some j => exact decide_eq_true (by show (0 : Int) ≤ (j : Int); omega)
end U
namespace Go.Proofs.YtmnbcnhpklejcaaDoor
open Go.Ev Go.RowKit
def w155 : FSpec := w169
def w177 : FSpec := bspec [.d (.sl spk), .c (.fn 171 [0])] [.box [.d (.int .i32)]] fun x y => { c := some (decide (List.length x.1 ≤ 1048576)), rs := one (.dat (.int .i64) (U.idx x.1 y.1.1)), upd := [.box [.dat (.int .i32) y.1.1]] }
def w170 : FSpec := bspec [.d (.sl spk), .c (.fn 171 [0])] [.box [.d (.int .i32)]] fun x y => { c := some (decide (List.length x.1 ≤ 1048576)), rs := one (.dat .bool (U.within x.1 y.1.1)), upd := [.box [.dat (.int .i32) y.1.1]] }
def w157 : FSpec := dspec [.sl spk, .int .i32] fun x => { c := some (decide (List.length x.1 ≤ 1048576)), rs := one (.dat .bool (U.within x.1 x.2.1)) }
def F1 : List (Nat × FSpec) := [(169, w169)]
def F2 : List (Nat × FSpec) := [(171, w171)]
def F3 : List (Nat × FSpec) := [(177, w177)]
def F4 : List (Nat × FSpec) := [(170, w170)]
def F5 : List (Nat × FSpec) := [(156, w156), (157, w157), (158, w158), (159, w159)]
def live177 (key : Nat) : Lv := bif Nat.beq key 2 then { ls := [0, 1, 7, 8] } else bif Nat.beq key 1002 then { ls := [4] } else { ls := [] }
@[reducible] def p177 : LP := { n := 19, sl := [.d (.sl spk), .c (.fn 171 [0]), .d (.int .i64), .d (.int .i64)], bl := [(0, .box [.d (.int .i32)])] }
def B177 (x : p177.T) : Tr (p177.T ⊕ (Ex × VS)) :=
  .ite (decide ((x.1.2.2.1 : Int) < (x.1.2.1 : Int))) (.ite (inB x.1.2.2.1 (List.length (α := U.Sp) x.1.1)) (.ite (U.span ((rget spk x.1.1 x.1.2.2.1).1, (rget spk x.1.1 x.1.2.2.1).2.1, ()) x.2.1.1)
    (.ret (.inr (.ret, ⟨19, [dI .i64 x.1.2.2.1], [(0, .box [.dat (.int .i32) x.2.1.1])]⟩)))
    (.ret (.inl ((x.1.1, x.1.2.1, IntKind.i64.wrap (x.1.2.2.1 + 1), ()), x.2)))) .fail)
    (.ret (.inr (.exit 0, ⟨19, [hole0], [(0, .box [.dat (.int .i32) x.2.1.1])]⟩)))
def tr177 (x : p177.T) : Tr (Ex × VS) :=
  .ite (decide ((x.1.2.1 : Int) = (List.length (α := U.Sp) x.1.1 : Int) ∧ (x.1.2.2.1 : Int) = 0 ∧ List.length (α := U.Sp) x.1.1 ≤ 1048576))
    (.ite ((U.fi x.1.1 x.2.1.1).isSome)
      (.ret (.ret, ⟨19, [dI .i64 (((U.fi x.1.1 x.2.1.1).getD 0 : Nat) : Int)], [(0, .box [.dat (.int .i32) x.2.1.1])]⟩))
      (.ret (.exit 0, ⟨19, [hole0], [(0, .box [.dat (.int .i32) x.2.1.1])]⟩))) .fail
def ls177 (key : Nat) (x : VS) : Option (Tr (Ex × VS)) := bif Nat.beq key 2 then p177.ls tr177 x else none
abbrev E177 : Env := (E0.withFns F2).loops live177 ls177

theorem hB177 (x : p177.T) : (evC (evI 2) (lc Tryd.f177 0) (E177.lend 1) (unV [0, 1, 7, 8] (p177.V x))).map (decL 1 [0, 1, 7, 8] [4]) = (B177 x).map (encL p177.V) := by
  obtain ⟨⟨xs, n, i, z⟩, ⟨r, z'⟩, z''⟩ := x
  kernel_rfl
theorem hc177 (x : p177.T) : canV 1 [0, 1, 7, 8] (unV [0, 1, 7, 8] (p177.V x)) = p177.V x := by
  obtain ⟨⟨xs, n, i, z⟩, ⟨r, z'⟩, z''⟩ := x
  kernel_rfl
theorem run177 (xs : List U.Sp) (r : Int) (z z' z'' : Unit) (hl : xs.length ≤ 1048576) : runB B177 (xs.length + 1) ((xs, (xs.length : Int), 0, z), (r, z'), z'') =
    some (outN (U.fi xs r) (fun j => (Ex.ret, ⟨19, [dI .i64 (j : Int)], [(0, .box [.dat (.int .i32) r])]⟩)) (Ex.exit 0, ⟨19, [hole0], [(0, .box [.dat (.int .i32) r])]⟩)) := by
  refine runB_find (B := B177) (N := xs.length) (fun i => ((xs, (xs.length : Int), (i : Int), z), (r, z'), z'')) _ (fun j => (Ex.ret, ⟨19, [dI .i64 (j : Int)], [(0, .box [.dat (.int .i32) r])]⟩)) _ (fun i hi => ?_) ?_ xs.length 0 (by omega)
  · have h1 : decide ((i : Int) < (xs.length : Int)) = true := decide_eq_true (by omega)
    have h2 : inB (i : Int) xs.length = true := inB_nat hi
    simp only [B177, Tr.val, h1, h2, cond_true, rget_nat, wrap64_nat (show i ≤ 1048576 by omega)]
    show (bif U.span (xs.getD i (0, 0, ())) r then _ else _) = _
    cases U.span (xs.getD i (0, 0, ())) r <;> rfl
  · have h1 : decide ((xs.length : Int) < (xs.length : Int)) = false := decide_eq_false (by omega)
    simp only [B177, Tr.val, h1, cond_false]
theorem loop177 : LoopOK (evI 2) (E177.lend 1) (lc Tryd.f177 0) := by
  refine loopP 2 { ls := [0, 1, 7, 8] } { ls := [4] } p177 B177 tr177 (by kernel_rfl) rfl rfl (fun x => rfl) hB177 hc177 ?_
  rintro ⟨⟨xs, n, i, z⟩, ⟨r, z'⟩, z''⟩ q hq
  simp only [tr177, Tr.val] at hq
  cases hd : decide ((n : Int) = (List.length (α := U.Sp) xs : Int) ∧ (i : Int) = 0 ∧ List.length (α := U.Sp) xs ≤ 1048576) with
  | false => rw [hd] at hq; cases hq
  | true =>
    rw [hd] at hq
    have hd' : (n : Int) = (List.length (α := U.Sp) xs : Int) ∧ (i : Int) = 0 ∧ List.length (α := U.Sp) xs ≤ 1048576 := of_decide_eq_true hd
    obtain ⟨rfl, rfl, hl⟩ := hd'
    refine ⟨List.length (α := U.Sp) xs + 1, (run177 xs r z z' z'' hl).trans ?_⟩
    rw [← hq]
    cases U.fi xs r <;> rfl
theorem t177 (xs : List U.Sp) (r : Int) : evFn E177 Tryd.f177 [.data (.int .i64)] (akAV [.d (.sl spk), .c (.fn 171 [0])] (xs, ())) (bkBs [.box [.d (.int .i32)]] ((r, ()), ())) =
    .ite (decide ((xs.length : Int) = (xs.length : Int) ∧ (0 : Int) = 0 ∧ xs.length ≤ 1048576))
      (.ite ((U.fi xs r).isSome) (.ret ⟨one (.dat (.int .i64) (((U.fi xs r).getD 0 : Nat) : Int)), [.box [.dat (.int .i32) r]], []⟩) (.ret ⟨one (.dat (.int .i64) (-1 : Int)), [.box [.dat (.int .i32) r]], []⟩)) .fail := by kernel_rfl

theorem wk171 : SpecOK Tryd.prog E0 171 w171 := by
  refine bspec_ok (E0 := E0) (E := E0.withFns []) (fns := []) tab .nil rfl rfl hm Tryd.func171 (by kernel_rfl) [.data .bool] (fun x y hc => ?_)
  obtain ⟨⟨a, b, z⟩, z'⟩ := x
  obtain ⟨⟨r, z''⟩, z3⟩ := y
  have e : evFn (E0.withFns []) Tryd.f171 [.data .bool] (akAV [.d spk, .c (.ptr 0 0)] ((a, b, z), z')) (bkBs [.box [.d (.int .i32)]] ((r, z''), z3)) = _ := t171 a b r
  rw [e]
  show Tr.val _ = some (⟨one (.dat .bool (decide (a ≤ r) && decide (r ≤ b))), [.box [.dat (.int .i32) r]], []⟩ : FRes)
  cases h : decide (a ≤ r) <;> simp only [Tr.val, h, cond_true, cond_false, Bool.true_and, Bool.false_and] <;> rfl
theorem A2 : AllFn Tryd.prog E0 F2 := .cons wk171 .nil
theorem wk177 : SpecOK Tryd.prog E0 177 w177 := by
  refine bspec_ok (E0 := E0) (E := E177) (fns := F2) tab A2 rfl rfl hm Tryd.func177 (by kernel_rfl) [.data (.int .i64)] (fun x y hc => ?_) (L := ls_ok (lcs := [lc Tryd.f177 0]) (rgs := []) (by kernel_rfl) (by kernel_rfl) loop177 trivial)
  obtain ⟨xs, z⟩ := x
  obtain ⟨⟨r, z'⟩, z''⟩ := y
  have hl : xs.length ≤ 1048576 := by simpa using hc
  have e := t177 xs r
  refine (congrArg Tr.val e).trans ?_
  rw [show (decide ((xs.length : Int) = (xs.length : Int) ∧ (0 : Int) = 0 ∧ xs.length ≤ 1048576)) = true from by simpa using hl]
  show Tr.val _ = some (⟨one (.dat (.int .i64) (U.idx xs r)), [.box [.dat (.int .i32) r]], []⟩ : FRes)
  unfold U.idx
  cases U.fi xs r <;> rfl
theorem A3 : AllFn Tryd.prog E0 F3 := .cons wk177 .nil
theorem wk170 : SpecOK Tryd.prog E0 170 w170 := by
  refine bspec_ok (E0 := E0) (E := E0.withFns F3) (fns := F3) tab A3 rfl rfl hm Tryd.func170 (by kernel_rfl) [.data .bool] (fun x y hc => ?_)
  obtain ⟨xs, z⟩ := x
  obtain ⟨⟨r, z'⟩, z''⟩ := y
  have hl : (decide (xs.length ≤ 1048576)) = true := by simpa using hc
  have e : evFn (E0.withFns F3) Tryd.f170 [.data .bool] (akAV [.d (.sl spk), .c (.fn 171 [0])] (xs, ())) (bkBs [.box [.d (.int .i32)]] ((r, ()), ())) =
    .ite (decide (xs.length ≤ (1048576 : Nat))) (.ret ⟨one (.dat .bool (decide ((0 : Int) ≤ U.idx xs r))), [.box [.dat (.int .i32) r]], []⟩) .fail := by kernel_rfl
  refine (congrArg Tr.val e).trans ?_
  rw [hl, U.idx_within]
  rfl
theorem A4 : AllFn Tryd.prog E0 F4 := .cons wk170 .nil
theorem wk157 : SpecOK Tryd.prog E0 157 w157 := by
  refine dspec_ok (E0 := E0) (E := E0.withFns F4) (fns := F4) tab A4 rfl rfl hm Tryd.func157 (by kernel_rfl) [.data .bool] (fun x hc => ?_)
  obtain ⟨xs, r, z⟩ := x
  have hl : (decide (xs.length ≤ 1048576)) = true := by simpa using hc
  have e : evFn (E0.withFns F4) Tryd.f157 [.data .bool] (toAVs [.sl spk, .int .i32] (xs, r, z)) [] = .ite (decide (xs.length ≤ (1048576 : Nat))) (.ret ⟨one (.dat .bool (U.within xs r)), [], []⟩) .fail := by kernel_rfl
  rw [e, hl]
  rfl
theorem wk156 : SpecOK Tryd.prog E0 156 w156 := by
  refine dspec_ok (E0 := E0) (E := E0.withFns []) (fns := []) tab .nil rfl rfl hm Tryd.func156 (by kernel_rfl) [.data .bool] (fun x hc => ?_)
  obtain ⟨n, z⟩ := x
  have e : evFn (E0.withFns []) Tryd.f156 [.data .bool] (toAVs [.int .i32] (n, z)) [] = _ := t156 n
  rw [e]
  show Tr.val _ = some (rb (U.valid n))
  unfold U.valid
  by_cases a : (0 : Int) ≤ n <;> by_cases b : n < 55296 <;> by_cases c : (57343 : Int) < n <;> by_cases d : n ≤ 1114111 <;>
    simp only [Tr.val, a, b, c, d, decide_true, decide_false, cond_true, cond_false, Bool.true_and, Bool.and_true, Bool.false_and, Bool.and_false, Bool.or_true, Bool.true_or, Bool.or_false, Bool.or_self] <;> rfl
theorem wk158 : SpecOK Tryd.prog E0 158 w158 := by
  refine dspec_ok (E0 := E0) (E := E0.withFns []) (fns := []) tab .nil rfl rfl hm Tryd.func158 (by kernel_rfl) [.data (.sl spk)] (fun x hc => ?_)
  rw [show toAVs [] x = toAVs [] () from rfl, t158]
  rfl
theorem wk159 : SpecOK Tryd.prog E0 159 w159 := by
  refine dspec_ok (E0 := E0) (E := E0.withFns []) (fns := []) tab .nil rfl rfl hm Tryd.func159 (by kernel_rfl) [.data (.sl spk)] (fun x hc => ?_)
  rw [show toAVs [] x = toAVs [] () from rfl, t159]
  rfl
theorem A5 : AllFn Tryd.prog E0 F5 := .cons wk156 (.cons wk157 (.cons wk158 (.cons wk159 .nil)))
theorem wk138 : SpecOK Tryd.prog E0 138 w138 := by
  refine dspec_ok (E0 := E0) (E := E0.withFns []) (fns := []) tab .nil rfl rfl hm Tryd.func138 (by kernel_rfl) [.data .bool] (fun x hc => ?_)
  obtain ⟨a, b, c, z⟩ := x
  have e : evFn (E0.withFns []) Tryd.f138 [.data .bool] (toAVs [.int .i64, .int .i64, .int .i64] (a, b, c, z)) [] = _ := t138 a b c
  rw [e]
  show Tr.val _ = some (rb (U.inn a b c))
  unfold U.inn
  by_cases h : b ≤ a <;> simp only [Tr.val, h, decide_true, decide_false, cond_true, cond_false, Bool.true_and, Bool.false_and] <;> rfl
end Go.Proofs.YtmnbcnhpklejcaaDoor
