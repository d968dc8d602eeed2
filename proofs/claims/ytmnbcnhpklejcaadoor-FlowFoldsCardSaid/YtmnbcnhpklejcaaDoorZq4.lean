/- Part 4 of what the proof leans on: an evaluator of Go code over plain data, with its soundness; contracts of functions; laws of plain data. -/
import Derived.Test.YtmnbcnhpklejcaaDoorZq3
section
set_option linter.unusedVariables false
set_option linter.unusedSimpArgs false
set_option maxRecDepth 20000
set_option maxHeartbeats 4000000
open Go Go.Ev
namespace Go.Proofs.YtmnbcnhpklejcaaDoor
open Go.RowKit
def T52 (x : p52_0.T) : Tr (List (List Cell)) :=
  match x with
  | ⟨⟨x0, l, n, i, _⟩, h0, h1, _⟩ =>
    .ite (decide ((n : Int) = (List.length (α := Line) l : Int) ∧ (i : Int) = 0 ∧ List.length (α := Line) x0 = List.length (α := Line) l ∧ List.length (α := Line) l ≤ 1048576 ∧ List.length (α := List Cell) h0 + List.length (α := Line) l ≤ 1048576 ∧ List.length (α := Cell) h1 + U.cells l ≤ 1048576))
      (.ret (List.append (α := List Cell) h0 (U.joinL l h1))) .fail
abbrev E52 : Env := M52 fun key x => bif Nat.beq key 6 then p52_0.ls (fun a => (T52 a).map X52_0) x else none
theorem L52 : LoopOK (evI 2) (E52.lend 0) (lc Tryd.f52 0) := by
  refine l52_0 (T := T52) (fun x => rfl) ?_
  rintro ⟨⟨x0, l, n, i, z⟩, h0, h1, z1⟩ r hh
  obtain ⟨g1, g2⟩ := pre_val hh
  have g1 : (n : Int) = (l.length : Int) ∧ (i : Int) = 0 ∧ x0.length = l.length ∧ l.length ≤ 1048576 ∧ h0.length + l.length ≤ 1048576 ∧ h1.length + U.cells l ≤ 1048576 := of_decide_eq_true g1
  obtain ⟨rfl, rfl, e1, e2, e3, e4⟩ := g1
  cases g2
  exact R52 x0 l e2 e1 l.length 0 h0 h1 (by omega) e3 e4
def d52 (a : List Line) : Tr (List (List Cell) × Int) :=
 let v1 : Int := ((↑(List.length a) : Int))
 let v2 : Int := ((↑(List.length a) : Int))
 Tr.ite (U.okl a) (Tr.ite (!(U.evens a && decide (v1 ≤ (200 : Int)))) (Tr.ret ([], (1 : Int))) (Tr.ite (decide (v2 = v1 ∧ (0 : Int) = (0 : Int) ∧ List.length a = List.length a ∧ List.length a ≤ (1048576 : Nat) ∧ (0 : Nat) + List.length a ≤ (1048576 : Nat) ∧ (0 : Nat) + U.cells a ≤ (1048576 : Nat))) (Tr.ret (List.append [] (U.joinL a []), (0 : Int))) Tr.fail)) Tr.fail
def e52 (r : List (List Cell) × Int) : FRes := { rs := Slot.tup [AV.one (Leaf.dat (Kd.sl (Kd.sl celk)) r.fst), AV.one (Leaf.dat (.int .i64) r.snd)], upd := [], new := [] }
@[reducible] def a52 : List AK := [AK.d (Kd.sl link)]
@[reducible] def b52 : List BK := []
theorem t52 (a : List Line) : evFn (E52) Tryd.f52 [PM.data (Kd.sl (Kd.sl celk)), PM.data (.int .i64)] (akAV a52 (a, ())) (bkBs b52 ()) = (d52 a).map e52 := by kernel_rfl
def s52 (C : akT a52 → Bool) (G : akT a52 → List (List Cell) × Int) : FSpec := aspec a52 b52 e52 (fun x _ => C x) (fun x _ => G x)
theorem k52 {C : akT a52 → Bool} {G : akT a52 → List (List Cell) × Int} (hd : ∀ (a : List Line), C (a, ()) = true → (d52 a).val = some (G (a, ()))) (IO : ItOK Tryd.prog (E52) := by exact itOK_none rfl) (L : ∀ c, Tryd.f52.body = some c → LsOK (evI 2) ((E52).lend 0) c := by exact fun c _ => LsOK_none rfl c) : SpecOK Tryd.prog E0 52 (s52 C G) :=
  aspec_ok (ak := a52) (bl := b52) (e := e52) (c := fun x _ => C x) (g := fun x _ => G x) (E0 := E0) (E := E52) tab AG52 rfl rfl hm Tryd.func52 (by kernel_rfl) [PM.data (Kd.sl (Kd.sl celk)), PM.data (.int .i64)] (fun X Y H => by obtain ⟨a, _⟩ := X; exact val_of (t52 a) (hd a H)) IO L
def U.may (l : List U.Ln) : Bool := U.evens l && decide ((l.length : Int) ≤ 200)
abbrev w52 : FSpec := s52 (fun x => U.okl x.1 && decide (U.cells x.1 ≤ 1048576)) fun x => bif U.may x.1 then (U.joinL x.1 [], (0 : Int)) else ([], (1 : Int))
theorem wk52 : SpecOK Tryd.prog E0 52 w52 := by
  refine k52 (fun l H => ?_) (L := ls_ok (lcs := [lc Tryd.f52 0]) (rgs := []) (by kernel_rfl) (by kernel_rfl) L52 trivial)
  have H : (U.okl l && decide (U.cells l ≤ 1048576)) = true := H
  rw [Bool.and_eq_true] at H
  obtain ⟨gk, h2⟩ := H
  have h2 : U.cells l ≤ 1048576 := of_decide_eq_true h2
  have h3 : l.length ≤ 1048576 := U.okl_len gk
  show _ = some (bif U.may l then (U.joinL l [], (0 : Int)) else ([], (1 : Int)))
  simp only [d52, Tr.val, gk, h2, h3, Nat.zero_add, and_self, decide_true, cond_true]
  unfold U.may
  cases (U.evens l && decide ((l.length : Int) ≤ 200)) <;> rfl
end Go.Proofs.YtmnbcnhpklejcaaDoor
end
section
set_option linter.unusedVariables false
set_option linter.unusedSimpArgs false
set_option maxRecDepth 20000
set_option maxHeartbeats 4000000
open Go Go.Ev
namespace U
open Go.Proofs.YtmnbcnhpklejcaaDoor
theorem mayR_odd (y : Ln) : mayR y = !odd y.1 := by
  unfold mayR odd
  rw [Bool.not_not]
  by_cases h1 : 1 ≤ y.1.length
  · by_cases h2 : y.1.length ≤ 80
    · simp [h1, h2, show ¬ ((y.1.length : Int) < 1) by omega, show ¬ ((80 : Int) < (y.1.length : Int)) by omega]
    · simp [h1, h2, show ¬ ((y.1.length : Int) < 1) by omega, show ((80 : Int) < (y.1.length : Int)) by omega]
  · simp [h1, show ((y.1.length : Int) < 1) by omega]
theorem may_evens (l : List Ln) : mayL l = evens l := by
  unfold mayL evens
  rw [allN_list (q := mayR)]
  induction l with
  | nil => rfl
  | cons y l ih => rw [List.all_cons, List.any_cons, Bool.not_or, ih, mayR_odd]
theorem may_mayL (l : List Ln) : U.may l = (mayL l && decide ((l.length : Int) ≤ 200)) := by
  rw [may_evens]; rfl
theorem mayL_at {l : List Ln} (h : mayL l = true) {i : Nat} (hi : i < l.length) : mayR (l.getD i dL) = true := by
  unfold mayL at h
  exact allN_iff.1 h i (by omega) (by omega)
theorem cells_few (l : List Ln) : ∀ n, cells (few l n) ≤ 82 * n := by
  intro n
  unfold few
  induction n generalizing l with
  | zero => simp [cells]
  | succ n ih =>
    cases l with
    | nil => simp [cells]
    | cons y l =>
      have h2 := ih l
      rw [List.take_succ_cons, List.map_cons]
      unfold cells
      have h3 : (cutL y.1).length ≤ 82 := by unfold cutL; rw [List.length_map, List.length_take]; omega
      have h4 : (cutL y.1, y.2.1, ()).1.length ≤ 82 := h3
      omega
end U
end
section
set_option linter.unusedVariables false
set_option linter.unusedSimpArgs false
set_option maxRecDepth 20000
set_option maxHeartbeats 4000000
open Go Go.Ev
namespace Go.Proofs.YtmnbcnhpklejcaaDoor
open Go.RowKit
namespace Rz
def T162 (x : p162_0.T) : Tr (List Cell) :=
  .ite (decide (0 ≤ (x.1.1 : Int) ∧ (List.length (α := Cell) x.2.1 = 0 ∨ ((x.1.1 : Int) = 1 ∧ List.length (α := Cell) x.2.1 ≤ 1048576)))) (.ret (List.replicate (List.length (α := Cell) x.2.1) (List.getD (α := Cell) x.2.1 0 U.dC))) .fail
abbrev E162 : Env := M162 fun key x => bif Nat.beq key 8 then p162_0.ls (fun a => (T162 a).map X162_0) x else none
theorem L162 : LoopOK (evI 2) (E162.lend 0) (lc Tryd.f162 0) := by
  refine l162_0 (T := T162) (fun x => rfl) ?_
  rintro ⟨⟨n, z⟩, h, z2⟩ r hh
  obtain ⟨g1, g2⟩ := pre_val hh
  have g1 : 0 ≤ (n : Int) ∧ (h.length = 0 ∨ ((n : Int) = 1 ∧ h.length ≤ 1048576)) := of_decide_eq_true g1
  obtain ⟨g0, g1⟩ := g1
  cases g2
  by_cases h0 : h.length = 0
  · have : h = [] := List.eq_nil_of_length_eq_zero h0
    subst this
    have g0 : ¬ (n : Int) < 0 := Int.not_lt.2 g0
    refine .exit ?_
    simp only [b162_0, B162_0, Tr.val, List.length_nil, show ((0 : Nat) : Int) = 0 from rfl, g0, decide_false, cond_false]
    rfl
  · obtain ⟨e1, e3⟩ := g1.resolve_left h0
    subst e1
    refine rep162 (h.getD 0 U.dC) h.length e3 h.length 1 h (by omega) (by omega) (by omega) rfl ?_
    cases h with
    | nil => simp at h0
    | cons x h => rfl
def d162 (a : List Cell) (b : Int) : Tr (List Cell) :=
 let v1 : Int := (IntKind.wrap IntKind.u64 (↑(List.length a) : Int))
 let v2 : List Cell := (List.replicate (Int.toNat (IntKind.wrap IntKind.i64 (IntKind.wrap IntKind.u64 b))) (ByteArray.empty, (0 : Int), ((0 : Int), (0 : Int), (0 : Int), ()), ()))
 let v3 : Int := ((↑(Nat.min (List.length a) (List.length v2)) : Int))
 let v4 : List Cell := (putAt v2 (0 : Nat) (List.take (List.length v2) a))
 Tr.ite (decide (b < (0 : Int))) Tr.fail (Tr.ite (decide (v1 = (1 : Int) ∧ (0 : Int) ≤ IntKind.wrap IntKind.u64 b ∧ IntKind.wrap IntKind.u64 b < (128 : Int))) (Tr.ite false Tr.fail (Tr.ite (decide ((9223372036854775807 : Int) < IntKind.wrap IntKind.u64 b)) Tr.fail (Tr.ite (decide ((0 : Int) ≤ IntKind.wrap IntKind.i64 (IntKind.wrap IntKind.u64 b) ∧ IntKind.wrap IntKind.i64 (IntKind.wrap IntKind.u64 b) ≤ IntKind.wrap IntKind.i64 (IntKind.wrap IntKind.u64 b) ∧ Int.toNat (IntKind.wrap IntKind.i64 (IntKind.wrap IntKind.u64 b)) * (48 : Nat) ≤ (140737488355328 : Nat))) (Tr.ite (decide ((0 : Int) ≤ v3 ∧ (List.length v4 = (0 : Nat) ∨ v3 = (1 : Int) ∧ List.length v4 ≤ (1048576 : Nat)))) (Tr.ret (List.replicate (List.length v4) (List.getD v4 (0 : Nat) U.dC))) Tr.fail) Tr.fail))) Tr.fail)
def e162 (r : List Cell) : FRes := { rs := Slot.av (AV.one (Leaf.dat (Kd.sl celk) r)), upd := [], new := [] }
@[reducible] def a162 : List AK := [AK.d (Kd.sl celk), AK.d (.int .i64)]
@[reducible] def b162 : List BK := []
theorem t162 (a : List Cell) (b : Int) : evFn (E162) Tryd.f162 [PM.data (Kd.sl celk)] (akAV a162 (a, b, ())) (bkBs b162 ()) = (d162 a b).map e162 := by kernel_rfl
def s162 (C : akT a162 → Bool) (G : akT a162 → List Cell) : FSpec := aspec a162 b162 e162 (fun x _ => C x) (fun x _ => G x)
theorem k162 {C : akT a162 → Bool} {G : akT a162 → List Cell} (hd : ∀ (a : List Cell) (b : Int), C (a, b, ()) = true → (d162 a b).val = some (G (a, b, ()))) (IO : ItOK Tryd.prog (E162) := by exact itOK_none rfl) (L : ∀ c, Tryd.f162.body = some c → LsOK (evI 2) ((E162).lend 0) c := by exact fun c _ => LsOK_none rfl c) : SpecOK Tryd.prog E0 162 (s162 C G) :=
  aspec_ok (ak := a162) (bl := b162) (e := e162) (c := fun x _ => C x) (g := fun x _ => G x) (E0 := E0) (E := E162) tab (.cons wk172 .nil) rfl rfl hm Tryd.func162 (by kernel_rfl) [PM.data (Kd.sl celk)] (fun X Y H => by obtain ⟨a, ⟨b, _⟩⟩ := X; exact val_of (t162 a b) (hd a b H)) IO L
abbrev w162 : FSpec := s162 (fun x => decide (List.length (α := Cell) x.1 = 1 ∧ 0 ≤ (x.2.1 : Int) ∧ (x.2.1 : Int) < 128)) fun x => List.replicate x.2.1.toNat (List.getD (α := Cell) x.1 0 U.dC)
theorem wk162 : SpecOK Tryd.prog E0 162 w162 := by
  refine k162 (fun l n H => ?_) (L := ls_ok (lcs := [lc Tryd.f162 0]) (rgs := []) (by kernel_rfl) (by kernel_rfl) L162 trivial)
  have H : (l.length = 1 ∧ (0 : Int) ≤ n ∧ (n : Int) < 128) := of_decide_eq_true H
  obtain ⟨h1, h2, h3⟩ := H
  obtain ⟨m, rfl⟩ := Int.eq_ofNat_of_zero_le (a := n) h2
  have h4 : m < 128 := by omega
  have u1 : IntKind.u64.wrap (m : Int) = (m : Int) := by simp [IntKind.wrap, IntKind.signed, IntKind.bits]; omega
  have u2 : IntKind.i64.wrap (m : Int) = (m : Int) := Go.Ev.w64 (by omega) (by omega)
  have u3 : IntKind.u64.wrap 1 = 1 := by decide
  match l, h1 with
  | [x], _ =>
    show _ = some (List.replicate m x)
    cases m with
    | zero => rfl
    | succ m =>
    have e1 : List.take (m + 1) [x] = [x] := List.take_of_length_le (by simp)
    have e2 : Nat.min 1 (m + 1) = 1 := Nat.min_eq_left (by omega)
    have e3 : (putAt (List.replicate (m + 1) ((ByteArray.empty, (0 : Int), ((0 : Int), (0 : Int), (0 : Int), ()), ()) : Cell)) 0 [x]).length = m + 1 := by
      simp only [putAt, List.length_append, List.length_take, List.length_drop, List.length_replicate, List.length_cons, List.length_nil]
      omega
    have e4 : ∀ (q : List Cell), (putAt q 0 [x]).getD 0 U.dC = x := fun q => rfl
    have a1 : (0 : Int) ≤ ((m + 1 : Nat) : Int) := by omega
    have a2 : ((m + 1 : Nat) : Int) < 128 := by omega
    have a4 : (m + 1) * 48 ≤ 140737488355328 := by omega
    have a5 : ¬ (m + 1 = 0) := by omega
    have a6 : m + 1 ≤ 1048576 := by omega
    simp only [d162, Tr.val, u1, u2, Int.toNat_natCast, List.length_replicate, List.length_cons, List.length_nil, Nat.zero_add, e1, e2, e4, show ((1 : Nat) : Int) = 1 from rfl, u3, show ¬ (((m + 1 : Nat) : Int) < 0) by omega, show ¬ ((9223372036854775807 : Int) < ((m + 1 : Nat) : Int)) by omega, decide_true, decide_false, cond_true, cond_false]
    simp only [e3, a1, a2, a4, a5, a6, Int.le_refl, and_self, true_and, or_true, decide_true, cond_true]
    rfl
end Rz
end Go.Proofs.YtmnbcnhpklejcaaDoor
namespace U
def noneC : Cl := (ByteArray.empty, 1, (0, 0, 0, ()), ())
def fillL (l : List Cl) (n : Nat) : List Cl := l ++ List.replicate (n - l.length) noneC
end U
namespace Go.Proofs.YtmnbcnhpklejcaaDoor
def d163 (a : List Cell) : Tr (List Cell) :=
 let v1 : Int := ((↑(List.length a) : Int))
 Tr.ite (decide ((0 : Int) ≤ v1 ∧ v1 ≤ v1) && decide (v1 = v1)) (Tr.ret (sub a (0 : Nat) (Int.toNat v1))) Tr.fail
def e163 (r : List Cell) : FRes := { rs := Slot.av (AV.one (Leaf.clip celk r)), upd := [], new := [] }
@[reducible] def a163 : List AK := [AK.d (Kd.sl celk)]
@[reducible] def b163 : List BK := []
theorem t163 (a : List Cell) : evFn (E0) Tryd.f163 [PM.raw] (akAV a163 (a, ())) (bkBs b163 ()) = (d163 a).map e163 := by kernel_rfl
def s163' (G : akT a163 → List Cell) : FSpec := aspec0 a163 b163 e163 (fun x _ => G x)
theorem k163' {G : akT a163 → List Cell} (hd : ∀ (a : List Cell), (d163 a).val = some (G (a, ()))) (IO : ItOK Tryd.prog (E0) := by exact itOK_none rfl) (L : ∀ c, Tryd.f163.body = some c → LsOK (evI 2) ((E0).lend 0) c := by exact fun c _ => LsOK_none rfl c) : SpecOK Tryd.prog E0 163 (s163' G) :=
  aspec0_ok (ak := a163) (bl := b163) (e := e163) (g := fun x _ => G x) (E0 := E0) (E := E0) tab .nil rfl rfl hm Tryd.func163 (by kernel_rfl) [PM.raw] (fun X Y => by obtain ⟨a, _⟩ := X; exact val_of (t163 a) (hd a)) IO L
abbrev w163 : FSpec := s163' fun x => x.1
theorem wk163 : SpecOK Tryd.prog E0 163 w163 := k163' fun l => by
  have e : sub l 0 (Int.toNat (l.length : Int)) = l := by unfold sub; rw [Int.toNat_natCast, List.take_length, List.drop_zero]
  have c : decide ((0 : Int) ≤ (l.length : Int) ∧ (l.length : Int) ≤ (l.length : Int)) = true := decide_eq_true (by omega)
  simp only [d163, Tr.val, c, e, decide_true, Bool.and_self, cond_true]
def d151 (a : List Cell) (b : Int) (c : Bool) : Tr (List Cell × Bool) :=
 let v1 : Int := (IntKind.wrap IntKind.i64 (b - (↑(List.length a) : Int)))
 let v2 : List Cell := (List.replicate (Int.toNat v1) (List.getD [(ByteArray.empty, (1 : Int), ((0 : Int), (0 : Int), (0 : Int), ()), ())] (0 : Nat) U.dC))
 Tr.ite (decide ((1 : Nat) = (1 : Nat) ∧ (0 : Int) ≤ v1 ∧ v1 < (128 : Int))) (Tr.ite (decide ((List.length a + List.length v2) * (48 : Nat) ≤ (140737488355328 : Nat))) (Tr.ret (a ++ v2, c)) Tr.fail) Tr.fail
def e151 (r : List Cell × Bool) : FRes := { rs := Slot.av (AV.agg [Leaf.dat (Kd.sl celk) r.fst, Leaf.dat Kd.bool r.snd]), upd := [], new := [] }
@[reducible] def a151 : List AK := [AK.d (Kd.sl celk), AK.d (.int .i64), AK.d Kd.bool]
@[reducible] def b151 : List BK := []
theorem t151 (a : List Cell) (b : Int) (c : Bool) : evFn (Env.withFns E0 [((163 : Nat), w163), ((147 : Nat), w147), ((162 : Nat), Rz.w162)]) Tryd.f151 [PM.data link] (akAV a151 (a, b, c, ())) (bkBs b151 ()) = (d151 a b c).map e151 := by kernel_rfl
def s151 (C : akT a151 → Bool) (G : akT a151 → List Cell × Bool) : FSpec := aspec a151 b151 e151 (fun x _ => C x) (fun x _ => G x)
theorem k151 {C : akT a151 → Bool} {G : akT a151 → List Cell × Bool} (hd : ∀ (a : List Cell) (b : Int) (c : Bool), C (a, b, c, ()) = true → (d151 a b c).val = some (G (a, b, c, ()))) (IO : ItOK Tryd.prog (Env.withFns E0 [((163 : Nat), w163), ((147 : Nat), w147), ((162 : Nat), Rz.w162)]) := by exact itOK_none rfl) (L : ∀ c, Tryd.f151.body = some c → LsOK (evI 2) ((Env.withFns E0 [((163 : Nat), w163), ((147 : Nat), w147), ((162 : Nat), Rz.w162)]).lend 0) c := by exact fun c _ => LsOK_none rfl c) : SpecOK Tryd.prog E0 151 (s151 C G) :=
  aspec_ok (ak := a151) (bl := b151) (e := e151) (c := fun x _ => C x) (g := fun x _ => G x) (E0 := E0) (E := Env.withFns E0 [((163 : Nat), w163), ((147 : Nat), w147), ((162 : Nat), Rz.w162)]) tab (.cons wk163 (.cons wk147 (.cons Rz.wk162 .nil))) rfl rfl hm Tryd.func151 (by kernel_rfl) [PM.data link] (fun X Y H => by obtain ⟨a, ⟨b, ⟨c, _⟩⟩⟩ := X; exact val_of (t151 a b c) (hd a b c H)) IO L
abbrev w151 : FSpec := s151 (fun x => decide ((List.length (α := Cell) x.1 : Int) ≤ (x.2.1 : Int) ∧ (x.2.1 : Int) ≤ 80)) fun x => (U.fillL x.1 x.2.1.toNat, x.2.2.1)
theorem wk151 : SpecOK Tryd.prog E0 151 w151 := k151 fun l n b H => by
  have H : (l.length : Int) ≤ n ∧ n ≤ 80 := of_decide_eq_true H
  obtain ⟨h1, h2⟩ := H
  obtain ⟨m, rfl⟩ := Int.eq_ofNat_of_zero_le (a := n) (by omega)
  have e : IntKind.i64.wrap ((m : Int) - (l.length : Int)) = ((m - l.length : Nat) : Int) := by rw [Go.Ev.w64 (by omega) (by omega)]; omega
  have c1 : (0 : Int) ≤ ((m - l.length : Nat) : Int) := by omega
  have c3 : ((m - l.length : Nat) : Int) < 128 := by omega
  have c2 : (l.length + (m - l.length)) * 48 ≤ 140737488355328 := by omega
  show _ = some (U.fillL l m, b)
  simp only [d151, Tr.val, e, c1, c3, Int.toNat_natCast, List.length_replicate, c2, and_self, decide_true, cond_true]
  rfl
def live148 (key : Nat) : Lv :=
  bif Nat.beq key 0 then { ls := [0, 1], wd := [⟨1001, some 0, .row 34 link⟩, ⟨1002, some 0, .row 48 celk⟩] } else bif Nat.beq key 1000 then { ls := [] } else
  { ls := [] }
def live122 (key : Nat) : Lv :=
  bif Nat.beq key 505 then { ls := [3, 5, 6, 9] } else bif Nat.beq key 1505 then { ls := [3, 5, 6] } else
  { ls := [] }
abbrev G122 : List (Nat × FSpec) := [(111, w111), (151, w151)]
theorem AG122 : AllFn Tryd.prog E0 G122 := .cons wk111 (.cons wk151 .nil)
abbrev lv122 (k : Nat) : Lv := bif Nat.ble 100000 k then live148 (Nat.sub k 100000) else live122 k
noncomputable abbrev M122 (ls : Nat → VS → Option (Tr (Ex × VS))) : Env := ((E0.withFns G122).withIts [(148, Tryd.f148)]).loops lv122 ls
@[reducible] def q122_0 : LP := { n := 37, sl := [.c (Leaf.ptr ( 0) ( 0)), .c (Leaf.ptr ( 1) ( 0)), .c (Leaf.ptr ( 2) ( 0)), .c (Leaf.fn ( 148) [3])], bl := [(0, .box [.d (.int .i64)]), (1, .box [.c (Leaf.nils)]), (2, .box [.c (Leaf.nils)]), (3, .box [.d (Kd.sl celk)])] }
noncomputable def r122_0 : RL := { ps := (rg Tryd.f122 0).ps.toList, asg := (rg Tryd.f122 0).asg, body := (rg Tryd.f122 0).body }
end Go.Proofs.YtmnbcnhpklejcaaDoor
namespace U
def wd (c : Cl) : Nat := (max c.2.1 1).toNat
def pcs : Nat → List Cl → List (List Cl)
  | 0, _ => []
  | _ + 1, [] => []
  | k + 1, c :: l => (c :: l).take (wd c) :: pcs k ((c :: l).drop (wd c))
def okP : Nat → List Cl → Bool
  | 0, l => decide (l.length = 0)
  | _ + 1, [] => true
  | k + 1, c :: l => decide (wd c ≤ (c :: l).length) && okP k ((c :: l).drop (wd c))
def stepP (cols : Nat) (s : List Ln × List Cl) (p : List Cl) : List Ln × List Cl :=
  bif decide (cols < p.length) then s else bif decide (cols < s.2.length + p.length) then (s.1 ++ [(fillL s.2 cols, true, ())], p) else (s.1, s.2 ++ p)
end U
namespace Go.Proofs.YtmnbcnhpklejcaaDoor
def Y122 (n : Int) (out : List Line) (now : List Cell) : VS := ⟨37, [one (.ptr 0 0), one (.ptr 1 0), one (.ptr 2 0)], [(0, .box [.dat (.int .i64) n]), (1, .box [.row 3]), (2, .box [.row 4]), (3, .row 34 link out), (4, .row 48 celk now)]⟩
def T122 (x : q122_0.T) : Tr (Ex × VS) :=
  match x with
  | ⟨_, ⟨n, _⟩, _, _, ⟨l, _⟩, _⟩ => .ite (decide (1 ≤ (n : Int) ∧ (n : Int) ≤ 80 ∧ List.length (α := Cell) l ≤ 1048576) && U.okP (List.length (α := Cell) l) l)
      (.ret (.nrm, Y122 n ((U.pcs (List.length (α := Cell) l) l).foldl (U.stepP (Int.toNat n)) ([], [])).1 ((U.pcs (List.length (α := Cell) l) l).foldl (U.stepP (Int.toNat n)) ([], [])).2)) .fail
noncomputable abbrev E122 : Env := M122 fun key x => bif Nat.beq key 505 then q122_0.ls T122 x else none
noncomputable abbrev I122 (k : Nat) (L : Nat → VS → Option (Tr (Ex × VS))) (x : q122_0.T) : Env := ((E122.lend 0).told k L).inner 5 (yldR (evI 2 ((E122.lend 0).told k L).round) (unV (lv122 505) (q122_0.V x)).t 4)
@[reducible] def p122r0_0 : LP := { n := 21, sl := [.c (Leaf.yld ( 4)), .c (Leaf.ptr ( 3) ( 0))], bl := [(0, .box [.d (.int .i64)]), (1, .box [.c (Leaf.row ( 5))]), (2, .box [.c (Leaf.row ( 6))]), (3, .box [.d (Kd.sl celk)]), (4, .lr), (5, .row 34 (link)), (6, .row 48 (celk))] }
noncomputable def B122r0_0 (h0_0 : Int) (h3_0 : List Cell) (rl : RL) (h5 : List Line) (h6 : List Cell) : Tr (p122r0_0.T ⊕ (Int × List Cell × RL × List Line × List Cell)) :=
 let v1 : Int := ((↑(List.length h6) : Int))
 let v2 : Int := ((↑(List.length h3_0) : Int))
 let v3 : Int := (maxI (rget celk h3_0 (0 : Int)).snd.fst (1 : Int))
 let v4 : List Cell := (sub h3_0 (0 : Nat) (Int.toNat v3))
 let v5 : Int := ((↑(List.length v4) : Int))
 let v6 : Int := (IntKind.wrap IntKind.i64 ((↑(List.length h6) : Int) + v5))
 let v7 : Bool := (decide ((0 : Int) ≤ v3 ∧ v3 ≤ v2))
 Tr.ite (decide ((0 : Int) < v2)) (Tr.ite (inB (0 : Int) (List.length h3_0)) (Tr.ite v7 (Tr.ite (decide (h0_0 < v5)) (Tr.ite v7 (Tr.ret (Sum.inl ((), (h0_0, ()), (), (), (sub h3_0 (Int.toNat v3) (List.length h3_0), ()), r122_0, h5, h6, ()))) Tr.fail) (Tr.ite (decide (h0_0 < v6)) (Tr.ite (decide (v1 ≤ h0_0 ∧ h0_0 ≤ (80 : Int))) (Tr.ite (decide ((List.length h5 + (1 : Nat)) * (32 : Nat) ≤ (140737488355328 : Nat))) (Tr.ite (decide (List.length v4 * (48 : Nat) ≤ (140737488355328 : Nat))) (Tr.ite v7 (Tr.ret (Sum.inl ((), (h0_0, ()), (), (), (sub h3_0 (Int.toNat v3) (List.length h3_0), ()), r122_0, h5 ++ [(U.fillL h6 (Int.toNat h0_0), true, ())], v4, ()))) Tr.fail) Tr.fail) Tr.fail) Tr.fail) (Tr.ite (decide ((List.length h6 + List.length v4) * (48 : Nat) ≤ (140737488355328 : Nat))) (Tr.ite v7 (Tr.ret (Sum.inl ((), (h0_0, ()), (), (), (sub h3_0 (Int.toNat v3) (List.length h3_0), ()), r122_0, h5, h6 ++ v4, ()))) Tr.fail) Tr.fail))) Tr.fail) Tr.fail) (Tr.ret (Sum.inr (h0_0, h3_0, r122_0, h5, h6)))
def X122r0_0 (r : (Int × List Cell × RL × List Line × List Cell)) : Ex × VS := Prod.mk (Ex.exit ( 0)) { n := 21, v := [], h := [( 0, Blk.box [Leaf.dat (.int .i64) r.fst]), ( 1, Blk.box [Leaf.row ( 5)]), ( 2, Blk.box [Leaf.row ( 6)]), ( 3, Blk.box [Leaf.dat (Kd.sl celk) r.snd.fst]), ( 4, Blk.lrec false none r.snd.snd.fst), ( 5, Blk.row ( 34) link r.snd.snd.snd.fst), ( 6, Blk.row ( 48) celk r.snd.snd.snd.snd)] }
noncomputable def b122r0_0 : p122r0_0.T → Tr (p122r0_0.T ⊕ (Int × List Cell × RL × List Line × List Cell)) := fun ⟨_, ⟨⟨h0_0, _⟩, ⟨_, ⟨_, ⟨⟨h3_0, _⟩, ⟨rl, ⟨h5, ⟨h6, _⟩⟩⟩⟩⟩⟩⟩⟩ => B122r0_0 h0_0 h3_0 rl h5 h6
noncomputable def z122r0_0 : p122r0_0.T → p122r0_0.T := fun ⟨_, ⟨⟨h0_0, _⟩, ⟨_, ⟨_, ⟨⟨h3_0, _⟩, ⟨rl, ⟨h5, ⟨h6, _⟩⟩⟩⟩⟩⟩⟩⟩ => ((), (h0_0, ()), (), (), (h3_0, ()), r122_0, h5, h6, ())
noncomputable def o122r0_0 : p122r0_0.T → Bool := fun ⟨_, ⟨⟨h0_0, _⟩, ⟨_, ⟨_, ⟨⟨h3_0, _⟩, ⟨rl, ⟨h5, ⟨h6, _⟩⟩⟩⟩⟩⟩⟩⟩ => isRL r122_0 rl
theorem ho122r0_0 (y : p122r0_0.T) (h : o122r0_0 y = true) : y = z122r0_0 y := by
  obtain ⟨_, ⟨⟨h0_0, _⟩, ⟨_, ⟨_, ⟨⟨h3_0, _⟩, ⟨rl, ⟨h5, ⟨h6, _⟩⟩⟩⟩⟩⟩⟩⟩ := y; have h := isRL_iff.1 h
  subst h
  rfl
theorem h122r0_0 (k : Nat) (L : Nat → VS → Option (Tr (Ex × VS))) (g0_0 : Int) (g3_0 : List Cell) (y : p122r0_0.T) : (evC (evI 1) (lc Tryd.f148 0) (I122 k L ((), (g0_0, ()), (), (), (g3_0, ()), ())) (unV (live148 0) (p122r0_0.V (z122r0_0 y)))).map (decL 5 (live148 0) (live148 1000)) = ((b122r0_0) y).map (encR (fun a => p122r0_0.V (z122r0_0 a)) X122r0_0) := by
  obtain ⟨_, ⟨⟨h0_0, _⟩, ⟨_, ⟨_, ⟨⟨h3_0, _⟩, ⟨rl, ⟨h5, ⟨h6, _⟩⟩⟩⟩⟩⟩⟩⟩ := y; kernel_rfl
theorem c122r0_0 (y : p122r0_0.T) : canV 5 (live148 0) (unV (live148 0) (p122r0_0.V (z122r0_0 y))) = p122r0_0.V (z122r0_0 y) := by
  obtain ⟨_, ⟨⟨h0_0, _⟩, ⟨_, ⟨_, ⟨⟨h3_0, _⟩, ⟨rl, ⟨h5, ⟨h6, _⟩⟩⟩⟩⟩⟩⟩⟩ := y; kernel_rfl
theorem l122r0_0 {T : p122r0_0.T → Tr (Int × List Cell × RL × List Line × List Cell)} (k : Nat) (L : Nat → VS → Option (Tr (Ex × VS))) (g0_0 : Int) (g3_0 : List Cell) (hls : ∀ x, L 0 x = p122r0_0.ls (fun a => .ite (o122r0_0 a) ((T a).map X122r0_0) .fail) x) (hS : ∀ x r, (T x).val = some r → Rounds (b122r0_0) x r) : LoopOK (evI 1) (I122 k L ((), (g0_0, ()), (), (), (g3_0, ()), ())) (lc Tryd.f148 0) :=
  loopB 0 (live148 0) (live148 1000) p122r0_0 id z122r0_0 o122r0_0 ho122r0_0 (b122r0_0) X122r0_0 T (by kernel_rfl) rfl rfl hls (h122r0_0 k L g0_0 g3_0) c122r0_0 hS
end Go.Proofs.YtmnbcnhpklejcaaDoor
namespace U
theorem pcs_nil (k : Nat) : pcs k [] = [] := by cases k <;> rfl
theorem wd_pos (c : Cl) : 1 ≤ wd c := by unfold wd; omega
theorem maxI_wd (c : Cl) : maxI c.2.1 1 = ((wd c : Nat) : Int) := by unfold maxI wd; split <;> omega
end U
namespace Go.Proofs.YtmnbcnhpklejcaaDoor
noncomputable def T122r0_0 (x : p122r0_0.T) : Tr (Int × List Cell × RL × List Line × List Cell) :=
  match x with
  | ⟨_, ⟨n, _⟩, _, _, ⟨l, _⟩, rl, out, now, _⟩ =>
    .ite (decide (1 ≤ (n : Int) ∧ (n : Int) ≤ 80 ∧ List.length (α := Line) out + List.length (α := Cell) l ≤ 1048576 ∧ (List.length (α := Cell) now : Int) ≤ (n : Int)) && U.okP (List.length (α := Cell) l) l)
      (.ret (n, [], r122_0, ((U.pcs (List.length (α := Cell) l) l).foldl (U.stepP (Int.toNat n)) (out, now)).1, ((U.pcs (List.length (α := Cell) l) l).foldl (U.stepP (Int.toNat n)) (out, now)).2)) .fail
theorem R122r0_0 (n : Nat) (h1 : 1 ≤ n) (h2 : n ≤ 80) : ∀ (k : Nat) (l : List Cell) (rl : RL) (out : List Line) (now : List Cell), U.okP k l = true → out.length + l.length ≤ 1048576 → now.length ≤ n →
    Rounds b122r0_0 ((), ((n : Int), ()), (), (), (l, ()), rl, out, now, ()) ((n : Int), [], r122_0, ((U.pcs k l).foldl (U.stepP n) (out, now)).1, ((U.pcs k l).foldl (U.stepP n) (out, now)).2)
  | k, [], rl, out, now, _, _, _ => by
    rw [U.pcs_nil]
    refine .exit ?_
    have c0 : decide ((0 : Int) < ((([] : List Cell).length : Nat) : Int)) = false := rfl
    simp only [b122r0_0, B122r0_0, Tr.val, c0, cond_false, List.foldl_nil]
  | 0, c :: l, rl, out, now, h, _, _ => by simp [U.okP] at h
  | k + 1, c :: l, rl, out, now, h, hb, hn => by
    unfold U.okP at h
    rw [Bool.and_eq_true] at h
    obtain ⟨g1, g2⟩ := h
    have g1 : U.wd c ≤ (c :: l).length := of_decide_eq_true g1
    have g0 := U.wd_pos c
    have e1 : maxI (rget celk (c :: l) (0 : Int)).2.1 1 = ((U.wd c : Nat) : Int) := U.maxI_wd c
    have e2 : sub (c :: l) 0 (U.wd c) = (c :: l).take (U.wd c) := by unfold sub; rw [List.drop_zero]
    have e3 : sub (c :: l) (U.wd c) (c :: l).length = (c :: l).drop (U.wd c) := by unfold sub; rw [List.take_length]
    have e4 : ((c :: l).take (U.wd c)).length = U.wd c := by rw [List.length_take]; omega
    have e5 : ((c :: l).drop (U.wd c)).length + U.wd c = (c :: l).length := by rw [List.length_drop]; omega
    have c0 : decide ((0 : Int) < (((c :: l).length : Nat) : Int)) = true := decide_eq_true (by simp only [List.length_cons]; omega)
    have c1 : inB (0 : Int) (c :: l).length = true := inB_nat (i := 0) (by simp)
    have c2 : decide ((0 : Int) ≤ ((U.wd c : Nat) : Int) ∧ ((U.wd c : Nat) : Int) ≤ (((c :: l).length : Nat) : Int)) = true := decide_eq_true (by omega)
    have e6 : IntKind.wrap IntKind.i64 ((now.length : Int) + ((U.wd c : Nat) : Int)) = ((now.length + U.wd c : Nat) : Int) := by rw [Go.Ev.w64 (by omega) (by omega)]; omega
    have c3 : decide ((now.length : Int) ≤ (n : Int) ∧ (n : Int) ≤ (80 : Int)) = true := decide_eq_true (by omega)
    have c4 : (out.length + 1) * 32 ≤ 140737488355328 := by omega
    have c5 : U.wd c * 48 ≤ 140737488355328 := by omega
    have c6 : (now.length + U.wd c) * 48 ≤ 140737488355328 := by omega
    unfold U.pcs
    rw [List.foldl_cons]
    have hs : ∀ s : List Line × List Cell, s = U.stepP n (out, now) ((c :: l).take (U.wd c)) → s.1.length + ((c :: l).drop (U.wd c)).length ≤ 1048576 ∧ s.2.length ≤ n →
        (b122r0_0 ((), ((n : Int), ()), (), (), (c :: l, ()), rl, out, now, ())).val = some (.inl ((), ((n : Int), ()), (), (), ((c :: l).drop (U.wd c), ()), r122_0, s.1, s.2, ())) →
        Rounds b122r0_0 ((), ((n : Int), ()), (), (), (c :: l, ()), rl, out, now, ()) ((n : Int), [], r122_0, ((U.pcs k ((c :: l).drop (U.wd c))).foldl (U.stepP n) (U.stepP n (out, now) ((c :: l).take (U.wd c)))).1, ((U.pcs k ((c :: l).drop (U.wd c))).foldl (U.stepP n) (U.stepP n (out, now) ((c :: l).take (U.wd c)))).2) := by
      intro s hs hl hv
      rw [← hs]
      exact .step hv (R122r0_0 n h1 h2 k _ r122_0 s.1 s.2 g2 hl.1 hl.2)
    by_cases p1 : n < U.wd c
    · have q1 : decide ((n : Int) < ((U.wd c : Nat) : Int)) = true := decide_eq_true (by omega)
      refine hs (out, now) ?_ ⟨by show out.length + _ ≤ _; omega, hn⟩ ?_
      · unfold U.stepP
        rw [e4, decide_eq_true p1]; rfl
      · simp only [b122r0_0, B122r0_0, Tr.val, e1, Int.toNat_natCast, e2, e3, e4, c0, c1, c2, q1, cond_true]
    · have q1 : decide ((n : Int) < ((U.wd c : Nat) : Int)) = false := decide_eq_false (by omega)
      by_cases p2 : n < now.length + U.wd c
      · have q2 : decide ((n : Int) < ((now.length + U.wd c : Nat) : Int)) = true := decide_eq_true (by omega)
        refine hs (out ++ [(U.fillL now n, true, ())], (c :: l).take (U.wd c)) ?_ ⟨by rw [List.length_append, List.length_singleton]; omega, by show List.length ((c :: l).take (U.wd c)) ≤ n; omega⟩ ?_
        · unfold U.stepP
          rw [e4, decide_eq_false p1, decide_eq_true p2]; rfl
        · simp only [b122r0_0, B122r0_0, Tr.val, e1, Int.toNat_natCast, e2, e3, e4, e6, c0, c1, c2, c3, c4, c5, q1, q2, decide_true, cond_true, cond_false]
      · have q2 : decide ((n : Int) < ((now.length + U.wd c : Nat) : Int)) = false := decide_eq_false (by omega)
        refine hs (out, now ++ (c :: l).take (U.wd c)) ?_ ⟨by show out.length + _ ≤ _; omega, by show List.length (now ++ (c :: l).take (U.wd c)) ≤ n; rw [List.length_append]; omega⟩ ?_
        · unfold U.stepP
          rw [e4, decide_eq_false p1, decide_eq_false p2]; rfl
        · simp only [b122r0_0, B122r0_0, Tr.val, e1, Int.toNat_natCast, e2, e3, e4, e6, c0, c1, c2, c6, q1, q2, decide_true, cond_true, cond_false]
theorem K122r0_0 (k : Nat) (L : Nat → VS → Option (Tr (Ex × VS))) (x : q122_0.T) (h1 : ∀ y, L 0 y = p122r0_0.ls (fun a => .ite (o122r0_0 a) ((T122r0_0 a).map X122r0_0) .fail) y) : LoopOK (evI 1) (I122 k L x) (lc Tryd.f148 0) := by
  obtain ⟨⟨_⟩, ⟨g0, _⟩, ⟨_⟩, ⟨_⟩, ⟨g3, _⟩, _⟩ := x
  refine l122r0_0 (T := T122r0_0) k L g0 g3 h1 ?_
  rintro ⟨_, ⟨n, z1⟩, z2, z3, ⟨l, z4⟩, rl, out, now, z5⟩ r hh
  obtain ⟨e1, e2⟩ := pre_val hh
  rw [Bool.and_eq_true] at e1
  obtain ⟨e1, gk⟩ := e1
  have e1 : 1 ≤ (n : Int) ∧ (n : Int) ≤ 80 ∧ List.length (α := Line) out + List.length (α := Cell) l ≤ 1048576 ∧ (List.length (α := Cell) now : Int) ≤ (n : Int) := of_decide_eq_true e1
  obtain ⟨h1, h2, h3, h4⟩ := e1
  obtain ⟨m, rfl⟩ := Int.eq_ofNat_of_zero_le (a := n) (Int.le_trans (by decide) h1)
  cases e2
  have h1 : (1 : Int) ≤ (m : Int) := h1
  have h2 : (m : Int) ≤ 80 := h2
  have h4 : (now.length : Int) ≤ (m : Int) := h4
  exact R122r0_0 m (by omega) (by omega) l.length l rl out now gk h3 (by omega)
noncomputable abbrev W122 (key : Nat) (y : VS) : Option (Tr (Ex × VS)) := bif Nat.beq key 0 then p122r0_0.ls (fun a => .ite (o122r0_0 a) ((T122r0_0 a).map X122r0_0) .fail) y else none
theorem run122 (n : Int) (l : List Cell) :
    ((evI 2 (((E122.lend 0).told 0 W122).inner (Nat.succ 4) (yldR (evI 2 ((E122.lend 0).told 0 W122).round) (unV ((E122.lend 0).live (Nat.add 500 (loopKey (rg Tryd.f122 0).body))) (q122_0.V ((), (n, ()), (), (), (l, ()), ()))).t 4)) (bodyOf Tryd.f148) (itSt ((E122.lend 0).told 0 W122) (rg Tryd.f122 0).f (unV ((E122.lend 0).live (Nat.add 500 (loopKey (rg Tryd.f122 0).body))) (q122_0.V ((), (n, ()), (), (), (l, ()), ()))) Tryd.f148 4 { ps := (rg Tryd.f122 0).ps.toList, asg := (rg Tryd.f122 0).asg, body := (rg Tryd.f122 0).body })).map fun r => (r.1, canV (Nat.succ 4) { ls := [] } r.2))
    = (Tr.ite (o122r0_0 ((), (n, ()), (), (), (l, ()), r122_0, [], [], ())) (T122r0_0 ((), (n, ()), (), (), (l, ()), r122_0, [], [], ())) .fail).map fun r => match X122r0_0 r with | (.exit _, v) => (.nrm, v) | (e, v) => (e, v) := by
  kernel_rfl
theorem env122 (n : Int) (l : List Cell) : ((E122.lend 0).told 0 W122).inner (Nat.succ (len (unV ((E122.lend 0).live (Nat.add 500 (loopKey (rg Tryd.f122 0).body))) (q122_0.V ((), (n, ()), (), (), (l, ()), ()))).h)) (yldR (evI 2 ((E122.lend 0).told 0 W122).round) (unV ((E122.lend 0).live (Nat.add 500 (loopKey (rg Tryd.f122 0).body))) (q122_0.V ((), (n, ()), (), (), (l, ()), ()))).t (len (unV ((E122.lend 0).live (Nat.add 500 (loopKey (rg Tryd.f122 0).body))) (q122_0.V ((), (n, ()), (), (), (l, ()), ()))).h)) = I122 0 W122 ((), (n, ()), (), (), (l, ()), ()) := by kernel_rfl
theorem iter122 (n : Int) (l : List Cell) : IterOK (evI 2) (evI 1) ((E122.lend 0).told 0 W122) (rg Tryd.f122 0).f (unV ((E122.lend 0).live (Nat.add 500 (loopKey (rg Tryd.f122 0).body))) (q122_0.V ((), (n, ()), (), (), (l, ()), ()))) :=
  iterOK_of (gf := 148) (caps := [3]) (fn := Tryd.f148) (lcs := [lc Tryd.f148 0]) (by kernel_rfl) (by kernel_rfl) rfl (by kernel_rfl) (by kernel_rfl)
    (by rw [env122]; exact K122r0_0 0 W122 _ fun y => rfl)
theorem range122 : RangeOK (evI 2) (E122.lend 0) (rg Tryd.f122 0) := by
  intro x tr rr h1 h2
  have h1 : q122_0.ls T122 x = some tr := h1
  unfold LP.ls at h1
  split at h1
  · rename_i a ha
    cases h1
    rw [LP.get_eq ha]
    clear ha
    obtain ⟨⟨_⟩, ⟨n, z0⟩, ⟨_⟩, ⟨_⟩, ⟨l, z1⟩, z2⟩ := a
    obtain ⟨g1, g2⟩ := pre_val h2
    rw [Bool.and_eq_true] at g1
    obtain ⟨g1, gk⟩ := g1
    have g1 : 1 ≤ (n : Int) ∧ (n : Int) ≤ 80 ∧ l.length ≤ 1048576 := of_decide_eq_true g1
    have gk : U.okP l.length l = true := gk
    have hi := congrArg Tr.val (run122 n l)
    have t0 : (Tr.ite (o122r0_0 ((), (n, ()), (), (), (l, ()), r122_0, [], [], ())) (T122r0_0 ((), (n, ()), (), (), (l, ()), r122_0, [], [], ())) .fail).val =
        some (n, [], r122_0, ((U.pcs l.length l).foldl (U.stepP (Int.toNat n)) ([], [])).1, ((U.pcs l.length l).foldl (U.stepP (Int.toNat n)) ([], [])).2) := by
      have g4 : (0 : Int) ≤ n := Int.le_trans (by decide) g1.1
      simp only [o122r0_0, isRL_self, T122r0_0, Tr.val, g1, g4, gk, List.length_nil, Nat.zero_add, show ((0 : Nat) : Int) = 0 from rfl, and_self, decide_true, Bool.and_self, cond_true]
    have hi := hi.trans ((Tr.map_val _ _).trans (congrArg (Option.map _) t0))
    clear t0
    cases g2
    exact ⟨0, W122, _, iter122 n l, range_run (k0 := 2) (g := 148) (caps := [3]) (fn := Tryd.f148) (c := bodyOf Tryd.f148) (m := 4) (by kernel_rfl) (by kernel_rfl) rfl (by kernel_rfl) (by kernel_rfl) hi (.inl rfl) (pe := none) (rl' := r122_0) rfl rfl, Prod.ext rfl (by kernel_rfl)⟩
  · cases h1
def d122 (a : List Cell) (b : Int) : Tr (List Line) :=
 let v1 : List U.Ln × List U.Cl := (List.foldl (U.stepP (Int.toNat b)) ([], []) (U.pcs (List.length a) a))
 let v2 : List U.Ln := (v1.fst)
 let v3 : List U.Cl := (v1.snd)
 let v4 : Int := ((↑(List.length v3) : Int))
 Tr.ite (decide ((1 : Int) ≤ b ∧ b ≤ (80 : Int) ∧ List.length a ≤ (1048576 : Nat)) && U.okP (List.length a) a) (Tr.ite (decide (v4 ≤ b ∧ b ≤ (80 : Int))) (Tr.ite (decide ((List.length v2 + (1 : Nat)) * (32 : Nat) ≤ (140737488355328 : Nat))) (Tr.ret (v2 ++ [(U.fillL v3 (Int.toNat b), false, ())])) Tr.fail) Tr.fail) Tr.fail
def e122 (r : List Line) : FRes := { rs := Slot.av (AV.one (Leaf.dat (Kd.sl link) r)), upd := [], new := [] }
@[reducible] def a122 : List AK := [AK.d (Kd.sl celk), AK.d (.int .i64)]
@[reducible] def b122 : List BK := []
theorem t122 (a : List Cell) (b : Int) : evFn (E122) Tryd.f122 [PM.data (Kd.sl link)] (akAV a122 (a, b, ())) (bkBs b122 ()) = (d122 a b).map e122 := by kernel_rfl
def s122 (C : akT a122 → Bool) (G : akT a122 → List Line) : FSpec := aspec a122 b122 e122 (fun x _ => C x) (fun x _ => G x)
theorem k122 {C : akT a122 → Bool} {G : akT a122 → List Line} (hd : ∀ (a : List Cell) (b : Int), C (a, b, ()) = true → (d122 a b).val = some (G (a, b, ()))) (IO : ItOK Tryd.prog (E122) := by exact itOK_none rfl) (L : ∀ c, Tryd.f122.body = some c → LsOK (evI 2) ((E122).lend 0) c := by exact fun c _ => LsOK_none rfl c) : SpecOK Tryd.prog E0 122 (s122 C G) :=
  aspec_ok (ak := a122) (bl := b122) (e := e122) (c := fun x _ => C x) (g := fun x _ => G x) (E0 := E0) (E := E122) tab AG122 rfl rfl hm Tryd.func122 (by kernel_rfl) [PM.data (Kd.sl link)] (fun X Y H => by obtain ⟨a, ⟨b, _⟩⟩ := X; exact val_of (t122 a b) (hd a b H)) IO L
end Go.Proofs.YtmnbcnhpklejcaaDoor
namespace U
def foldL (cols : Nat) (l : List Cl) : List Ln := ((pcs l.length l).foldl (stepP cols) ([], [])).1 ++ [(fillL ((pcs l.length l).foldl (stepP cols) ([], [])).2 cols, false, ())]
theorem foldl_small (cols : Nat) : ∀ (ps : List (List Cl)) (s : List Ln × List Cl), s.2.length ≤ cols → (ps.foldl (stepP cols) s).2.length ≤ cols ∧ (ps.foldl (stepP cols) s).1.length ≤ s.1.length + ps.length
  | [], s, h => ⟨h, by simp⟩
  | p :: ps, s, h => by
    rw [List.foldl_cons, List.length_cons]
    have h1 : (stepP cols s p).2.length ≤ cols ∧ (stepP cols s p).1.length ≤ s.1.length + 1 := by
      unfold stepP
      by_cases p1 : cols < p.length
      · simp only [decide_eq_true p1, cond_true]; exact ⟨h, by omega⟩
      · by_cases p2 : cols < s.2.length + p.length
        · simp only [decide_eq_false p1, decide_eq_true p2, cond_true, cond_false, List.length_append, List.length_singleton]; omega
        · simp only [decide_eq_false p1, decide_eq_false p2, cond_false, List.length_append]; omega
    have h2 := foldl_small cols ps (stepP cols s p) h1.1
    exact ⟨h2.1, by omega⟩
theorem pcs_len : ∀ (k : Nat) (l : List Cl), (pcs k l).length ≤ k
  | 0, _ => by simp [pcs]
  | k + 1, [] => by simp [pcs]
  | k + 1, c :: l => by unfold pcs; rw [List.length_cons]; have := pcs_len k ((c :: l).drop (wd c)); omega
end U
namespace Go.Proofs.YtmnbcnhpklejcaaDoor
theorem IO122 : ItOK Tryd.prog E122 := itOK_of (l := [(148, Tryd.f148)]) rfl (by
  intro p hp
  rw [List.mem_singleton] at hp
  subst hp
  exact ⟨Tryd.func148, by kernel_rfl⟩)
abbrev w122 : FSpec := s122 (fun x => decide (1 ≤ (x.2.1 : Int) ∧ (x.2.1 : Int) ≤ 80 ∧ List.length (α := Cell) x.1 ≤ 1048576) && U.okP (List.length (α := Cell) x.1) x.1) fun x => U.foldL x.2.1.toNat x.1
theorem wk122 : SpecOK Tryd.prog E0 122 w122 := by
  refine k122 (fun l n H => ?_) IO122 (L := ls_ok (lcs := []) (rgs := [rg Tryd.f122 0]) (by kernel_rfl) (by kernel_rfl) trivial range122)
  have H : (decide ((1 : Int) ≤ n ∧ n ≤ 80 ∧ l.length ≤ 1048576) && U.okP l.length l) = true := H
  have H' := H
  rw [Bool.and_eq_true] at H
  obtain ⟨h1, h2, h3⟩ := of_decide_eq_true H.1
  obtain ⟨m, rfl⟩ := Int.eq_ofNat_of_zero_le (a := n) (Int.le_trans (by decide) h1)
  have k1 := U.foldl_small m (U.pcs l.length l) ([], []) (by simp)
  have k2 := U.pcs_len l.length l
  show _ = some (U.foldL m l)
  simp only [d122, Tr.val, H', Int.toNat_natCast, cond_true]
  have k1' : ((U.pcs l.length l).foldl (U.stepP m) ([], [])).2.length ≤ m ∧ ((U.pcs l.length l).foldl (U.stepP m) ([], [])).1.length ≤ 0 + (U.pcs l.length l).length := k1
  have h2 : (m : Int) ≤ 80 := h2
  have c1 : decide ((((U.pcs l.length l).foldl (U.stepP m) ([], [])).2.length : Int) ≤ (m : Int) ∧ (m : Int) ≤ 80) = true := decide_eq_true (by omega)
  have c2 : decide ((((U.pcs l.length l).foldl (U.stepP m) ([], [])).1.length + 1) * 32 ≤ 140737488355328) = true := decide_eq_true (by omega)
  simp only [c1, c2, cond_true]
  rfl
def d69 (a : List Cell) (b : Int) : Tr (List Line × Int) :=
 let v1 : Int := ((↑(List.length a) : Int))
 let v2 : Int := ((↑(List.length a) : Int))
 Tr.ite (decide (b < (1 : Int))) (Tr.ret ([], (1 : Int))) (Tr.ite (decide ((80 : Int) < b)) (Tr.ret ([], (1 : Int))) (Tr.ite (decide ((16000 : Int) < v2)) (Tr.ret ([], (1 : Int))) (Tr.ite (U.okc a) (Tr.ite (!(U.fitC a && decide (v1 = v2))) (Tr.ret ([], (1 : Int))) (Tr.ite (decide ((1 : Int) ≤ b ∧ b ≤ (80 : Int) ∧ List.length a ≤ (1048576 : Nat)) && U.okP (List.length a) a) (Tr.ret (U.foldL (Int.toNat b) a, (0 : Int))) Tr.fail)) Tr.fail)))
def e69 (r : List Line × Int) : FRes := { rs := Slot.tup [AV.one (Leaf.dat (Kd.sl link) r.fst), AV.one (Leaf.dat (.int .i64) r.snd)], upd := [], new := [] }
@[reducible] def a69 : List AK := [AK.d (Kd.sl celk), AK.d (.int .i64)]
@[reducible] def b69 : List BK := []
theorem t69 (a : List Cell) (b : Int) : evFn (Env.withFns E0 [((31 : Nat), w31), ((122 : Nat), w122)]) Tryd.f69 [PM.data (Kd.sl link), PM.data (.int .i64)] (akAV a69 (a, b, ())) (bkBs b69 ()) = (d69 a b).map e69 := by kernel_rfl
def s69 (C : akT a69 → Bool) (G : akT a69 → List Line × Int) : FSpec := aspec a69 b69 e69 (fun x _ => C x) (fun x _ => G x)
theorem k69 {C : akT a69 → Bool} {G : akT a69 → List Line × Int} (hd : ∀ (a : List Cell) (b : Int), C (a, b, ()) = true → (d69 a b).val = some (G (a, b, ()))) (IO : ItOK Tryd.prog (Env.withFns E0 [((31 : Nat), w31), ((122 : Nat), w122)]) := by exact itOK_none rfl) (L : ∀ c, Tryd.f69.body = some c → LsOK (evI 2) ((Env.withFns E0 [((31 : Nat), w31), ((122 : Nat), w122)]).lend 0) c := by exact fun c _ => LsOK_none rfl c) : SpecOK Tryd.prog E0 69 (s69 C G) :=
  aspec_ok (ak := a69) (bl := b69) (e := e69) (c := fun x _ => C x) (g := fun x _ => G x) (E0 := E0) (E := Env.withFns E0 [((31 : Nat), w31), ((122 : Nat), w122)]) tab (.cons wk31 (.cons wk122 .nil)) rfl rfl hm Tryd.func69 (by kernel_rfl) [PM.data (Kd.sl link), PM.data (.int .i64)] (fun X Y H => by obtain ⟨a, ⟨b, _⟩⟩ := X; exact val_of (t69 a b) (hd a b H)) IO L
abbrev w69 : FSpec := s69 (fun x => bif decide ((1 : Int) ≤ (x.2.1 : Int)) && (decide ((x.2.1 : Int) ≤ 80) && decide ((List.length (α := Cell) x.1 : Int) ≤ 16000)) then U.okc x.1 && (!U.fitC x.1 || U.okP (List.length (α := Cell) x.1) x.1) else true)
  fun x => bif decide ((1 : Int) ≤ (x.2.1 : Int)) && (decide ((x.2.1 : Int) ≤ 80) && (decide ((List.length (α := Cell) x.1 : Int) ≤ 16000) && U.fitC x.1)) then (U.foldL x.2.1.toNat x.1, (0 : Int)) else ([], (1 : Int))
theorem wk69 : SpecOK Tryd.prog E0 69 w69 := k69 fun l n H => by
  have H : (bif decide ((1 : Int) ≤ n) && (decide (n ≤ 80) && decide ((l.length : Int) ≤ 16000)) then U.okc l && (!U.fitC l || U.okP l.length l) else true) = true := H
  show _ = some (bif decide ((1 : Int) ≤ n) && (decide (n ≤ 80) && (decide ((l.length : Int) ≤ 16000) && U.fitC l)) then (U.foldL n.toNat l, (0 : Int)) else ([], (1 : Int)))
  by_cases p1 : (1 : Int) ≤ n
  · by_cases p2 : n ≤ 80
    · by_cases p3 : (l.length : Int) ≤ 16000
      · simp only [p1, p2, p3, decide_true, Bool.and_self, Bool.true_and, cond_true] at H ⊢
        rw [Bool.and_eq_true] at H
        have q1 : ¬ n < 1 := by omega
        have q2 : ¬ (80 : Int) < n := by omega
        have q3 : ¬ (16000 : Int) < (l.length : Int) := by omega
        have q4 : l.length ≤ 1048576 := by omega
        simp only [d69, Tr.val, q1, q2, q3, p1, p2, q4, H.1, decide_true, decide_false, Bool.and_true, and_self, Bool.true_and, cond_true, cond_false]
        have H2 := H.2
        cases h : U.fitC l with
        | false => rfl
        | true =>
          rw [h] at H2
          have H2 : U.okP l.length l = true := H2
          rw [H2]
          rfl
      · have q1 : ¬ n < 1 := by omega
        have q2 : ¬ (80 : Int) < n := by omega
        have q3 : (16000 : Int) < (l.length : Int) := by omega
        simp only [d69, Tr.val, q1, q2, q3, p1, p2, p3, decide_true, decide_false, Bool.true_and, Bool.false_and, cond_true, cond_false]
    · have q1 : ¬ n < 1 := by omega
      have q2 : (80 : Int) < n := by omega
      simp only [d69, Tr.val, q1, q2, p1, p2, decide_true, decide_false, Bool.true_and, Bool.false_and, cond_true, cond_false]
  · have q1 : n < 1 := by omega
    simp only [d69, Tr.val, q1, p1, decide_true, decide_false, Bool.false_and, cond_true, cond_false]
end Go.Proofs.YtmnbcnhpklejcaaDoor
end
section
set_option linter.unusedVariables false
set_option linter.unusedSimpArgs false
set_option maxRecDepth 20000
set_option maxHeartbeats 4000000
open Go Go.Ev
namespace Go.Proofs.YtmnbcnhpklejcaaDoor
open Go.RowKit
namespace Le
def live148 (key : Nat) : Lv :=
  bif Nat.beq key 0 then { ls := [0, 1], wd := [⟨1001, some 0, .srow 5 (.int .u8)⟩] } else bif Nat.beq key 1000 then { ls := [] } else
  { ls := [] }
end Le
def live53 (key : Nat) : Lv :=
  bif Nat.beq key 511 then { ls := [6, 9, 19, 20, 21, 26] } else bif Nat.beq key 1511 then { ls := [6, 9, 19, 20, 21] } else
  bif Nat.beq key 6 then { ls := [6, 19, 20, 21], wd := [⟨6, none, .row 9 .str⟩] } else bif Nat.beq key 1006 then { ls := [6] } else
  bif Nat.beq key 9997 then { ls := [132] } else
  { ls := [] }
abbrev G53 : List (Nat × FSpec) := [(52, w52), (111, w111), (112, w112), (113, w113), (114, w114)]
theorem AG53 : AllFn Tryd.prog E0 G53 := .cons wk52 (.cons wk111 (.cons wk112 (.cons wk113 (.cons wk114 .nil))))
abbrev lv53 (k : Nat) : Lv := bif Nat.ble 100000 k then Le.live148 (Nat.sub k 100000) else live53 k
noncomputable abbrev M53 (ls : Nat → VS → Option (Tr (Ex × VS))) : Env := ((E0.withFns G53).withIts [(148, Tryd.f148)]).loops lv53 ls
@[reducible] def p53_0 : LP := { n := 45, sl := [.c (Leaf.row ( 0)), .d (Kd.sl (Kd.sl celk)), .d (.int .i64), .d (.int .i64)], bl := [(0, .row 9 (Kd.str))] }
@[reducible] def q53_0 : LP := { n := 45, sl := [.c (Leaf.row ( 0)), .c (Leaf.ptr ( 1) ( 0)), .d (Kd.sl (Kd.sl celk)), .d (.int .i64), .d (.int .i64), .c (Leaf.fn ( 148) [2])], bl := [(0, .row 9 (Kd.str)), (1, .tb 132 [.c (Leaf.nils)]), (2, .box [.d (Kd.sl celk)])] }
end Go.Proofs.YtmnbcnhpklejcaaDoor
namespace U
def sayP (p : List Cl) : List Int := bytesL (p.getD 0 dC).1 ++ bif decide ((p.getD 0 dC).1 = (⟨#[]⟩ : ByteArray)) then [32] else []
def sayR (l : List Cl) : List Int := (pcs l.length l).flatMap sayP
end U
namespace Go.Proofs.YtmnbcnhpklejcaaDoor
noncomputable def r53_0 : RL := { ps := (rg Tryd.f53 0).ps.toList, asg := (rg Tryd.f53 0).asg, body := (rg Tryd.f53 0).body }
@[reducible] def p53r0_0 : LP := { n := 21, sl := [.c (Leaf.yld ( 3)), .c (Leaf.ptr ( 2) ( 0))], bl := [(0, .row 9 (Kd.str)), (1, .tb 132 [.c (Leaf.srow ( 4))]), (2, .box [.d (Kd.sl celk)]), (3, .lr), (4, .row 5 (Kd.int IntKind.u8))] }
def Y53 (rows : List (List Cell)) (n i : Int) (out : List ByteArray) (u : Bool) (bs : List Int) : VS := ⟨45, [one (.row 0), one (.ptr 1 0), one (.dat (.sl (.sl celk)) rows), one (.dat (.int .i64) n), one (.dat (.int .i64) i)], [(0, .row 9 .str out), (1, .tb 132 u [.srow 2]), (2, .row 5 (.int .u8) bs)]⟩
def T53 (x : q53_0.T) : Tr (Ex × VS) :=
  match x with
  | ⟨⟨rows, n, i, _⟩, out, ⟨u, _⟩, ⟨l, _⟩, _⟩ => .ite (decide (List.length (α := Int) (U.sayR l) ≤ 140737488355328) && U.okP (List.length (α := Cell) l) l)
      (.ret (.nrm, Y53 rows n i out (u || !decide (List.length (α := Cell) l = 0)) (U.sayR l))) .fail
noncomputable abbrev N53 (ls : Nat → VS → Option (Tr (Ex × VS))) : Env := M53 fun key x => bif Nat.beq key 511 then q53_0.ls T53 x else ls key x
noncomputable abbrev I53 (ls : Nat → VS → Option (Tr (Ex × VS))) (k : Nat) (L : Nat → VS → Option (Tr (Ex × VS))) (x : q53_0.T) : Env := (((N53 ls).lend 0).told k L).inner 4 (yldR (evI 2 (((N53 ls).lend 0).told k L).round) (unV (lv53 511) (q53_0.V x)).t 3)
noncomputable def B53r0_0 (h0 : List ByteArray) (h1_u : Bool) (h2_0 : List Cell) (rl : RL) (h4 : List Int) : Tr (p53r0_0.T ⊕ (List ByteArray × Bool × List Cell × RL × List Int)) :=
 let v1 : Int := ((↑(List.length h2_0) : Int))
 let v2 : Int := (maxI (rget celk h2_0 (0 : Int)).snd.fst (1 : Int))
 let v3 : List Cell := (sub h2_0 (0 : Nat) (Int.toNat v2))
 let v4 : Bool := (inB (0 : Int) (List.length v3))
 let v5 : List Int := (List.append h4 (bytesL (rget celk v3 (0 : Int)).fst))
 let v6 : Bool := (decide ((0 : Int) ≤ v2 ∧ v2 ≤ v1))
 Tr.ite (decide ((0 : Int) < v1)) (Tr.ite (inB (0 : Int) (List.length h2_0)) (Tr.ite v6 (Tr.ite v4 (Tr.ite (decide (List.length h4 + ByteArray.size (rget celk v3 (0 : Int)).fst ≤ (140737488355328 : Nat))) (Tr.ite v4 (Tr.ite (decide ((rget celk v3 (0 : Int)).fst = { data := #[] })) (Tr.ite (decide (List.length v5 + (1 : Nat) ≤ (140737488355328 : Nat))) (Tr.ite v6 (Tr.ret (Sum.inl ((), h0, (true, ()), (sub h2_0 (Int.toNat v2) (List.length h2_0), ()), r53_0, List.append v5 [(32 : Int)], ()))) Tr.fail) Tr.fail) (Tr.ite v6 (Tr.ret (Sum.inl ((), h0, (true, ()), (sub h2_0 (Int.toNat v2) (List.length h2_0), ()), r53_0, v5, ()))) Tr.fail)) Tr.fail) Tr.fail) Tr.fail) Tr.fail) Tr.fail) (Tr.ret (Sum.inr (h0, h1_u, h2_0, r53_0, h4)))
def X53r0_0 (r : (List ByteArray × Bool × List Cell × RL × List Int)) : Ex × VS := Prod.mk (Ex.exit ( 0)) { n := 21, v := [], h := [( 0, Blk.row ( 9) Kd.str r.fst), ( 1, Blk.tb ( 132) r.snd.fst [Leaf.srow ( 4)]), ( 2, Blk.box [Leaf.dat (Kd.sl celk) r.snd.snd.fst]), ( 3, Blk.lrec false none r.snd.snd.snd.fst), ( 4, Blk.row ( 5) (Kd.int IntKind.u8) r.snd.snd.snd.snd)] }
noncomputable def b53r0_0 : p53r0_0.T → Tr (p53r0_0.T ⊕ (List ByteArray × Bool × List Cell × RL × List Int)) := fun ⟨_, ⟨h0, ⟨⟨h1_u, _⟩, ⟨⟨h2_0, _⟩, ⟨rl, ⟨h4, _⟩⟩⟩⟩⟩⟩ => B53r0_0 h0 h1_u h2_0 rl h4
noncomputable def z53r0_0 : p53r0_0.T → p53r0_0.T := fun ⟨_, ⟨h0, ⟨⟨h1_u, _⟩, ⟨⟨h2_0, _⟩, ⟨rl, ⟨h4, _⟩⟩⟩⟩⟩⟩ => ((), h0, (h1_u, ()), (h2_0, ()), r53_0, h4, ())
noncomputable def o53r0_0 : p53r0_0.T → Bool := fun ⟨_, ⟨h0, ⟨⟨h1_u, _⟩, ⟨⟨h2_0, _⟩, ⟨rl, ⟨h4, _⟩⟩⟩⟩⟩⟩ => isRL r53_0 rl
theorem ho53r0_0 (y : p53r0_0.T) (h : o53r0_0 y = true) : y = z53r0_0 y := by
  obtain ⟨_, ⟨h0, ⟨⟨h1_u, _⟩, ⟨⟨h2_0, _⟩, ⟨rl, ⟨h4, _⟩⟩⟩⟩⟩⟩ := y; have h := isRL_iff.1 h
  subst h
  rfl
theorem h53r0_0 (k : Nat) (L : Nat → VS → Option (Tr (Ex × VS))) (u2 : List (List Cell)) (u3 : Int) (u4 : Int) (g0 : List ByteArray) (g1_u : Bool) (g2_0 : List Cell) (y : p53r0_0.T) : (evC (evI 1) (lc Tryd.f148 0) ((I53 fun _ _ => none) k L ((u2, u3, u4, ()), g0, (g1_u, ()), (g2_0, ()), ())) (unV (Le.live148 0) (p53r0_0.V (z53r0_0 y)))).map (decL 4 (Le.live148 0) (Le.live148 1000)) = ((b53r0_0) y).map (encR (fun a => p53r0_0.V (z53r0_0 a)) X53r0_0) := by
  obtain ⟨_, ⟨h0, ⟨⟨h1_u, _⟩, ⟨⟨h2_0, _⟩, ⟨rl, ⟨h4, _⟩⟩⟩⟩⟩⟩ := y; kernel_rfl
theorem c53r0_0 (y : p53r0_0.T) : canV 4 (Le.live148 0) (unV (Le.live148 0) (p53r0_0.V (z53r0_0 y))) = p53r0_0.V (z53r0_0 y) := by
  obtain ⟨_, ⟨h0, ⟨⟨h1_u, _⟩, ⟨⟨h2_0, _⟩, ⟨rl, ⟨h4, _⟩⟩⟩⟩⟩⟩ := y; kernel_rfl
theorem l53r0_0 {T : p53r0_0.T → Tr (List ByteArray × Bool × List Cell × RL × List Int)} (k : Nat) (L : Nat → VS → Option (Tr (Ex × VS))) (u2 : List (List Cell)) (u3 : Int) (u4 : Int) (g0 : List ByteArray) (g1_u : Bool) (g2_0 : List Cell) (hls : ∀ x, L 0 x = p53r0_0.ls (fun a => .ite (o53r0_0 a) ((T a).map X53r0_0) .fail) x) (hS : ∀ x r, (T x).val = some r → Rounds (b53r0_0) x r) : LoopOK (evI 1) ((I53 fun _ _ => none) k L ((u2, u3, u4, ()), g0, (g1_u, ()), (g2_0, ()), ())) (lc Tryd.f148 0) :=
  loopB 0 (Le.live148 0) (Le.live148 1000) p53r0_0 id z53r0_0 o53r0_0 ho53r0_0 (b53r0_0) X53r0_0 T (by kernel_rfl) rfl rfl hls (h53r0_0 k L u2 u3 u4 g0 g1_u g2_0) c53r0_0 hS
noncomputable def T53r0_0 (x : p53r0_0.T) : Tr (List ByteArray × Bool × List Cell × RL × List Int) :=
  match x with
  | ⟨_, out, ⟨u, _⟩, ⟨l, _⟩, rl, bs, _⟩ =>
    .ite (decide (List.length (α := Int) bs + List.length (α := Int) (U.sayR l) ≤ 140737488355328) && U.okP (List.length (α := Cell) l) l)
      (.ret (out, (u || !decide (List.length (α := Cell) l = 0)), [], r53_0, List.append (α := Int) bs (U.sayR l))) .fail
end Go.Proofs.YtmnbcnhpklejcaaDoor
namespace U
theorem sayP_at {c : Cl} {l : List Cl} {n : Nat} (h : 1 ≤ n) : sayP ((c :: l).take n) = bytesL c.1 ++ bif decide (c.1 = (⟨#[]⟩ : ByteArray)) then [32] else [] := by
  cases n with
  | zero => omega
  | succ n => rfl
theorem bytesL_len (b : ByteArray) : (bytesL b).length = b.size := by simp [bytesL]
end U
namespace Go.Proofs.YtmnbcnhpklejcaaDoor
theorem R53r0_0 (out : List ByteArray) : ∀ (k : Nat) (l : List Cell) (rl : RL) (u : Bool) (bs : List Int), U.okP k l = true → bs.length + ((U.pcs k l).flatMap U.sayP).length ≤ 140737488355328 →
    Rounds b53r0_0 ((), out, (u, ()), (l, ()), rl, bs, ()) (out, (u || !decide (l.length = 0)), [], r53_0, bs ++ (U.pcs k l).flatMap U.sayP)
  | k, [], rl, u, bs, _, _ => by
    rw [U.pcs_nil]
    refine .exit ?_
    have c0 : decide ((0 : Int) < ((([] : List Cell).length : Nat) : Int)) = false := rfl
    simp only [b53r0_0, B53r0_0, Tr.val, c0, cond_false]
    simp
  | 0, c :: l, rl, u, bs, h, _ => by simp [U.okP] at h
  | k + 1, c :: l, rl, u, bs, h, hb => by
    unfold U.okP at h
    rw [Bool.and_eq_true] at h
    obtain ⟨g1, g2⟩ := h
    have g1 : U.wd c ≤ (c :: l).length := of_decide_eq_true g1
    have g0 := U.wd_pos c
    have e1 : maxI (rget celk (c :: l) (0 : Int)).2.1 1 = ((U.wd c : Nat) : Int) := U.maxI_wd c
    have e2 : sub (c :: l) 0 (U.wd c) = (c :: l).take (U.wd c) := by unfold sub; rw [List.drop_zero]
    have e3 : sub (c :: l) (U.wd c) (c :: l).length = (c :: l).drop (U.wd c) := by unfold sub; rw [List.take_length]
    have e4 : ((c :: l).take (U.wd c)).length = U.wd c := by rw [List.length_take]; omega
    have e7 : rget celk ((c :: l).take (U.wd c)) (0 : Int) = c := by
      obtain ⟨n, hn⟩ : ∃ n, U.wd c = n + 1 := ⟨U.wd c - 1, by omega⟩
      rw [hn]; rfl
    have c0 : decide ((0 : Int) < (((c :: l).length : Nat) : Int)) = true := decide_eq_true (by simp only [List.length_cons]; omega)
    have c1 : inB (0 : Int) (c :: l).length = true := inB_nat (i := 0) (by simp)
    have c3 : inB (0 : Int) (U.wd c) = true := inB_nat (i := 0) (by omega)
    have c2 : decide ((0 : Int) ≤ ((U.wd c : Nat) : Int) ∧ ((U.wd c : Nat) : Int) ≤ (((c :: l).length : Nat) : Int)) = true := decide_eq_true (by omega)
    unfold U.pcs at hb ⊢
    rw [List.flatMap_cons, U.sayP_at g0] at hb ⊢
    have hz : (u || !decide ((c :: l).length = 0)) = true := by simp
    have hz2 : ∀ m : List Cell, (true || !decide (m.length = 0)) = true := fun m => rfl
    rw [hz]
    have ih := R53r0_0 out k ((c :: l).drop (U.wd c)) r53_0 true (bs ++ (bytesL c.1 ++ bif decide (c.1 = (⟨#[]⟩ : ByteArray)) then [32] else [])) g2 (by rw [List.length_append] at hb ⊢; omega)
    rw [hz2, List.append_assoc] at ih
    refine .step ?_ ih
    rw [List.length_append, List.length_append, U.bytesL_len] at hb
    by_cases p : c.1 = (⟨#[]⟩ : ByteArray)
    · rw [decide_eq_true p] at hb
      have hb : bs.length + (c.1.size + 1 + ((U.pcs k ((c :: l).drop (U.wd c))).flatMap U.sayP).length) ≤ 140737488355328 := hb
      have k1 : bs.length + c.1.size ≤ 140737488355328 := by omega
      have k2 : (List.append bs (bytesL c.1)).length + 1 ≤ 140737488355328 := by
        have : (List.append bs (bytesL c.1)).length = bs.length + c.1.size := by rw [← U.bytesL_len c.1]; exact List.length_append
        omega
      simp only [b53r0_0, B53r0_0, Tr.val, e1, Int.toNat_natCast, e2, e3, e4, e7, c0, c1, c2, c3, k1, k2, decide_true, cond_true]
      simp only [p, decide_true, cond_true]
      show some (Sum.inl ((), out, (true, ()), (_, ()), r53_0, (bs ++ bytesL _) ++ [32], ())) = _
      rw [List.append_assoc]
    · rw [decide_eq_false p] at hb
      have hb : bs.length + (c.1.size + 0 + ((U.pcs k ((c :: l).drop (U.wd c))).flatMap U.sayP).length) ≤ 140737488355328 := hb
      have k1 : bs.length + c.1.size ≤ 140737488355328 := by omega
      simp only [b53r0_0, B53r0_0, Tr.val, e1, Int.toNat_natCast, e2, e3, e4, e7, c0, c1, c2, c3, k1, decide_true, cond_true]
      simp only [p, decide_false, cond_false, List.append_nil]
      rfl
theorem K53r0_0 (k : Nat) (L : Nat → VS → Option (Tr (Ex × VS))) (x : q53_0.T) (h1 : ∀ y, L 0 y = p53r0_0.ls (fun a => .ite (o53r0_0 a) ((T53r0_0 a).map X53r0_0) .fail) y) : LoopOK (evI 1) (I53 (fun _ _ => none) k L x) (lc Tryd.f148 0) := by
  obtain ⟨⟨u3, u4, u5, _⟩, g0, ⟨g1, _⟩, ⟨g2, _⟩, _⟩ := x
  refine l53r0_0 (T := T53r0_0) k L u3 u4 u5 g0 g1 g2 h1 ?_
  rintro ⟨_, out, ⟨u, z1⟩, ⟨l, z2⟩, rl, bs, z3⟩ r hh
  obtain ⟨e1, e2⟩ := pre_val hh
  rw [Bool.and_eq_true] at e1
  obtain ⟨e1, gk⟩ := e1
  have e1 : bs.length + (U.sayR l).length ≤ 140737488355328 := of_decide_eq_true e1
  cases e2
  exact R53r0_0 out l.length l rl u bs gk e1
noncomputable abbrev W53 (key : Nat) (y : VS) : Option (Tr (Ex × VS)) := bif Nat.beq key 0 then p53r0_0.ls (fun a => .ite (o53r0_0 a) ((T53r0_0 a).map X53r0_0) .fail) y else none
def B53_0 (x1 : List (List Cell)) (x2 : Int) (x3 : Int) (h0 : List ByteArray) : Tr (p53_0.T ⊕ (List ByteArray)) :=
 let v1 : List Int := (U.sayR (rget (Kd.sl celk) x1 x3))
 Tr.ite (decide (x3 < x2)) (Tr.ite (inB x3 (List.length x1)) (Tr.ite (decide (List.length v1 ≤ (140737488355328 : Nat)) && U.okP (List.length (rget (Kd.sl celk) x1 x3)) (rget (Kd.sl celk) x1 x3)) (Tr.ite (decide ((List.length h0 + (1 : Nat)) * (16 : Nat) ≤ (140737488355328 : Nat))) (Tr.ret (Sum.inl ((x1, x2, IntKind.wrap IntKind.i64 (x3 + (1 : Int)), ()), h0 ++ [strOf v1], ()))) Tr.fail) Tr.fail) Tr.fail) (Tr.ret (Sum.inr h0))
def X53_0 (r : (List ByteArray)) : Ex × VS := Prod.mk (Ex.exit ( 0)) { n := 45, v := [Slot.av (AV.one (Leaf.row ( 0)))], h := [( 0, Blk.row ( 9) Kd.str r)] }
def b53_0 : p53_0.T → Tr (p53_0.T ⊕ (List ByteArray)) := fun ⟨⟨x1, ⟨x2, ⟨x3, _⟩⟩⟩, ⟨h0, _⟩⟩ => B53_0 x1 x2 x3 h0
theorem h53_0 (ls : Nat → VS → Option (Tr (Ex × VS))) (x : p53_0.T) : (evC (evI 2) (lc Tryd.f53 0) (Env.lend (N53 ls) 0) (unV (live53 6) (p53_0.V x))).map (decL 0 (live53 6) (live53 1006)) = (b53_0 x).map (encR p53_0.V X53_0) := by
  obtain ⟨⟨x1, ⟨x2, ⟨x3, _⟩⟩⟩, ⟨h0, _⟩⟩ := x; kernel_rfl
theorem c53_0 (x : p53_0.T) : canV 0 (live53 6) (unV (live53 6) (p53_0.V x)) = p53_0.V x := by
  obtain ⟨⟨x1, ⟨x2, ⟨x3, _⟩⟩⟩, ⟨h0, _⟩⟩ := x; kernel_rfl
theorem l53_0 {T : p53_0.T → Tr (List ByteArray)} {ls : Nat → VS → Option (Tr (Ex × VS))} (hls : ∀ x, (Env.lend (N53 ls) 0).ls 6 x = p53_0.ls (fun a => (T a).map X53_0) x) (hS : ∀ x r, (T x).val = some r → Rounds b53_0 x r) : LoopOK (evI 2) (Env.lend (N53 ls) 0) (lc Tryd.f53 0) :=
  loopA 6 (live53 6) (live53 1006) p53_0 b53_0 X53_0 T (by kernel_rfl) rfl rfl hls (h53_0 ls) c53_0 hS
end Go.Proofs.YtmnbcnhpklejcaaDoor
namespace U
def okR (l : List Cl) : Bool := decide ((sayR l).length ≤ 140737488355328) && okP l.length l
end U
namespace Go.Proofs.YtmnbcnhpklejcaaDoor
def T53_0 (x : p53_0.T) : Tr (List ByteArray) :=
  match x with
  | ⟨⟨rows, n, i, _⟩, out, _⟩ => .ite (decide ((n : Int) = (List.length (α := List Cell) rows : Int) ∧ (i : Int) = 0 ∧ List.length (α := ByteArray) out + List.length (α := List Cell) rows ≤ 1048576) && List.all (α := List Cell) rows U.okR)
      (.ret (List.append (α := ByteArray) out (List.map (α := List Cell) (fun l => strOf (U.sayR l)) rows))) .fail
noncomputable abbrev E53 : Env := N53 fun key x => bif Nat.beq key 6 then p53_0.ls (fun a => (T53_0 a).map X53_0) x else none
theorem R53_0 (rows : List (List Cell)) (hl : rows.length ≤ 1048576) (ha : rows.all U.okR = true) : ∀ (k i : Nat) (out : List ByteArray), i + k = rows.length → out.length + k ≤ 1048576 →
    Rounds b53_0 ((rows, (rows.length : Int), (i : Int), ()), out, ()) (out ++ (rows.drop i).map fun l => strOf (U.sayR l))
  | 0, i, out, e, _ => by
    have e : i = rows.length := by omega
    subst e
    rw [List.drop_length]
    refine .exit ?_
    have c : decide ((rows.length : Int) < (rows.length : Int)) = false := decide_eq_false (by omega)
    simp only [b53_0, B53_0, Tr.val, c, cond_false, List.map_nil, List.append_nil]
  | k + 1, i, out, e, hb => by
    have hi : i < rows.length := by omega
    have er : rget (.sl celk) rows (i : Int) = rows[i] := by rw [rget_nat]; exact getD_el hi
    have hd : rows.drop i = rows[i] :: rows.drop (i + 1) := List.drop_eq_getElem_cons hi
    have w : IntKind.wrap IntKind.i64 ((i : Int) + 1) = ((i + 1 : Nat) : Int) := wrap64_nat (show i ≤ 1048576 by omega)
    have c1 : decide ((i : Int) < (rows.length : Int)) = true := decide_eq_true (by omega)
    have ok : U.okR rows[i] = true := List.all_eq_true.1 ha _ (List.getElem_mem hi)
    have c3 : decide ((out.length + 1) * 16 ≤ 140737488355328) = true := decide_eq_true (by omega)
    have ih := R53_0 rows hl ha k (i + 1) (out ++ [strOf (U.sayR rows[i])]) (by omega) (by rw [List.length_append, List.length_singleton]; omega)
    rw [hd, List.map_cons]
    rw [List.append_assoc, List.singleton_append] at ih
    refine .step ?_ ih
    have ok : (decide ((U.sayR rows[i]).length ≤ 140737488355328) && U.okP rows[i].length rows[i]) = true := ok
    simp only [b53_0, B53_0, Tr.val, inB_nat hi, er, w, c1, c3, ok, cond_true]
theorem L53_0 : LoopOK (evI 2) (E53.lend 0) (lc Tryd.f53 0) := by
  refine l53_0 (T := T53_0) (fun x => rfl) ?_
  rintro ⟨⟨rows, n, i, z⟩, out, z1⟩ r hh
  obtain ⟨g1, g2⟩ := pre_val hh
  rw [Bool.and_eq_true] at g1
  obtain ⟨g1, ga⟩ := g1
  have g1 : (n : Int) = (rows.length : Int) ∧ (i : Int) = 0 ∧ out.length + rows.length ≤ 1048576 := of_decide_eq_true g1
  obtain ⟨rfl, rfl, e3⟩ := g1
  cases g2
  exact R53_0 rows (by omega) ga rows.length 0 out (by omega) e3
theorem run53 (rows : List (List Cell)) (n i : Int) (out : List ByteArray) (u : Bool) (l : List Cell) :
    ((evI 2 (((E53.lend 0).told 0 W53).inner (Nat.succ 3) (yldR (evI 2 ((E53.lend 0).told 0 W53).round) (unV ((E53.lend 0).live (Nat.add 500 (loopKey (rg Tryd.f53 0).body))) (q53_0.V ((rows, n, i, ()), out, (u, ()), (l, ()), ()))).t 3)) (bodyOf Tryd.f148) (itSt ((E53.lend 0).told 0 W53) (rg Tryd.f53 0).f (unV ((E53.lend 0).live (Nat.add 500 (loopKey (rg Tryd.f53 0).body))) (q53_0.V ((rows, n, i, ()), out, (u, ()), (l, ()), ()))) Tryd.f148 3 { ps := (rg Tryd.f53 0).ps.toList, asg := (rg Tryd.f53 0).asg, body := (rg Tryd.f53 0).body })).map fun r => (r.1, canV (Nat.succ 3) { ls := [] } r.2))
    = (Tr.ite (o53r0_0 ((), out, (u, ()), (l, ()), r53_0, [], ())) (T53r0_0 ((), out, (u, ()), (l, ()), r53_0, [], ())) .fail).map fun r => match X53r0_0 r with | (.exit _, v) => (.nrm, v) | (e, v) => (e, v) := by
  kernel_rfl
theorem env53 (rows : List (List Cell)) (n i : Int) (out : List ByteArray) (u : Bool) (l : List Cell) : ((E53.lend 0).told 0 W53).inner (Nat.succ (len (unV ((E53.lend 0).live (Nat.add 500 (loopKey (rg Tryd.f53 0).body))) (q53_0.V ((rows, n, i, ()), out, (u, ()), (l, ()), ()))).h)) (yldR (evI 2 ((E53.lend 0).told 0 W53).round) (unV ((E53.lend 0).live (Nat.add 500 (loopKey (rg Tryd.f53 0).body))) (q53_0.V ((rows, n, i, ()), out, (u, ()), (l, ()), ()))).t (len (unV ((E53.lend 0).live (Nat.add 500 (loopKey (rg Tryd.f53 0).body))) (q53_0.V ((rows, n, i, ()), out, (u, ()), (l, ()), ()))).h)) = I53 (fun _ _ => none) 0 W53 ((rows, n, i, ()), out, (u, ()), (l, ()), ()) := by kernel_rfl
theorem iter53 (rows : List (List Cell)) (n i : Int) (out : List ByteArray) (u : Bool) (l : List Cell) : IterOK (evI 2) (evI 1) ((E53.lend 0).told 0 W53) (rg Tryd.f53 0).f (unV ((E53.lend 0).live (Nat.add 500 (loopKey (rg Tryd.f53 0).body))) (q53_0.V ((rows, n, i, ()), out, (u, ()), (l, ()), ()))) :=
  iterOK_of (gf := 148) (caps := [2]) (fn := Tryd.f148) (lcs := [lc Tryd.f148 0]) (by kernel_rfl) (by kernel_rfl) rfl (by kernel_rfl) (by kernel_rfl)
    (by rw [env53]; exact K53r0_0 0 W53 _ fun y => rfl)
theorem range53 : RangeOK (evI 2) (E53.lend 0) (rg Tryd.f53 0) := by
  intro x tr rr h1 h2
  have h1 : q53_0.ls T53 x = some tr := h1
  unfold LP.ls at h1
  split at h1
  · rename_i a ha
    cases h1
    rw [LP.get_eq ha]
    clear ha
    obtain ⟨⟨rows, n, i, z⟩, out, ⟨u, z0⟩, ⟨l, z1⟩, z2⟩ := a
    obtain ⟨g1, g2⟩ := pre_val h2
    rw [Bool.and_eq_true] at g1
    obtain ⟨g1, gk⟩ := g1
    have g1 : (U.sayR l).length ≤ 140737488355328 := of_decide_eq_true g1
    have gk : U.okP l.length l = true := gk
    have hi := congrArg Tr.val (run53 rows n i out u l)
    have t0 : (Tr.ite (o53r0_0 ((), out, (u, ()), (l, ()), r53_0, [], ())) (T53r0_0 ((), out, (u, ()), (l, ()), r53_0, [], ())) .fail).val = some (out, (u || !decide (l.length = 0)), [], r53_0, U.sayR l) := by
      simp only [o53r0_0, isRL_self, T53r0_0, Tr.val, g1, gk, List.length_nil, Nat.zero_add, decide_true, Bool.and_self, cond_true]
      rfl
    have hi := hi.trans ((Tr.map_val _ _).trans (congrArg (Option.map _) t0))
    clear t0
    cases g2
    exact ⟨0, W53, _, iter53 rows n i out u l, range_run (k0 := 2) (g := 148) (caps := [2]) (fn := Tryd.f148) (c := bodyOf Tryd.f148) (m := 3) (by kernel_rfl) (by kernel_rfl) rfl (by kernel_rfl) (by kernel_rfl) hi (.inl rfl) (pe := none) (rl' := r53_0) rfl rfl, Prod.ext rfl (by kernel_rfl)⟩
  · cases h1
def d53 (a : List Line) : Tr (List ByteArray × Int) :=
 let v1 : List (List Cell) × Int := (bif U.may a then (U.joinL a [], (0 : Int)) else ([], (1 : Int)))
 let v2 : List (List Cell) := (v1.fst)
 let v3 : Int := (v1.snd)
 let v4 : Int := ((↑(List.length v2) : Int))
 let v5 : Int := ((↑(List.length v2) : Int))
 Tr.ite (U.okl a && decide (U.cells a ≤ (1048576 : Nat))) (Tr.ite (!decide (v3 = (0 : Int))) (Tr.ret ([], v3)) (Tr.ite (decide (v5 = v4 ∧ (0 : Int) = (0 : Int) ∧ (0 : Nat) + List.length v2 ≤ (1048576 : Nat)) && List.all v2 U.okR) (Tr.ret (List.append [] (List.map (fun (l : List Cell) => strOf (U.sayR l)) v2), (0 : Int))) Tr.fail)) Tr.fail
def e53 (r : List ByteArray × Int) : FRes := { rs := Slot.tup [AV.one (Leaf.dat (Kd.sl Kd.str) r.fst), AV.one (Leaf.dat (.int .i64) r.snd)], upd := [], new := [] }
@[reducible] def a53 : List AK := [AK.d (Kd.sl link)]
@[reducible] def b53 : List BK := []
theorem t53 (a : List Line) : evFn (E53) Tryd.f53 [PM.data (Kd.sl Kd.str), PM.data (.int .i64)] (akAV a53 (a, ())) (bkBs b53 ()) = (d53 a).map e53 := by kernel_rfl
def s53 (C : akT a53 → Bool) (G : akT a53 → List ByteArray × Int) : FSpec := aspec a53 b53 e53 (fun x _ => C x) (fun x _ => G x)
theorem k53 {C : akT a53 → Bool} {G : akT a53 → List ByteArray × Int} (hd : ∀ (a : List Line), C (a, ()) = true → (d53 a).val = some (G (a, ()))) (IO : ItOK Tryd.prog (E53) := by exact itOK_none rfl) (L : ∀ c, Tryd.f53.body = some c → LsOK (evI 2) ((E53).lend 0) c := by exact fun c _ => LsOK_none rfl c) : SpecOK Tryd.prog E0 53 (s53 C G) :=
  aspec_ok (ak := a53) (bl := b53) (e := e53) (c := fun x _ => C x) (g := fun x _ => G x) (E0 := E0) (E := E53) tab AG53 rfl rfl hm Tryd.func53 (by kernel_rfl) [PM.data (Kd.sl Kd.str), PM.data (.int .i64)] (fun X Y H => by obtain ⟨a, _⟩ := X; exact val_of (t53 a) (hd a H)) IO L
theorem IO53 : ItOK Tryd.prog E53 := itOK_of (l := [(148, Tryd.f148)]) rfl (by
  intro p hp
  rw [List.mem_singleton] at hp
  subst hp
  exact ⟨Tryd.func148, by kernel_rfl⟩)
abbrev w53 : FSpec := s53 (fun x => U.okl x.1 && (decide (U.cells x.1 ≤ 1048576) && (!U.may x.1 || (decide (List.length (α := List Cell) (U.joinL x.1 []) ≤ 1048576) && List.all (α := List Cell) (U.joinL x.1 []) U.okR))))
  fun x => bif U.may x.1 then (List.map (α := List Cell) (fun l => strOf (U.sayR l)) (U.joinL x.1 []), (0 : Int)) else ([], (1 : Int))
theorem wk53 : SpecOK Tryd.prog E0 53 w53 := by
  refine k53 (fun l H => ?_) IO53 (L := ls_ok (lcs := [lc Tryd.f53 0]) (rgs := [rg Tryd.f53 0]) (by kernel_rfl) (by kernel_rfl) L53_0 range53)
  have H : (U.okl l && (decide (U.cells l ≤ 1048576) && (!U.may l || (decide ((U.joinL l []).length ≤ 1048576) && (U.joinL l []).all U.okR)))) = true := H
  rw [Bool.and_eq_true, Bool.and_eq_true] at H
  obtain ⟨gk, g2, g3⟩ := H
  show _ = some (bif U.may l then ((U.joinL l []).map (fun l => strOf (U.sayR l)), (0 : Int)) else ([], (1 : Int)))
  cases hm : U.may l with
  | false => simp only [d53, Tr.val, gk, g2, hm, Bool.and_self, cond_true, cond_false, show ¬ ((1 : Int) = 0) by decide, decide_false, Bool.not_false]
  | true =>
    rw [hm] at g3
    have g3 : (decide ((U.joinL l []).length ≤ 1048576) && (U.joinL l []).all U.okR) = true := g3
    rw [Bool.and_eq_true] at g3
    have g4 : (U.joinL l []).length ≤ 1048576 := of_decide_eq_true g3.1
    simp only [d53, Tr.val, gk, g2, hm, g3.2, g4, Nat.zero_add, and_self, Bool.and_self, cond_true, cond_false, decide_true, Bool.not_true]
    rfl
def d54 : Tr (Bool) :=
 Tr.ite true (Tr.ite true (Tr.ite true (Tr.ite true (Tr.ite true (Tr.ite true (Tr.ite true (Tr.ite true (Tr.ite true (Tr.ite true (Tr.ite true (Tr.ret true) Tr.fail) (Tr.ret false)) (Tr.ret false)) Tr.fail) (Tr.ret false)) Tr.fail) (Tr.ret false)) (Tr.ret false)) (Tr.ret false)) Tr.fail) Tr.fail
def e54 (r : Bool) : FRes := { rs := Slot.av (AV.one (Leaf.dat Kd.bool r)), upd := [], new := [] }
@[reducible] def a54 : List AK := []
@[reducible] def b54 : List BK := []
theorem t54 : evFn (Env.withFns E0 [((69 : Nat), w69), ((53 : Nat), w53)]) Tryd.f54 [PM.data Kd.bool] (akAV a54 ()) (bkBs b54 ()) = (d54).map e54 := by kernel_rfl
def s54' (G : akT a54 → Bool) : FSpec := aspec0 a54 b54 e54 (fun x _ => G x)
theorem k54' {G : akT a54 → Bool} (hd : (d54).val = some (G ())) (IO : ItOK Tryd.prog (Env.withFns E0 [((69 : Nat), w69), ((53 : Nat), w53)]) := by exact itOK_none rfl) (L : ∀ c, Tryd.f54.body = some c → LsOK (evI 2) ((Env.withFns E0 [((69 : Nat), w69), ((53 : Nat), w53)]).lend 0) c := by exact fun c _ => LsOK_none rfl c) : SpecOK Tryd.prog E0 54 (s54' G) :=
  aspec0_ok (ak := a54) (bl := b54) (e := e54) (g := fun x _ => G x) (E0 := E0) (E := Env.withFns E0 [((69 : Nat), w69), ((53 : Nat), w53)]) tab (.cons wk69 (.cons wk53 .nil)) rfl rfl hm Tryd.func54 (by kernel_rfl) [PM.data Kd.bool] (fun X Y => by exact val_of (t54) (hd)) IO L
abbrev w54 : FSpec := s54' fun _ => true
theorem wk54 : SpecOK Tryd.prog E0 54 w54 := k54' rfl
end Go.Proofs.YtmnbcnhpklejcaaDoor
end
section
set_option linter.unusedVariables false
set_option linter.unusedSimpArgs false
set_option maxRecDepth 20000
set_option maxHeartbeats 4000000
open Go Go.Ev
namespace Go.Ev
theorem Rounds.mapA {α β ρ τ : Type} {B : τ → Tr (τ ⊕ ρ)} (xs : List α) (st : Nat → List β → τ) (g : α → β) (fin : List β → ρ) (N : Nat)
    (hs : ∀ i s (h : i < xs.length), s.length + (xs.length - i) ≤ N → (B (st i s)).val = some (.inl (st (i + 1) (s ++ [g xs[i]])))) (he : ∀ s, (B (st xs.length s)).val = some (.inr (fin s))) (s0 : List β) (h0 : s0.length + xs.length ≤ N) :
    Rounds B (st 0 s0) (fin (s0 ++ xs.map g)) := by
  have := Rounds.fold0 (B := B) xs st (fun s c => s ++ [g c]) fin (fun i s => s.length + (xs.length - i) ≤ N) s0 (by omega) (fun i s hi hv => ⟨hs i s hi hv, by simp only [List.length_append, List.length_singleton]; omega⟩) (fun s _ => he s)
  have e : ∀ (l : List α) (a : List β), l.foldl (fun s c => s ++ [g c]) a = a ++ l.map g := by
    intro l
    induction l with
    | nil => intro a; simp
    | cons x l ih => intro a; rw [List.foldl_cons, ih]; simp
  rwa [e] at this
theorem snocRec {α : Type} {p : List α → Prop} (h0 : p []) (h1 : ∀ l a, p l → p (l ++ [a])) (l : List α) : p l := by
  have : ∀ m : List α, p m.reverse := by
    intro m
    induction m with
    | nil => exact h0
    | cons a m ih => rw [List.reverse_cons]; exact h1 _ _ ih
  have h := this l.reverse
  rwa [List.reverse_reverse] at h
end Go.Ev
namespace Go.Proofs.YtmnbcnhpklejcaaDoor
open Go.RowKit
def live68 (key : Nat) : Lv :=
  bif Nat.beq key 3 then { ls := [5, 13, 14, 15], wd := [⟨5, none, .row 48 celk⟩] } else bif Nat.beq key 1003 then { ls := [5] } else
  { ls := [] }
abbrev M68 (ls : Nat → VS → Option (Tr (Ex × VS))) : Env := E0.loops live68 ls
@[reducible] def p68_0 : LP := { n := 33, sl := [.c (Leaf.row ( 0)), .d (Kd.sl celk), .d (.int .i64), .d (.int .i64)], bl := [(0, .row 48 (celk))] }
def B68_0 (x1 : List Cell) (x2 : Int) (x3 : Int) (h0 : List Cell) : Tr (p68_0.T ⊕ (List Cell)) :=
 let v1 : Int := ((↑(ByteArray.size (rget celk x1 x3).fst) : Int))
 let v2 : Int := (minI v1 (20 : Int))
 Tr.ite (decide (x3 < x2)) (Tr.ite (inB x3 (List.length x1)) (Tr.ite (decide ((0 : Int) ≤ v2 ∧ v2 ≤ v1)) (Tr.ite (decide ((List.length h0 + (1 : Nat)) * (48 : Nat) ≤ (140737488355328 : Nat))) (Tr.ret (Sum.inl ((x1, x2, IntKind.wrap IntKind.i64 (x3 + (1 : Int)), ()), h0 ++ [(ByteArray.extract (rget celk x1 x3).fst (0 : Nat) (Int.toNat v2), (rget celk x1 x3).snd)], ()))) Tr.fail) Tr.fail) Tr.fail) (Tr.ret (Sum.inr h0))
def X68_0 (r : (List Cell)) : Ex × VS := Prod.mk (Ex.exit ( 0)) { n := 33, v := [Slot.av (AV.one (Leaf.row ( 0)))], h := [( 0, Blk.row ( 48) celk r)] }
def b68_0 : p68_0.T → Tr (p68_0.T ⊕ (List Cell)) := fun ⟨⟨x1, ⟨x2, ⟨x3, _⟩⟩⟩, ⟨h0, _⟩⟩ => B68_0 x1 x2 x3 h0
theorem h68_0 (ls : Nat → VS → Option (Tr (Ex × VS))) (x : p68_0.T) : (evC (evI 2) (lc Tryd.f68 0) (Env.lend (M68 ls) 0) (unV (live68 3) (p68_0.V x))).map (decL 0 (live68 3) (live68 1003)) = (b68_0 x).map (encR p68_0.V X68_0) := by
  obtain ⟨⟨x1, ⟨x2, ⟨x3, _⟩⟩⟩, ⟨h0, _⟩⟩ := x; kernel_rfl
theorem c68_0 (x : p68_0.T) : canV 0 (live68 3) (unV (live68 3) (p68_0.V x)) = p68_0.V x := by
  obtain ⟨⟨x1, ⟨x2, ⟨x3, _⟩⟩⟩, ⟨h0, _⟩⟩ := x; kernel_rfl
theorem l68_0 {T : p68_0.T → Tr (List Cell)} {ls : Nat → VS → Option (Tr (Ex × VS))} (hls : ∀ x, (Env.lend (M68 ls) 0).ls 3 x = p68_0.ls (fun a => (T a).map X68_0) x) (hS : ∀ x r, (T x).val = some r → Rounds b68_0 x r) : LoopOK (evI 2) (Env.lend (M68 ls) 0) (lc Tryd.f68 0) :=
  loopA 3 (live68 3) (live68 1003) p68_0 b68_0 X68_0 T (by kernel_rfl) rfl rfl hls (h68_0 ls) c68_0 hS
def T68 (x : p68_0.T) : Tr (List Cell) :=
  match x with
  | ⟨⟨l, n, i, _⟩, s, _⟩ => .ite (decide ((n : Int) = (List.length (α := Cell) l : Int) ∧ (i : Int) = 0 ∧ List.length (α := Cell) s + List.length (α := Cell) l ≤ 1048576)) (.ret (List.append (α := Cell) s (List.map (α := Cell) U.cutC l))) .fail
abbrev E68 : Env := M68 fun key x => bif Nat.beq key 3 then p68_0.ls (fun a => (T68 a).map X68_0) x else none
theorem L68 : LoopOK (evI 2) (E68.lend 0) (lc Tryd.f68 0) := by
  refine l68_0 (T := T68) (fun x => rfl) ?_
  rintro ⟨⟨l, n, i, z⟩, s, z1⟩ r hh
  obtain ⟨g1, g2⟩ := pre_val hh
  have g1 : (n : Int) = (l.length : Int) ∧ (i : Int) = 0 ∧ s.length + l.length ≤ 1048576 := of_decide_eq_true g1
  obtain ⟨rfl, rfl, e3⟩ := g1
  cases g2
  refine Rounds.mapA (B := b68_0) l (fun i s => ((l, (l.length : Int), (i : Int), ()), s, ())) U.cutC (fun s => s) 1048576 (fun i s hi hv => ?_) (fun s => ?_) s e3
  · have e : rget celk l (i : Int) = l[i] := by rw [rgetC]; exact getD_el hi
    have e6 : minI (l[i].1.size : Int) 20 = ((min l[i].1.size 20 : Nat) : Int) := minI_nat _ 20
    have e7 : decide ((0 : Int) ≤ ((min l[i].1.size 20 : Nat) : Int) ∧ ((min l[i].1.size 20 : Nat) : Int) ≤ (l[i].1.size : Int)) = true := decide_eq_true (by omega)
    have e8 : decide ((s.length + 1) * 48 ≤ 140737488355328) = true := decide_eq_true (by omega)
    have e9 : decide ((i : Int) < (l.length : Int)) = true := decide_eq_true (by omega)
    simp only [b68_0, B68_0, Tr.val, e, e6, e7, e8, e9, inB_nat hi, Int.toNat_natCast, cond_true, wrap64_nat (show i ≤ 1048576 by omega)]
    rfl
  · simp only [b68_0, B68_0, Tr.val, show ¬ ((l.length : Int) < (l.length : Int)) by omega, decide_false, cond_false]
def d68 (a : List Cell) (b : Int) : Tr (List Cell) :=
 let v1 : Int := ((↑(List.length a) : Int))
 let v2 : Int := (minI v1 b)
 let v3 : List Cell := (sub a (0 : Nat) (Int.toNat v2))
 let v4 : Int := ((↑(List.length v3) : Int))
 let v5 : Int := ((↑(List.length v3) : Int))
 Tr.ite (decide ((0 : Int) ≤ v2 ∧ v2 ≤ v1)) (Tr.ite (decide (v5 = v4 ∧ (0 : Int) = (0 : Int) ∧ (0 : Nat) + List.length v3 ≤ (1048576 : Nat))) (Tr.ret (List.append [] (List.map U.cutC v3))) Tr.fail) Tr.fail
def e68 (r : List Cell) : FRes := { rs := Slot.av (AV.one (Leaf.dat (Kd.sl celk) r)), upd := [], new := [] }
@[reducible] def a68 : List AK := [AK.d (Kd.sl celk), AK.d (.int .i64)]
@[reducible] def b68 : List BK := []
theorem t68 (a : List Cell) (b : Int) : evFn (E68) Tryd.f68 [PM.data (Kd.sl celk)] (akAV a68 (a, b, ())) (bkBs b68 ()) = (d68 a b).map e68 := by kernel_rfl
def s68 (C : akT a68 → Bool) (G : akT a68 → List Cell) : FSpec := aspec a68 b68 e68 (fun x _ => C x) (fun x _ => G x)
theorem k68 {C : akT a68 → Bool} {G : akT a68 → List Cell} (hd : ∀ (a : List Cell) (b : Int), C (a, b, ()) = true → (d68 a b).val = some (G (a, b, ()))) (IO : ItOK Tryd.prog (E68) := by exact itOK_none rfl) (L : ∀ c, Tryd.f68.body = some c → LsOK (evI 2) ((E68).lend 0) c := by exact fun c _ => LsOK_none rfl c) : SpecOK Tryd.prog E0 68 (s68 C G) :=
  aspec_ok (ak := a68) (bl := b68) (e := e68) (c := fun x _ => C x) (g := fun x _ => G x) (E0 := E0) (E := E68) tab .nil rfl rfl hm Tryd.func68 (by kernel_rfl) [PM.data (Kd.sl celk)] (fun X Y H => by obtain ⟨a, ⟨b, _⟩⟩ := X; exact val_of (t68 a b) (hd a b H)) IO L
abbrev w68 : FSpec := s68 (fun x => decide (0 ≤ (x.2.1 : Int) ∧ (x.2.1 : Int) ≤ 1000)) fun x => (List.take x.2.1.toNat x.1).map U.cutC
theorem wk68 : SpecOK Tryd.prog E0 68 w68 := by
  refine k68 (fun l n H => ?_) (L := ls_ok (lcs := [lc Tryd.f68 0]) (rgs := []) (by kernel_rfl) (by kernel_rfl) L68 trivial)
  have H : (0 : Int) ≤ n ∧ n ≤ 1000 := of_decide_eq_true H
  obtain ⟨h1, h2⟩ := H
  obtain ⟨m, rfl⟩ := Int.eq_ofNat_of_zero_le h1
  have e1 : minI (l.length : Int) (m : Int) = ((min l.length m : Nat) : Int) := minI_nat _ m
  have e2 : decide ((0 : Int) ≤ ((min l.length m : Nat) : Int) ∧ ((min l.length m : Nat) : Int) ≤ (l.length : Int)) = true := decide_eq_true (by omega)
  have e3 : sub l 0 (min l.length m) = l.take m := by
    unfold sub
    rw [List.drop_zero]
    rcases Nat.le_total l.length m with h | h
    · rw [Nat.min_eq_left h, List.take_length, List.take_of_length_le h]
    · rw [Nat.min_eq_right h]
  have e4 : (l.take m).length ≤ 1048576 := by rw [List.length_take]; omega
  show _ = some ((l.take m).map U.cutC)
  simp only [d68, Tr.val, e1, e2, e3, e4, Int.toNat_natCast, Nat.zero_add, and_self, decide_true, cond_true]
  rfl
def live51 (key : Nat) : Lv :=
  bif Nat.beq key 3 then { ls := [3, 10, 11, 12], wd := [⟨3, none, .row 34 link⟩] } else bif Nat.beq key 1003 then { ls := [3] } else
  { ls := [] }
abbrev M51 (ls : Nat → VS → Option (Tr (Ex × VS))) : Env := (E0.withFns [(68, w68)]).loops live51 ls
@[reducible] def p51_0 : LP := { n := 27, sl := [.c (Leaf.row ( 0)), .d (Kd.sl link), .d (.int .i64), .d (.int .i64)], bl := [(0, .row 34 (link))] }
def d115 (a1 : ByteArray) (a2 : Int) (a31 : Int) (a32 : Int) (a33 : Int) : Tr (Bool) :=
 Tr.ite (decide (a1 = { data := #[] })) (Tr.ite (decide (a2 = (1 : Int))) (Tr.ite (decide (a31 = (0 : Int))) (Tr.ite (decide (a32 = (0 : Int))) (Tr.ret (decide (a33 = (0 : Int)))) (Tr.ret false)) (Tr.ret false)) (Tr.ret false)) (Tr.ret false)
def e115 (r : Bool) : FRes := { rs := Slot.av (AV.one (Leaf.dat Kd.bool r)), upd := [], new := [] }
@[reducible] def a115 : List AK := [AK.d celk]
@[reducible] def b115 : List BK := []
theorem t115 (a1 : ByteArray) (a2 : Int) (a31 : Int) (a32 : Int) (a33 : Int) : evFn (E0) Tryd.f115 [PM.data Kd.bool] (akAV a115 ((a1, a2, (a31, a32, a33, ()), ()), ())) (bkBs b115 ()) = (d115 a1 a2 a31 a32 a33).map e115 := by kernel_rfl
def s115' (G : akT a115 → Bool) : FSpec := aspec0 a115 b115 e115 (fun x _ => G x)
theorem k115' {G : akT a115 → Bool} (hd : ∀ (a1 : ByteArray) (a2 : Int) (a31 : Int) (a32 : Int) (a33 : Int), (d115 a1 a2 a31 a32 a33).val = some (G ((a1, a2, (a31, a32, a33, ()), ()), ()))) (IO : ItOK Tryd.prog (E0) := by exact itOK_none rfl) (L : ∀ c, Tryd.f115.body = some c → LsOK (evI 2) ((E0).lend 0) c := by exact fun c _ => LsOK_none rfl c) : SpecOK Tryd.prog E0 115 (s115' G) :=
  aspec0_ok (ak := a115) (bl := b115) (e := e115) (g := fun x _ => G x) (E0 := E0) (E := E0) tab .nil rfl rfl hm Tryd.func115 (by kernel_rfl) [PM.data Kd.bool] (fun X Y => by obtain ⟨⟨a1, ⟨a2, ⟨⟨a31, ⟨a32, ⟨a33, _⟩⟩⟩, _⟩⟩⟩, _⟩ := X; exact val_of (t115 a1 a2 a31 a32 a33) (hd a1 a2 a31 a32 a33)) IO L
abbrev w115 : FSpec := s115' fun x => U.isNone x.1
theorem wk115 : SpecOK Tryd.prog E0 115 w115 := k115' fun a b c d e => by
  show _ = some (decide (a = ByteArray.empty) && (decide (b = 1) && (decide (c = 0) && (decide (d = 0) && decide (e = 0)))))
  have h : (ByteArray.empty) = (⟨#[]⟩ : ByteArray) := rfl
  rw [h]
  simp only [d115, Tr.val]
  by_cases h1 : a = (⟨#[]⟩ : ByteArray)
  · by_cases h2 : b = 1
    · by_cases h3 : c = 0
      · by_cases h4 : d = 0
        · simp only [h1, h2, h3, h4, decide_true, cond_true, Bool.true_and]
        · simp only [h1, h2, h3, h4, decide_true, decide_false, cond_true, cond_false, Bool.true_and, Bool.false_and]
      · simp only [h1, h2, h3, decide_true, decide_false, cond_true, cond_false, Bool.true_and, Bool.false_and]
    · simp only [h1, h2, decide_true, decide_false, cond_true, cond_false, Bool.true_and, Bool.false_and]
  · simp only [h1, decide_false, cond_false, Bool.false_and]
def live55 (key : Nat) : Lv :=
  bif Nat.beq key 9 then { ls := [0, 3, 4, 7, 10, 11, 12] } else bif Nat.beq key 1009 then { ls := [0, 3, 4, 7, 10, 11, 12] } else
  bif Nat.beq key 4 then { ls := [0, 3, 4, 10, 11, 12], wd := [⟨3, none, .row 32 (.sl celk)⟩, ⟨4, none, .row 48 celk⟩] } else bif Nat.beq key 1004 then { ls := [3] } else
  { ls := [] }
abbrev M55 (ls : Nat → VS → Option (Tr (Ex × VS))) : Env := (E0.withFns [(115, w115)]).loops live55 ls
@[reducible] def p55_0 : LP := { n := 53, sl := [.d (Kd.sl link), .c (Leaf.row ( 0)), .c (Leaf.row ( 1)), .d (Kd.sl link), .d (.int .i64), .d (.int .i64)], bl := [(0, .row 32 (Kd.sl celk)), (1, .row 48 (celk))] }
@[reducible] def p55_1 : LP := { n := 53, sl := [.d (Kd.sl link), .c (Leaf.row ( 0)), .c (Leaf.row ( 1)), .d (.int .i64), .d (Kd.sl link), .d (.int .i64), .d (.int .i64)], bl := [(0, .row 32 (Kd.sl celk)), (1, .row 48 (celk))] }
def B55_1 (x0 : List Line) (x3 : Int) (x4 : List Line) (x5 : Int) (x6 : Int) (h0 : List (List Cell)) (h1 : List Cell) : Tr (p55_1.T ⊕ (List Line × Int × List Line × Int × Int × List (List Cell) × List Cell)) :=
 let v1 : Int := (IntKind.wrap IntKind.i64 (x3 - (1 : Int)))
 Tr.ite (decide ((0 : Int) < x3)) (Tr.ite (inB v1 (List.length h1)) (Tr.ite (U.isNone (List.getD h1 (Int.toNat v1) (Kd.dflt celk))) (Tr.ret (Sum.inl ((x0, v1, x4, x5, x6, ()), h0, h1, ()))) (Tr.ret (Sum.inr (x0, x3, x4, x5, x6, h0, h1)))) Tr.fail) (Tr.ret (Sum.inr (x0, x3, x4, x5, x6, h0, h1)))
def X55_1 (r : (List Line × Int × List Line × Int × Int × List (List Cell) × List Cell)) : Ex × VS := Prod.mk (Ex.exit ( 2)) { n := 53, v := [Slot.av (AV.one (Leaf.dat (Kd.sl link) r.fst)), Slot.av (AV.one (Leaf.row ( 0))), Slot.av (AV.one (Leaf.row ( 1))), Slot.av (AV.one (Leaf.dat (.int .i64) r.snd.fst)), Slot.av (AV.one (Leaf.dat (Kd.sl link) r.snd.snd.fst)), Slot.av (AV.one (Leaf.dat (.int .i64) r.snd.snd.snd.fst)), Slot.av (AV.one (Leaf.dat (.int .i64) r.snd.snd.snd.snd.fst))], h := [( 0, Blk.row ( 32) (Kd.sl celk) r.snd.snd.snd.snd.snd.fst), ( 1, Blk.row ( 48) celk r.snd.snd.snd.snd.snd.snd)] }
def b55_1 : p55_1.T → Tr (p55_1.T ⊕ (List Line × Int × List Line × Int × Int × List (List Cell) × List Cell)) := fun ⟨⟨x0, ⟨x3, ⟨x4, ⟨x5, ⟨x6, _⟩⟩⟩⟩⟩, ⟨h0, ⟨h1, _⟩⟩⟩ => B55_1 x0 x3 x4 x5 x6 h0 h1
theorem h55_1 (ls : Nat → VS → Option (Tr (Ex × VS))) (x : p55_1.T) : (evC (evI 2) (lc Tryd.f55 1) (Env.lend (M55 ls) 0) (unV (live55 9) (p55_1.V x))).map (decL 0 (live55 9) (live55 1009)) = (b55_1 x).map (encR p55_1.V X55_1) := by
  obtain ⟨⟨x0, ⟨x3, ⟨x4, ⟨x5, ⟨x6, _⟩⟩⟩⟩⟩, ⟨h0, ⟨h1, _⟩⟩⟩ := x; kernel_rfl
theorem c55_1 (x : p55_1.T) : canV 0 (live55 9) (unV (live55 9) (p55_1.V x)) = p55_1.V x := by
  obtain ⟨⟨x0, ⟨x3, ⟨x4, ⟨x5, ⟨x6, _⟩⟩⟩⟩⟩, ⟨h0, ⟨h1, _⟩⟩⟩ := x; kernel_rfl
theorem l55_1 {T : p55_1.T → Tr (List Line × Int × List Line × Int × Int × List (List Cell) × List Cell)} {ls : Nat → VS → Option (Tr (Ex × VS))} (hls : ∀ x, (Env.lend (M55 ls) 0).ls 9 x = p55_1.ls (fun a => (T a).map X55_1) x) (hS : ∀ x r, (T x).val = some r → Rounds b55_1 x r) : LoopOK (evI 2) (Env.lend (M55 ls) 0) (lc Tryd.f55 1) :=
  loopA 9 (live55 9) (live55 1009) p55_1 b55_1 X55_1 T (by kernel_rfl) rfl rfl hls (h55_1 ls) c55_1 hS
def B51_0 (x1 : List Line) (x2 : Int) (x3 : Int) (h0 : List Line) : Tr (p51_0.T ⊕ (List Line)) :=
 Tr.ite (decide (x3 < x2)) (Tr.ite (inB x3 (List.length x1)) (Tr.ite true (Tr.ite (decide ((List.length h0 + (1 : Nat)) * (32 : Nat) ≤ (140737488355328 : Nat))) (Tr.ret (Sum.inl ((x1, x2, IntKind.wrap IntKind.i64 (x3 + (1 : Int)), ()), h0 ++ [(List.map U.cutC (List.take (82 : Nat) (rget link x1 x3).fst), (rget link x1 x3).snd)], ()))) Tr.fail) Tr.fail) Tr.fail) (Tr.ret (Sum.inr h0))
def X51_0 (r : (List Line)) : Ex × VS := Prod.mk (Ex.exit ( 0)) { n := 27, v := [Slot.av (AV.one (Leaf.row ( 0)))], h := [( 0, Blk.row ( 34) link r)] }
def b51_0 : p51_0.T → Tr (p51_0.T ⊕ (List Line)) := fun ⟨⟨x1, ⟨x2, ⟨x3, _⟩⟩⟩, ⟨h0, _⟩⟩ => B51_0 x1 x2 x3 h0
theorem h51_0 (ls : Nat → VS → Option (Tr (Ex × VS))) (x : p51_0.T) : (evC (evI 2) (lc Tryd.f51 0) (Env.lend (M51 ls) 0) (unV (live51 3) (p51_0.V x))).map (decL 0 (live51 3) (live51 1003)) = (b51_0 x).map (encR p51_0.V X51_0) := by
  obtain ⟨⟨x1, ⟨x2, ⟨x3, _⟩⟩⟩, ⟨h0, _⟩⟩ := x; kernel_rfl
theorem c51_0 (x : p51_0.T) : canV 0 (live51 3) (unV (live51 3) (p51_0.V x)) = p51_0.V x := by
  obtain ⟨⟨x1, ⟨x2, ⟨x3, _⟩⟩⟩, ⟨h0, _⟩⟩ := x; kernel_rfl
theorem l51_0 {T : p51_0.T → Tr (List Line)} {ls : Nat → VS → Option (Tr (Ex × VS))} (hls : ∀ x, (Env.lend (M51 ls) 0).ls 3 x = p51_0.ls (fun a => (T a).map X51_0) x) (hS : ∀ x r, (T x).val = some r → Rounds b51_0 x r) : LoopOK (evI 2) (Env.lend (M51 ls) 0) (lc Tryd.f51 0) :=
  loopA 3 (live51 3) (live51 1003) p51_0 b51_0 X51_0 T (by kernel_rfl) rfl rfl hls (h51_0 ls) c51_0 hS
def T51 (x : p51_0.T) : Tr (List Line) :=
  match x with
  | ⟨⟨l, n, i, _⟩, s, _⟩ => .ite (decide ((n : Int) = (List.length (α := Line) l : Int) ∧ (i : Int) = 0 ∧ List.length (α := Line) s + List.length (α := Line) l ≤ 1048576)) (.ret (List.append (α := Line) s (List.map (α := Line) (fun y => (U.cutL y.1, y.2.1, ())) l))) .fail
abbrev E51 : Env := M51 fun key x => bif Nat.beq key 3 then p51_0.ls (fun a => (T51 a).map X51_0) x else none
theorem L51 : LoopOK (evI 2) (E51.lend 0) (lc Tryd.f51 0) := by
  refine l51_0 (T := T51) (fun x => rfl) ?_
  rintro ⟨⟨l, n, i, z⟩, s, z1⟩ r hh
  obtain ⟨g1, g2⟩ := pre_val hh
  have g1 : (n : Int) = (l.length : Int) ∧ (i : Int) = 0 ∧ s.length + l.length ≤ 1048576 := of_decide_eq_true g1
  obtain ⟨rfl, rfl, e3⟩ := g1
  cases g2
  refine Rounds.mapA (B := b51_0) l (fun i s => ((l, (l.length : Int), (i : Int), ()), s, ())) (fun y => (U.cutL y.1, y.2.1, ())) (fun s => s) 1048576 (fun i s hi hv => ?_) (fun s => ?_) s e3
  · have e : rget link l (i : Int) = l[i] := by rw [rgetL]; exact getD_el hi
    have e8 : decide ((s.length + 1) * 32 ≤ 140737488355328) = true := decide_eq_true (by omega)
    have e9 : decide ((i : Int) < (l.length : Int)) = true := decide_eq_true (by omega)
    have e10 : decide ((0 : Int) ≤ 82 ∧ (82 : Int) ≤ 1000) = true := rfl
    simp only [b51_0, B51_0, Tr.val, e, e8, e9, e10, inB_nat hi, cond_true, wrap64_nat (show i ≤ 1048576 by omega)]
    rfl
  · simp only [b51_0, B51_0, Tr.val, show ¬ ((l.length : Int) < (l.length : Int)) by omega, decide_false, cond_false]
def d51 (a : List Line) : Tr (List Line) :=
 let v1 : Int := ((↑(List.length a) : Int))
 let v2 : Int := (minI v1 (30 : Int))
 let v3 : List Line := (sub a (0 : Nat) (Int.toNat v2))
 let v4 : Int := ((↑(List.length v3) : Int))
 let v5 : Int := ((↑(List.length v3) : Int))
 Tr.ite (decide ((0 : Int) ≤ v2 ∧ v2 ≤ v1)) (Tr.ite (decide (v5 = v4 ∧ (0 : Int) = (0 : Int) ∧ (0 : Nat) + List.length v3 ≤ (1048576 : Nat))) (Tr.ret (List.append [] (List.map (fun (y : Line) => (U.cutL y.fst, y.snd.fst, ())) v3))) Tr.fail) Tr.fail
def e51 (r : List Line) : FRes := { rs := Slot.av (AV.one (Leaf.dat (Kd.sl link) r)), upd := [], new := [] }
@[reducible] def a51 : List AK := [AK.d (Kd.sl link)]
@[reducible] def b51 : List BK := []
theorem t51 (a : List Line) : evFn (E51) Tryd.f51 [PM.data (Kd.sl link)] (akAV a51 (a, ())) (bkBs b51 ()) = (d51 a).map e51 := by kernel_rfl
def s51' (G : akT a51 → List Line) : FSpec := aspec0 a51 b51 e51 (fun x _ => G x)
theorem k51' {G : akT a51 → List Line} (hd : ∀ (a : List Line), (d51 a).val = some (G (a, ()))) (IO : ItOK Tryd.prog (E51) := by exact itOK_none rfl) (L : ∀ c, Tryd.f51.body = some c → LsOK (evI 2) ((E51).lend 0) c := by exact fun c _ => LsOK_none rfl c) : SpecOK Tryd.prog E0 51 (s51' G) :=
  aspec0_ok (ak := a51) (bl := b51) (e := e51) (g := fun x _ => G x) (E0 := E0) (E := E51) tab (.cons wk68 .nil) rfl rfl hm Tryd.func51 (by kernel_rfl) [PM.data (Kd.sl link)] (fun X Y => by obtain ⟨a, _⟩ := X; exact val_of (t51 a) (hd a)) IO L
abbrev w51 : FSpec := s51' fun x => U.few x.1 30
theorem wk51 : SpecOK Tryd.prog E0 51 w51 := by
  refine k51' (fun l => ?_) (L := ls_ok (lcs := [lc Tryd.f51 0]) (rgs := []) (by kernel_rfl) (by kernel_rfl) L51 trivial)
  have e1 : minI (l.length : Int) 30 = ((min l.length 30 : Nat) : Int) := minI_nat _ 30
  have e2 : decide ((0 : Int) ≤ ((min l.length 30 : Nat) : Int) ∧ ((min l.length 30 : Nat) : Int) ≤ (l.length : Int)) = true := decide_eq_true (by omega)
  have e3 : sub l 0 (min l.length 30) = l.take 30 := by
    unfold sub
    rw [List.drop_zero]
    rcases Nat.le_total l.length 30 with h | h
    · rw [Nat.min_eq_left h, List.take_length, List.take_of_length_le h]
    · rw [Nat.min_eq_right h]
  have e4 : (l.take 30).length ≤ 1048576 := by rw [List.length_take]; omega
  show _ = some (U.few l 30)
  simp only [d51, Tr.val, e1, e2, e3, e4, Int.toNat_natCast, Nat.zero_add, and_self, decide_true, cond_true]
  rfl
end Go.Proofs.YtmnbcnhpklejcaaDoor
namespace U
theorem trimR_len (l : List Cl) : (trimR l).length ≤ l.length ∧ l.take (trimR l).length = trimR l := by
  refine Go.Ev.snocRec (p := fun l => (trimR l).length ≤ l.length ∧ l.take (trimR l).length = trimR l) ⟨by simp [trimR], by simp [trimR]⟩ (fun l a ih => ?_) l
  rw [trimR_snoc]
  cases isNone a with
  | true =>
    simp only [cond_true]
    refine ⟨by rw [List.length_append]; omega, ?_⟩
    rw [List.take_append_of_le_length ih.1]
    exact ih.2
  | false =>
    simp only [cond_false]
    exact ⟨Nat.le_refl _, List.take_length⟩
end U
namespace Go.Proofs.YtmnbcnhpklejcaaDoor
def T55_1 (x : p55_1.T) : Tr (List Line × Int × List Line × Int × Int × List (List Cell) × List Cell) :=
  match x with
  | ⟨⟨x0, x3, x4, x5, x6, _⟩, h0, h1, _⟩ => .ite (decide (0 ≤ (x3 : Int) ∧ (x3 : Int) ≤ (List.length (α := Cell) h1 : Int) ∧ List.length (α := Cell) h1 ≤ 1048576)) (.ret (x0, ((U.trimR (List.take (α := Cell) x3.toNat h1)).length : Int), x4, x5, x6, h0, h1)) .fail
abbrev N55 (ls : Nat → VS → Option (Tr (Ex × VS))) : Env := M55 fun key x => bif Nat.beq key 9 then p55_1.ls (fun a => (T55_1 a).map X55_1) x else ls key x
theorem R55_1 (x0 x4 : List Line) (x5 x6 : Int) (h0 : List (List Cell)) (h1 : List Cell) (hl : h1.length ≤ 1048576) : ∀ k : Nat, k ≤ h1.length → Rounds b55_1 ((x0, (k : Int), x4, x5, x6, ()), h0, h1, ()) (x0, ((U.trimR (h1.take k)).length : Int), x4, x5, x6, h0, h1)
  | 0, _ => .exit (by simp [b55_1, B55_1, Tr.val, U.trimR])
  | k + 1, h => by
    have hk : k < h1.length := by omega
    have e0 : h1.take (k + 1) = h1.take k ++ [h1[k]] := by rw [List.take_add_one, List.getElem?_eq_getElem hk]; rfl
    have e1 : IntKind.wrap IntKind.i64 (((k + 1 : Nat) : Int) - 1) = (k : Int) := by rw [Go.Ev.w64 (by omega) (by omega)]; omega
    have e2 : h1.getD k (Kd.dflt celk) = h1[k] := by exact getD_el hk
    have c1 : decide ((0 : Int) < ((k + 1 : Nat) : Int)) = true := decide_eq_true (by omega)
    have hv : (b55_1 ((x0, ((k + 1 : Nat) : Int), x4, x5, x6, ()), h0, h1, ())).val = bif U.isNone h1[k] then some (.inl ((x0, (k : Int), x4, x5, x6, ()), h0, h1, ())) else some (.inr (x0, ((k + 1 : Nat) : Int), x4, x5, x6, h0, h1)) := by
      simp only [b55_1, B55_1, Tr.val, e1, e2, c1, inB_nat hk, Int.toNat_natCast, cond_true]
    rw [e0, U.trimR_snoc]
    cases hb : U.isNone h1[k] with
    | true =>
      rw [hb] at hv
      exact .step hv (R55_1 x0 x4 x5 x6 h0 h1 hl k (by omega))
    | false =>
      rw [hb] at hv
      have e3 : (h1.take k ++ [h1[k]]).length = k + 1 := by rw [List.length_append, List.length_take, List.length_singleton]; omega
      rw [cond_false, e3]
      exact .exit hv
theorem L55_1 {ls : Nat → VS → Option (Tr (Ex × VS))} : LoopOK (evI 2) ((N55 ls).lend 0) (lc Tryd.f55 1) := by
  refine l55_1 (T := T55_1) (fun x => rfl) ?_
  rintro ⟨⟨x0, x3, x4, x5, x6, z⟩, h0, h1, z1⟩ r hh
  obtain ⟨g1, g2⟩ := pre_val hh
  have g1 : 0 ≤ (x3 : Int) ∧ (x3 : Int) ≤ (h1.length : Int) ∧ h1.length ≤ 1048576 := of_decide_eq_true g1
  obtain ⟨e1, e2, e3⟩ := g1
  obtain ⟨k, rfl⟩ := Int.eq_ofNat_of_zero_le e1
  cases g2
  have e2 : (k : Int) ≤ (h1.length : Int) := e2
  exact R55_1 x0 x4 x5 x6 h0 h1 e3 k (by omega)
def B55_0 (x0 : List Line) (x3 : List Line) (x4 : Int) (x5 : Int) (h0 : List (List Cell)) (h1 : List Cell) : Tr (p55_0.T ⊕ (List (List Cell))) :=
 let v1 : Int := ((↑(List.length x0) : Int))
 let v2 : Int := (IntKind.wrap IntKind.i64 (x5 + (1 : Int)))
 let v3 : Int := ((↑(List.length (h1 ++ (rget link x3 x5).fst)) : Int))
 let v4 : Int := ((↑(List.length (h1 ++ (rget link x3 x5).fst)) : Int))
 let v5 : Int := ((↑(List.length (h1 ++ (rget link x3 x5).fst)) : Int))
 let v6 : Int := ((↑(List.length (U.trimR (List.take (Int.toNat v5) (h1 ++ (rget link x3 x5).fst)))) : Int))
 Tr.ite (decide (x5 < x4)) (Tr.ite (inB x5 (List.length x3)) (Tr.ite (decide ((List.length h1 + List.length (rget link x3 x5).fst) * (48 : Nat) ≤ (140737488355328 : Nat))) (Tr.ite (rget link x3 x5).snd.fst (Tr.ite (decide (v2 < v1)) (Tr.ret (Sum.inl ((x0, x3, x4, v2, ()), h0, h1 ++ (rget link x3 x5).fst, ()))) (Tr.ite (decide ((0 : Int) ≤ v5 ∧ v5 ≤ v3 ∧ List.length (h1 ++ (rget link x3 x5).fst) ≤ (1048576 : Nat))) (Tr.ite (decide ((0 : Int) ≤ v6 ∧ v6 ≤ v4)) (Tr.ite (decide ((List.length h0 + (1 : Nat)) * (24 : Nat) ≤ (140737488355328 : Nat))) (Tr.ret (Sum.inl ((x0, x3, x4, v2, ()), h0 ++ [List.take (Int.toNat v6) (h1 ++ (rget link x3 x5).fst)], [], ()))) Tr.fail) Tr.fail) Tr.fail)) (Tr.ite (decide ((0 : Int) ≤ v5 ∧ v5 ≤ v3 ∧ List.length (h1 ++ (rget link x3 x5).fst) ≤ (1048576 : Nat))) (Tr.ite (decide ((0 : Int) ≤ v6 ∧ v6 ≤ v4)) (Tr.ite (decide ((List.length h0 + (1 : Nat)) * (24 : Nat) ≤ (140737488355328 : Nat))) (Tr.ret (Sum.inl ((x0, x3, x4, v2, ()), h0 ++ [List.take (Int.toNat v6) (h1 ++ (rget link x3 x5).fst)], [], ()))) Tr.fail) Tr.fail) Tr.fail)) Tr.fail) Tr.fail) (Tr.ret (Sum.inr h0))
def X55_0 (r : (List (List Cell))) : Ex × VS := Prod.mk (Ex.exit ( 0)) { n := 53, v := [Slot.av (AV.one (Leaf.row ( 0)))], h := [( 0, Blk.row ( 32) (Kd.sl celk) r)] }
def b55_0 : p55_0.T → Tr (p55_0.T ⊕ (List (List Cell))) := fun ⟨⟨x0, ⟨x3, ⟨x4, ⟨x5, _⟩⟩⟩⟩, ⟨h0, ⟨h1, _⟩⟩⟩ => B55_0 x0 x3 x4 x5 h0 h1
theorem h55_0 (ls : Nat → VS → Option (Tr (Ex × VS))) (x : p55_0.T) : (evC (evI 2) (lc Tryd.f55 0) (Env.lend (N55 ls) 0) (unV (live55 4) (p55_0.V x))).map (decL 0 (live55 4) (live55 1004)) = (b55_0 x).map (encR p55_0.V X55_0) := by
  obtain ⟨⟨x0, ⟨x3, ⟨x4, ⟨x5, _⟩⟩⟩⟩, ⟨h0, ⟨h1, _⟩⟩⟩ := x; kernel_rfl
theorem c55_0 (x : p55_0.T) : canV 0 (live55 4) (unV (live55 4) (p55_0.V x)) = p55_0.V x := by
  obtain ⟨⟨x0, ⟨x3, ⟨x4, ⟨x5, _⟩⟩⟩⟩, ⟨h0, ⟨h1, _⟩⟩⟩ := x; kernel_rfl
theorem l55_0 {T : p55_0.T → Tr (List (List Cell))} {ls : Nat → VS → Option (Tr (Ex × VS))} (hls : ∀ x, (Env.lend (N55 ls) 0).ls 4 x = p55_0.ls (fun a => (T a).map X55_0) x) (hS : ∀ x r, (T x).val = some r → Rounds b55_0 x r) : LoopOK (evI 2) (Env.lend (N55 ls) 0) (lc Tryd.f55 0) :=
  loopA 4 (live55 4) (live55 1004) p55_0 b55_0 X55_0 T (by kernel_rfl) rfl rfl hls (h55_0 ls) c55_0 hS
def T55_0 (x : p55_0.T) : Tr (List (List Cell)) :=
  match x with
  | ⟨⟨x0, l, n, i, _⟩, h0, h1, _⟩ =>
    .ite (decide ((n : Int) = (List.length (α := Line) l : Int) ∧ (i : Int) = 0 ∧ List.length (α := Line) x0 = List.length (α := Line) l ∧ List.length (α := Line) l ≤ 1048576 ∧ List.length (α := List Cell) h0 + List.length (α := Line) l ≤ 1048576 ∧ List.length (α := Cell) h1 + U.cells l ≤ 1048576))
      (.ret (List.append (α := List Cell) h0 (U.joinL l h1))) .fail
abbrev E55 : Env := N55 fun key x => bif Nat.beq key 4 then p55_0.ls (fun a => (T55_0 a).map X55_0) x else none
theorem R55_0 (x0 l : List Line) (hl : l.length ≤ 1048576) (hx : x0.length = l.length) : ∀ (k i : Nat) (h0 : List (List Cell)) (h1 : List Cell), i + k = l.length → h0.length + k ≤ 1048576 → h1.length + U.cells (l.drop i) ≤ 1048576 →
    Rounds b55_0 ((x0, l, (l.length : Int), (i : Int), ()), h0, h1, ()) (h0 ++ U.joinL (l.drop i) h1)
  | 0, i, h0, h1, e, _, _ => by
    have e : i = l.length := by omega
    subst e
    rw [List.drop_length]
    refine .exit ?_
    have c : decide ((l.length : Int) < (l.length : Int)) = false := decide_eq_false (by omega)
    simp only [b55_0, B55_0, Tr.val, c, cond_false, U.joinL, List.append_nil]
  | k + 1, i, h0, h1, e, hb, hc => by
    have hi : i < l.length := by omega
    have er : rget link l (i : Int) = l[i] := by rw [rgetL]; exact getD_el hi
    have hd : l.drop i = l[i] :: l.drop (i + 1) := List.drop_eq_getElem_cons hi
    have w : IntKind.wrap IntKind.i64 ((i : Int) + 1) = ((i + 1 : Nat) : Int) := wrap64_nat (show i ≤ 1048576 by omega)
    have c1 : decide ((i : Int) < (l.length : Int)) = true := decide_eq_true (by omega)
    have c2 : decide (((i + 1 : Nat) : Int) < (x0.length : Int)) = !decide ((l.drop (i + 1)).length = 0) := by
      rw [List.length_drop, ← decide_not]
      exact decide_eq_decide.2 (by omega)
    rw [hd] at hc ⊢
    generalize l[i] = y at *
    have hc : h1.length + (y.1.length + U.cells (l.drop (i + 1))) ≤ 1048576 := hc
    have c3 : (h1.length + y.1.length) * 48 ≤ 140737488355328 := by omega
    have c4 : (h1 ++ y.1).length ≤ 1048576 := by rw [List.length_append]; omega
    have c5 : (h0.length + 1) * 24 ≤ 140737488355328 := by omega
    have c6 := U.trimR_len (h1 ++ y.1)
    have c7 : (0 : Int) ≤ ((h1 ++ y.1).length : Int) := by omega
    have c8 : ((U.trimR (h1 ++ y.1)).length : Int) ≤ ((h1 ++ y.1).length : Int) := by omega
    have c9 : (0 : Int) ≤ ((U.trimR (h1 ++ y.1)).length : Int) := by omega
    have r1 := R55_0 x0 l hl hx k (i + 1) (h0 ++ [U.trimR (h1 ++ y.1)]) [] (by omega) (by rw [List.length_append, List.length_singleton]; omega) (by show 0 + _ ≤ _; omega)
    have r2 := R55_0 x0 l hl hx k (i + 1) h0 (h1 ++ y.1) (by omega) (by omega) (by rw [List.length_append]; omega)
    rw [List.append_assoc, List.singleton_append] at r1
    unfold U.joinL
    cases hy : y.2.1 with
    | false =>
      refine .step ?_ r1
      simp only [b55_0, B55_0, Tr.val, inB_nat hi, er, w, c1, c3, c4, c5, c7, c8, c9, c6.2, hy, Int.toNat_natCast, List.take_length, Int.le_refl, and_self, decide_true, cond_true, cond_false, Bool.not_false]
    | true =>
      cases hz : decide ((l.drop (i + 1)).length = 0) with
      | true =>
        refine .step ?_ r1
        simp only [b55_0, B55_0, Tr.val, inB_nat hi, er, w, c1, c2, hz, c3, c4, c5, c7, c8, c9, c6.2, hy, Int.toNat_natCast, List.take_length, Int.le_refl, and_self, decide_true, cond_true, cond_false, Bool.not_true]
      | false =>
        refine .step ?_ r2
        simp only [b55_0, B55_0, Tr.val, inB_nat hi, er, w, c1, c2, hz, c3, hy, decide_true, cond_true, cond_false, Bool.not_false]
theorem L55_0 : LoopOK (evI 2) (E55.lend 0) (lc Tryd.f55 0) := by
  refine l55_0 (T := T55_0) (fun x => rfl) ?_
  rintro ⟨⟨x0, l, n, i, z⟩, h0, h1, z1⟩ r hh
  obtain ⟨g1, g2⟩ := pre_val hh
  have g1 : (n : Int) = (l.length : Int) ∧ (i : Int) = 0 ∧ x0.length = l.length ∧ l.length ≤ 1048576 ∧ h0.length + l.length ≤ 1048576 ∧ h1.length + U.cells l ≤ 1048576 := of_decide_eq_true g1
  obtain ⟨rfl, rfl, e1, e2, e3, e4⟩ := g1
  cases g2
  exact R55_0 x0 l e2 e1 l.length 0 h0 h1 (by omega) e3 e4
def d55 (a : List Line) : Tr (List (List Cell)) :=
 let v1 : Int := ((↑(List.length a) : Int))
 let v2 : Int := ((↑(List.length a) : Int))
 Tr.ite (decide (v2 = v1 ∧ (0 : Int) = (0 : Int) ∧ List.length a = List.length a ∧ List.length a ≤ (1048576 : Nat) ∧ (0 : Nat) + List.length a ≤ (1048576 : Nat) ∧ (0 : Nat) + U.cells a ≤ (1048576 : Nat))) (Tr.ret (List.append [] (U.joinL a []))) Tr.fail
def e55 (r : List (List Cell)) : FRes := { rs := Slot.av (AV.one (Leaf.dat (Kd.sl (Kd.sl celk)) r)), upd := [], new := [] }
@[reducible] def a55 : List AK := [AK.d (Kd.sl link)]
@[reducible] def b55 : List BK := []
theorem t55 (a : List Line) : evFn (E55) Tryd.f55 [PM.data (Kd.sl (Kd.sl celk))] (akAV a55 (a, ())) (bkBs b55 ()) = (d55 a).map e55 := by kernel_rfl
def s55 (C : akT a55 → Bool) (G : akT a55 → List (List Cell)) : FSpec := aspec a55 b55 e55 (fun x _ => C x) (fun x _ => G x)
theorem k55 {C : akT a55 → Bool} {G : akT a55 → List (List Cell)} (hd : ∀ (a : List Line), C (a, ()) = true → (d55 a).val = some (G (a, ()))) (IO : ItOK Tryd.prog (E55) := by exact itOK_none rfl) (L : ∀ c, Tryd.f55.body = some c → LsOK (evI 2) ((E55).lend 0) c := by exact fun c _ => LsOK_none rfl c) : SpecOK Tryd.prog E0 55 (s55 C G) :=
  aspec_ok (ak := a55) (bl := b55) (e := e55) (c := fun x _ => C x) (g := fun x _ => G x) (E0 := E0) (E := E55) tab (.cons wk115 .nil) rfl rfl hm Tryd.func55 (by kernel_rfl) [PM.data (Kd.sl (Kd.sl celk))] (fun X Y H => by obtain ⟨a, _⟩ := X; exact val_of (t55 a) (hd a H)) IO L
abbrev w55 : FSpec := s55 (fun x => U.okl x.1 && decide (U.cells x.1 ≤ 1048576)) fun x => U.joinL x.1 []
theorem wk55 : SpecOK Tryd.prog E0 55 w55 := by
  refine k55 (fun l H => ?_) (L := ls_ok (lcs := [lc Tryd.f55 0, lc Tryd.f55 1]) (rgs := []) (by kernel_rfl) (by kernel_rfl) ⟨L55_0, L55_1⟩ trivial)
  have H : (U.okl l && decide (U.cells l ≤ 1048576)) = true := H
  rw [Bool.and_eq_true] at H
  have h2 : U.cells l ≤ 1048576 := of_decide_eq_true H.2
  have h3 : l.length ≤ 1048576 := U.okl_len H.1
  show _ = some (U.joinL l [])
  simp only [d55, Tr.val, h2, h3, List.length_nil, Nat.zero_add, and_self, decide_true, cond_true]
  rfl
end Go.Proofs.YtmnbcnhpklejcaaDoor
end
section
set_option linter.unusedVariables false
set_option linter.unusedSimpArgs false
set_option maxRecDepth 20000
set_option maxHeartbeats 4000000
open Go Go.Ev
namespace U
open Go.Proofs.YtmnbcnhpklejcaaDoor
def whB : List Cl → Bool
  | [] => true
  | [c] => decide (c.2.1 = 1)
  | c :: d :: l => if c.2.1 = 2 then decide (d.2.1 = 0) && whB l else decide (c.2.1 = 1) && whB (d :: l)
theorem whB_one {c : Cl} {l : List Cl} (h : c.2.1 = 1) : whB (c :: l) = whB l := by
  cases l with
  | nil => simp [whB, h]
  | cons d l =>
    show (if c.2.1 = 2 then decide (d.2.1 = 0) && whB l else decide (c.2.1 = 1) && whB (d :: l)) = whB (d :: l)
    rw [if_neg (by omega), decide_eq_true h, Bool.true_and]
theorem whB_two {c d : Cl} {l : List Cl} (h : c.2.1 = 2) (h' : d.2.1 = 0) : whB (c :: d :: l) = whB l := by
  show (if c.2.1 = 2 then decide (d.2.1 = 0) && whB l else decide (c.2.1 = 1) && whB (d :: l)) = whB l
  rw [if_pos h, decide_eq_true h', Bool.true_and]
theorem wh_ind {p : List Cl → Prop} (h0 : p []) (h1 : ∀ c l, c.2.1 = 1 → whB l = true → p l → p (c :: l)) (h2 : ∀ c d l, c.2.1 = 2 → d.2.1 = 0 → whB l = true → p l → p (c :: d :: l)) : ∀ (n : Nat) (l : List Cl), l.length ≤ n → whB l = true → p l
  | _, [], _, _ => h0
  | 0, c :: l, h, _ => by simp at h
  | n + 1, [c], _, hw => by
    have hc : c.2.1 = 1 := by simpa [whB] using hw
    exact h1 c [] hc rfl h0
  | n + 1, c :: d :: l, h, hw => by
    by_cases hc : c.2.1 = 2
    · have hd : d.2.1 = 0 := by
        unfold whB at hw; rw [if_pos hc, Bool.and_eq_true] at hw; exact of_decide_eq_true hw.1
      rw [whB_two hc hd] at hw
      exact h2 c d l hc hd hw (wh_ind h0 h1 h2 n l (by simp only [List.length_cons] at h; omega) hw)
    · have hc1 : c.2.1 = 1 := by
        unfold whB at hw; rw [if_neg hc, Bool.and_eq_true] at hw; exact of_decide_eq_true hw.1
      rw [whB_one hc1] at hw
      exact h1 c (d :: l) hc1 hw (wh_ind h0 h1 h2 n (d :: l) (by simp only [List.length_cons] at h ⊢; omega) hw)
theorem whInd {p : List Cl → Prop} {l : List Cl} (hw : whB l = true) (h0 : p []) (h1 : ∀ c l, c.2.1 = 1 → whB l = true → p l → p (c :: l)) (h2 : ∀ c d l, c.2.1 = 2 → d.2.1 = 0 → whB l = true → p l → p (c :: d :: l)) : p l :=
  wh_ind h0 h1 h2 l.length l (Nat.le_refl _) hw
theorem wh_app {a b : List Cl} (ha : whB a = true) (hb : whB b = true) : whB (a ++ b) = true :=
  whInd (p := fun a => whB (a ++ b) = true) ha hb (fun c l h _ ih => by rw [List.cons_append, whB_one h]; exact ih) (fun c d l h h' _ ih => by rw [List.cons_append, List.cons_append, whB_two h h']; exact ih)
theorem wh_init {a : Cl} (ha : a.2.1 = 1) : ∀ (n : Nat) (l : List Cl), l.length ≤ n → whB (l ++ [a]) = true → whB l = true
  | _, [], _, _ => rfl
  | 0, c :: l, h, _ => by simp at h
  | n + 1, [c], _, hw => by
    have hw : whB [c, a] = true := hw
    by_cases hc : c.2.1 = 2
    · unfold whB at hw; rw [if_pos hc, Bool.and_eq_true] at hw
      have := of_decide_eq_true hw.1
      omega
    · unfold whB at hw; rw [if_neg hc, Bool.and_eq_true] at hw
      exact hw.1
  | n + 1, c :: d :: l, h, hw => by
    by_cases hc : c.2.1 = 2
    · have hw : whB (c :: d :: (l ++ [a])) = true := hw
      have hd : d.2.1 = 0 := by
        unfold whB at hw; rw [if_pos hc, Bool.and_eq_true] at hw; exact of_decide_eq_true hw.1
      rw [whB_two hc hd] at hw ⊢
      exact wh_init ha n l (by simp only [List.length_cons] at h; omega) hw
    · have hw : whB (c :: d :: (l ++ [a])) = true := hw
      have hc1 : c.2.1 = 1 := by
        unfold whB at hw; rw [if_neg hc, Bool.and_eq_true] at hw; exact of_decide_eq_true hw.1
      rw [whB_one hc1] at hw ⊢
      exact wh_init ha n (d :: l) (by simp only [List.length_cons] at h ⊢; omega) hw
theorem isNone_wide {c : Cl} (h : isNone c = true) : c.2.1 = 1 := by
  unfold isNone at h
  simp only [Bool.and_eq_true, decide_eq_true_eq] at h
  exact h.2.1
theorem wh_trim (l : List Cl) : whB l = true → whB (trimR l) = true := by
  refine Go.Ev.snocRec (p := fun l => whB l = true → whB (trimR l) = true) (fun _ => by simp [trimR, whB]) (fun l a ih h => ?_) l
  rw [trimR_snoc]
  cases hb : isNone a with
  | true => exact ih (wh_init (isNone_wide hb) l.length l (Nat.le_refl _) h)
  | false => exact h
theorem wd_one {c : Cl} (h : c.2.1 = 1) : wd c = 1 := by unfold wd; rw [h]; rfl
theorem wd_two {c : Cl} (h : c.2.1 = 2) : wd c = 2 := by unfold wd; rw [h]; rfl
theorem wh_okP {l : List Cl} (h : whB l = true) : ∀ k, l.length ≤ k → okP k l = true :=
  whInd (p := fun l => ∀ k, l.length ≤ k → okP k l = true) h (fun k _ => by cases k <;> rfl)
    (fun c l hc _ ih k hk => by
      cases k with
      | zero => simp at hk
      | succ k =>
        unfold okP
        rw [wd_one hc, Bool.and_eq_true]
        exact ⟨decide_eq_true (by simp), ih k (by simpa using hk)⟩)
    (fun c d l hc hd _ ih k hk => by
      cases k with
      | zero => simp at hk
      | succ k =>
        unfold okP
        rw [wd_two hc, Bool.and_eq_true]
        exact ⟨decide_eq_true (by simp), ih k (by simp only [List.length_cons] at hk; omega)⟩)
theorem cellR_cases {c : Cl} (h : cellR c = true) : c.2.1 = 0 ∨ c.2.1 = 1 ∨ c.2.1 = 2 := by
  unfold cellR at h
  split at h
  · simp only [Bool.and_eq_true] at h
    have := h.2
    unfold inn at this
    simp at this
    omega
  · split at h
    · rename_i h1
      have := h1.2.1
      unfold inn at this
      simp at this
      omega
    · cases h
theorem fit_at {l : List Cl} (h : fitC l = true) {i : Nat} (hi : i < l.length) : cellR (l.getD i dC) = true ∧ whole l i = true := by
  unfold fitC at h
  have := allN_iff.1 h i (by omega) (by omega)
  rwa [Bool.and_eq_true] at this
theorem fit_cells {l : List Cl} (h : fitC l = true) : ∀ c ∈ l, cellR c = true := fun c hc => by
  obtain ⟨i, hi, rfl⟩ := List.getElem_of_mem hc
  have := (fit_at h hi).1
  rwa [getD_el hi] at this
theorem fit_drop {l : List Cl} (h : fitC l = true) : ∀ (n i : Nat), l.length - i ≤ n → i ≤ l.length → (i < l.length → cw l i ≠ 0) → whB (l.drop i) = true
  | 0, i, hn, hi, _ => by rw [List.drop_of_length_le (by omega)]; rfl
  | n + 1, i, hn, hi, h0 => by
    by_cases hlt : i < l.length
    · obtain ⟨r1, r2⟩ := fit_at h hlt
      have e0 : l.getD i dC = l[i] := getD_el hlt
      have c0 : cw l i = (l[i]).2.1 := by unfold cw; rw [e0]
      rw [List.drop_eq_getElem_cons hlt]
      rw [e0] at r1
      have h0 := h0 hlt
      have nx : ∀ j, j < l.length → cw l j = 0 → 0 < j ∧ cw l (j - 1) = 2 := fun j hj hz => by
        have := (fit_at h hj).2
        unfold whole at this
        rw [if_neg (by omega), if_pos hz, Bool.and_eq_true] at this
        exact ⟨of_decide_eq_true this.1, of_decide_eq_true this.2⟩
      rcases cellR_cases r1 with q | q | q
      · rw [c0] at h0; exact absurd q h0
      · rw [whB_one q]
        refine fit_drop h n (i + 1) (by omega) (by omega) fun hj hz => ?_
        have := (nx (i + 1) hj hz).2
        rw [Nat.add_sub_cancel, c0] at this
        omega
      · unfold whole at r2
        rw [if_pos (by rw [c0]; exact q), Bool.and_eq_true] at r2
        have g1 : i + 1 < l.length := of_decide_eq_true r2.1
        have g2 : cw l (i + 1) = 0 := of_decide_eq_true r2.2
        rw [List.drop_eq_getElem_cons g1]
        have e1 : l.getD (i + 1) dC = l[i + 1] := getD_el g1
        have g3 : (l[i + 1]).2.1 = 0 := by rw [← e1]; exact g2
        rw [whB_two q g3]
        refine fit_drop h n (i + 1 + 1) (by omega) (by omega) fun hj hz => ?_
        have := (nx (i + 1 + 1) hj hz).2
        rw [Nat.add_sub_cancel] at this
        omega
    · rw [List.drop_of_length_le (by omega)]; rfl
theorem fit_wh {l : List Cl} (h : fitC l = true) : whB l = true := by
  have := fit_drop h l.length 0 (by omega) (by omega) fun hi hz => by
    have := (fit_at h hi).2
    unfold whole at this
    rw [if_neg (by omega), if_pos hz, Bool.and_eq_true] at this
    exact absurd (of_decide_eq_true this.1) (by omega)
  rwa [List.drop_zero] at this
end U
namespace U
open Go.Proofs.YtmnbcnhpklejcaaDoor
def Good (l : List Cl) : Prop := whB l = true ∧ ∀ c ∈ l, cellR c = true ∧ c.1.size ≤ 1048576
theorem Good.nil : Good [] := ⟨rfl, fun c h => by simp at h⟩
theorem Good.app {a b : List Cl} (ha : Good a) (hb : Good b) : Good (a ++ b) := ⟨wh_app ha.1 hb.1, fun c h => by
  rcases List.mem_append.1 h with h | h
  · exact ha.2 c h
  · exact hb.2 c h⟩
theorem mem_trim {l : List Cl} {c : Cl} (h : c ∈ trimR l) : c ∈ l := by
  rw [← (trimR_len l).2] at h
  exact List.mem_of_mem_take h
theorem Good.trim {l : List Cl} (h : Good l) : Good (trimR l) := ⟨wh_trim l h.1, fun c hc => h.2 c (mem_trim hc)⟩
theorem Good.fit {l : List Cl} (h : fitC l = true) (hk : okc l = true) : Good l := ⟨fit_wh h, fun c hc => by
  refine ⟨fit_cells h c hc, ?_⟩
  unfold okc at hk
  rw [Bool.and_eq_true] at hk
  exact of_decide_eq_true (List.all_eq_true.1 hk.2 c hc)⟩
theorem joinL_good : ∀ (l : List Ln) (h : List Cl), (∀ y ∈ l, Good y.1) → Good h → (∀ r ∈ joinL l h, Good r ∧ r.length ≤ h.length + cells l) ∧ (joinL l h).length ≤ l.length
  | [], h, _, _ => ⟨fun r hr => by simp [joinL] at hr, by simp [joinL]⟩
  | y :: l, h, hl, hh => by
    have hy := hl y (by simp)
    have hl' : ∀ y ∈ l, Good y.1 := fun z hz => hl z (by simp [hz])
    unfold joinL
    cases hc : (!y.2.1 || decide (l.length = 0)) with
    | true =>
      simp only [cond_true]
      obtain ⟨h1, h2⟩ := joinL_good l [] hl' .nil
      refine ⟨fun r hr => ?_, by simpa using h2⟩
      rcases List.mem_cons.1 hr with rfl | hr
      · refine ⟨(hh.app hy).trim, ?_⟩
        have := (trimR_len (h ++ y.1)).1
        rw [List.length_append] at this
        show _ ≤ h.length + (y.1.length + cells l)
        omega
      · obtain ⟨g1, g2⟩ := h1 r hr
        refine ⟨g1, ?_⟩
        show _ ≤ h.length + (y.1.length + cells l)
        rw [List.length_nil] at g2
        omega
    | false =>
      simp only [cond_false]
      obtain ⟨h1, h2⟩ := joinL_good l (h ++ y.1) hl' (hh.app hy)
      refine ⟨fun r hr => ?_, by simp only [List.length_cons]; omega⟩
      obtain ⟨g1, g2⟩ := h1 r hr
      refine ⟨g1, ?_⟩
      show _ ≤ h.length + (y.1.length + cells l)
      rw [List.length_append] at g2
      omega
theorem mayL_fit {l : List Ln} (h : mayL l = true) (hk : okl l = true) : ∀ y ∈ l, Good y.1 := fun y hy => by
  obtain ⟨i, hi, rfl⟩ := List.getElem_of_mem hy
  have h1 := mayL_at h hi
  rw [getD_el hi] at h1
  unfold mayR at h1
  simp only [Bool.and_eq_true] at h1
  have h2 := okl_at hk hi
  rw [getD_el hi] at h2
  exact .fit h1.2.2 h2
end U
end
section
set_option linter.unusedVariables false
set_option linter.unusedSimpArgs false
set_option maxRecDepth 20000
set_option maxHeartbeats 4000000
open Go Go.Ev
namespace Go.Ev
theorem Rounds.flatA {α β ρ τ : Type} {B : τ → Tr (τ ⊕ ρ)} (xs : List α) (st : Nat → List β → τ) (g : α → List β) (fin : List β → ρ) (N : Nat)
    (hs : ∀ i s (h : i < xs.length), s.length + ((xs.drop i).flatMap g).length ≤ N → (B (st i s)).val = some (.inl (st (i + 1) (s ++ g xs[i])))) (he : ∀ s, (B (st xs.length s)).val = some (.inr (fin s))) :
    ∀ (k i : Nat) (s : List β), i + k = xs.length → s.length + ((xs.drop i).flatMap g).length ≤ N → Rounds B (st i s) (fin (s ++ (xs.drop i).flatMap g))
  | 0, i, s, e, h => by
    have : i = xs.length := by omega
    subst this
    rw [List.drop_length, List.flatMap_nil, List.append_nil]
    exact .exit (he s)
  | k + 1, i, s, e, h => by
    have hi : i < xs.length := by omega
    have h1 := hs i s hi h
    rw [List.drop_eq_getElem_cons hi, List.flatMap_cons] at h ⊢
    rw [List.length_append] at h
    have ih := Rounds.flatA xs st g fin N hs he k (i + 1) (s ++ g xs[i]) (by omega) (by rw [List.length_append]; omega)
    rw [List.append_assoc] at ih
    exact .step h1 ih
end Go.Ev
namespace U
open Go.Proofs.YtmnbcnhpklejcaaDoor
theorem foldL_len (n : Nat) (l : List Cl) : (foldL n l).length ≤ l.length + 1 := by
  unfold foldL
  rw [List.length_append, List.length_singleton]
  have h1 := (foldl_small n (pcs l.length l) ([], []) (by simp)).2
  have h2 := pcs_len l.length l
  simp only [List.length_nil] at h1
  omega
theorem flat_len (n : Nat) : ∀ rows : List (List Cl), (rows.flatMap (foldL n)).length ≤ (rows.map List.length).sum + rows.length
  | [] => by simp
  | r :: rows => by
    rw [List.flatMap_cons, List.length_append, List.map_cons, List.sum_cons, List.length_cons]
    have h1 := foldL_len n r
    have h2 := flat_len n rows
    omega
theorem join_sum : ∀ (l : List Ln) (h : List Cl), ((joinL l h).map List.length).sum ≤ h.length + cells l
  | [], h => by simp [joinL]
  | y :: l, h => by
    have e : cells (y :: l) = y.1.length + cells l := rfl
    unfold joinL
    cases (!y.2.1 || decide (l.length = 0)) with
    | true =>
      simp only [cond_true, List.map_cons, List.sum_cons]
      have h1 := (trimR_len (h ++ y.1)).1
      rw [List.length_append] at h1
      have h2 := join_sum l []
      simp only [List.length_nil] at h2
      omega
    | false =>
      simp only [cond_false]
      have h2 := join_sum l (h ++ y.1)
      rw [List.length_append] at h2
      omega
end U
namespace Go.Proofs.YtmnbcnhpklejcaaDoor
open Go.RowKit
def live70 (key : Nat) : Lv :=
  bif Nat.beq key 6 then { ls := [1, 8, 26, 27, 28], wd := [⟨8, none, .row 34 link⟩] } else bif Nat.beq key 1006 then { ls := [8] } else
  { ls := [] }
abbrev G70 : List (Nat × FSpec) := [(52, w52), (122, w122)]
theorem AG70 : AllFn Tryd.prog E0 G70 := .cons wk52 (.cons wk122 .nil)
abbrev M70 (ls : Nat → VS → Option (Tr (Ex × VS))) : Env := (E0.withFns G70).loops live70 ls
@[reducible] def p70_0 : LP := { n := 39, sl := [.d (.int .i64), .c (Leaf.row ( 0)), .d (Kd.sl (Kd.sl celk)), .d (.int .i64), .d (.int .i64)], bl := [(0, .row 34 (link))] }
def B70_0 (x0 : Int) (x2 : List (List Cell)) (x3 : Int) (x4 : Int) (h0 : List Line) : Tr (p70_0.T ⊕ (List Line)) :=
 let v1 : List U.Ln := (U.foldL (Int.toNat x0) (rget (Kd.sl celk) x2 x4))
 Tr.ite (decide (x4 < x3)) (Tr.ite (inB x4 (List.length x2)) (Tr.ite (decide ((1 : Int) ≤ x0 ∧ x0 ≤ (80 : Int) ∧ List.length (rget (Kd.sl celk) x2 x4) ≤ (1048576 : Nat)) && U.okP (List.length (rget (Kd.sl celk) x2 x4)) (rget (Kd.sl celk) x2 x4)) (Tr.ite (decide ((List.length h0 + List.length v1) * (32 : Nat) ≤ (140737488355328 : Nat))) (Tr.ret (Sum.inl ((x0, x2, x3, IntKind.wrap IntKind.i64 (x4 + (1 : Int)), ()), h0 ++ v1, ()))) Tr.fail) Tr.fail) Tr.fail) (Tr.ret (Sum.inr h0))
def X70_0 (r : (List Line)) : Ex × VS := Prod.mk (Ex.exit ( 0)) { n := 39, v := [Slot.av (AV.one (Leaf.row ( 0)))], h := [( 0, Blk.row ( 34) link r)] }
def b70_0 : p70_0.T → Tr (p70_0.T ⊕ (List Line)) := fun ⟨⟨x0, ⟨x2, ⟨x3, ⟨x4, _⟩⟩⟩⟩, ⟨h0, _⟩⟩ => B70_0 x0 x2 x3 x4 h0
theorem h70_0 (ls : Nat → VS → Option (Tr (Ex × VS))) (x : p70_0.T) : (evC (evI 2) (lc Tryd.f70 0) (Env.lend (M70 ls) 0) (unV (live70 6) (p70_0.V x))).map (decL 0 (live70 6) (live70 1006)) = (b70_0 x).map (encR p70_0.V X70_0) := by
  obtain ⟨⟨x0, ⟨x2, ⟨x3, ⟨x4, _⟩⟩⟩⟩, ⟨h0, _⟩⟩ := x; kernel_rfl
theorem c70_0 (x : p70_0.T) : canV 0 (live70 6) (unV (live70 6) (p70_0.V x)) = p70_0.V x := by
  obtain ⟨⟨x0, ⟨x2, ⟨x3, ⟨x4, _⟩⟩⟩⟩, ⟨h0, _⟩⟩ := x; kernel_rfl
theorem l70_0 {T : p70_0.T → Tr (List Line)} {ls : Nat → VS → Option (Tr (Ex × VS))} (hls : ∀ x, (Env.lend (M70 ls) 0).ls 6 x = p70_0.ls (fun a => (T a).map X70_0) x) (hS : ∀ x r, (T x).val = some r → Rounds b70_0 x r) : LoopOK (evI 2) (Env.lend (M70 ls) 0) (lc Tryd.f70 0) :=
  loopA 6 (live70 6) (live70 1006) p70_0 b70_0 X70_0 T (by kernel_rfl) rfl rfl hls (h70_0 ls) c70_0 hS
def T70 (x : p70_0.T) : Tr (List Line) :=
  match x with
  | ⟨⟨c, rows, n, i, _⟩, out, _⟩ =>
    .ite (decide (1 ≤ (c : Int) ∧ (c : Int) ≤ 80 ∧ (n : Int) = (List.length (α := List Cell) rows : Int) ∧ (i : Int) = 0 ∧ List.length (α := List Cell) rows ≤ 1048576 ∧ List.length (α := Line) out + List.length (α := Line) (List.flatMap (U.foldL (Int.toNat c)) rows) ≤ 4194304) && List.all (α := List Cell) rows (fun l => decide (List.length l ≤ 1048576) && U.okP (List.length l) l))
      (.ret (List.append (α := Line) out (List.flatMap (U.foldL (Int.toNat c)) rows))) .fail
abbrev E70 : Env := M70 fun key x => bif Nat.beq key 6 then p70_0.ls (fun a => (T70 a).map X70_0) x else none
theorem L70 : LoopOK (evI 2) (E70.lend 0) (lc Tryd.f70 0) := by
  refine l70_0 (T := T70) (fun x => rfl) ?_
  rintro ⟨⟨c, rows, n, i, z⟩, out, z1⟩ r hh
  obtain ⟨g1, g2⟩ := pre_val hh
  rw [Bool.and_eq_true] at g1
  obtain ⟨g1, ga⟩ := g1
  have g1 : 1 ≤ (c : Int) ∧ (c : Int) ≤ 80 ∧ (n : Int) = (rows.length : Int) ∧ (i : Int) = 0 ∧ rows.length ≤ 1048576 ∧ out.length + (List.flatMap (U.foldL (Int.toNat c)) rows).length ≤ 4194304 := of_decide_eq_true g1
  obtain ⟨c1, c2, rfl, rfl, c3, c4⟩ := g1
  cases g2
  have := Rounds.flatA (B := b70_0) rows (fun i s => ((c, rows, (rows.length : Int), (i : Int), ()), s, ())) (U.foldL (Int.toNat c)) (fun s => s) 4194304 (fun i s hi hv => ?_) (fun s => ?_) rows.length 0 out (by omega) (by rw [List.drop_zero]; exact c4)
  · rw [List.drop_zero] at this
    exact this
  · have e : rget (.sl celk) rows (i : Int) = rows[i] := by rw [rget_nat]; exact getD_el hi
    have ok : (decide (rows[i].length ≤ 1048576) && U.okP rows[i].length rows[i]) = true := List.all_eq_true.1 ga _ (List.getElem_mem hi)
    rw [Bool.and_eq_true] at ok
    have o1 : rows[i].length ≤ 1048576 := of_decide_eq_true ok.1
    have e9 : decide ((i : Int) < (rows.length : Int)) = true := decide_eq_true (by omega)
    have e8 : decide ((s.length + (U.foldL (Int.toNat c) rows[i]).length) * 32 ≤ 140737488355328) = true := decide_eq_true (by
      rw [List.drop_eq_getElem_cons hi, List.flatMap_cons, List.length_append] at hv
      omega)
    simp only [b70_0, B70_0, Tr.val, e, e8, e9, c1, c2, o1, ok.2, inB_nat hi, and_self, decide_true, Bool.and_self, cond_true, wrap64_nat (show i ≤ 1048576 by omega)]
  · simp only [b70_0, B70_0, Tr.val, show ¬ ((rows.length : Int) < (rows.length : Int)) by omega, decide_false, cond_false]
def d70 (a : List Line) (b : Int) : Tr (List Line × Int) :=
 let v1 : List (List Cell) × Int := (bif U.may a then (U.joinL a [], (0 : Int)) else ([], (1 : Int)))
 let v2 : Int := (v1.snd)
 let v3 : List (List Cell) := (v1.fst)
 let v4 : Int := ((↑(List.length v3) : Int))
 let v5 : List Line := (List.flatMap (U.foldL (Int.toNat b)) v3)
 let v6 : Int := ((↑(List.length v3) : Int))
 Tr.ite (U.okl a && decide (U.cells a ≤ (1048576 : Nat))) (Tr.ite (!decide (v2 = (0 : Int))) (Tr.ret ([], (1 : Int))) (Tr.ite (decide (b < (1 : Int))) (Tr.ret ([], (1 : Int))) (Tr.ite (decide ((80 : Int) < b)) (Tr.ret ([], (1 : Int))) (Tr.ite (decide ((1 : Int) ≤ b ∧ b ≤ (80 : Int) ∧ v6 = v4 ∧ (0 : Int) = (0 : Int) ∧ List.length v3 ≤ (1048576 : Nat) ∧ (0 : Nat) + List.length v5 ≤ (4194304 : Nat)) && List.all v3 fun (l : List Cell) => decide (List.length l ≤ (1048576 : Nat)) && U.okP (List.length l) l) (Tr.ret (List.append [] v5, (0 : Int))) Tr.fail)))) Tr.fail
def e70 (r : List Line × Int) : FRes := { rs := Slot.tup [AV.one (Leaf.dat (Kd.sl link) r.fst), AV.one (Leaf.dat (.int .i64) r.snd)], upd := [], new := [] }
@[reducible] def a70 : List AK := [AK.d (Kd.sl link), AK.d (.int .i64)]
@[reducible] def b70 : List BK := []
theorem t70 (a : List Line) (b : Int) : evFn (E70) Tryd.f70 [PM.data (Kd.sl link), PM.data (.int .i64)] (akAV a70 (a, b, ())) (bkBs b70 ()) = (d70 a b).map e70 := by kernel_rfl
def s70 (C : akT a70 → Bool) (G : akT a70 → List Line × Int) : FSpec := aspec a70 b70 e70 (fun x _ => C x) (fun x _ => G x)
theorem k70 {C : akT a70 → Bool} {G : akT a70 → List Line × Int} (hd : ∀ (a : List Line) (b : Int), C (a, b, ()) = true → (d70 a b).val = some (G (a, b, ()))) (IO : ItOK Tryd.prog (E70) := by exact itOK_none rfl) (L : ∀ c, Tryd.f70.body = some c → LsOK (evI 2) ((E70).lend 0) c := by exact fun c _ => LsOK_none rfl c) : SpecOK Tryd.prog E0 70 (s70 C G) :=
  aspec_ok (ak := a70) (bl := b70) (e := e70) (c := fun x _ => C x) (g := fun x _ => G x) (E0 := E0) (E := E70) tab AG70 rfl rfl hm Tryd.func70 (by kernel_rfl) [PM.data (Kd.sl link), PM.data (.int .i64)] (fun X Y H => by obtain ⟨a, ⟨b, _⟩⟩ := X; exact val_of (t70 a b) (hd a b H)) IO L
end Go.Proofs.YtmnbcnhpklejcaaDoor
namespace U
def flowL (l : List Ln) (n : Nat) : List Ln := (joinL l []).flatMap (foldL n)
end U
namespace Go.Proofs.YtmnbcnhpklejcaaDoor
abbrev w70 : FSpec := s70 (fun x => U.okl x.1 && decide (U.cells x.1 ≤ 1048576)) fun x => bif U.may x.1 && (decide (1 ≤ (x.2.1 : Int)) && decide ((x.2.1 : Int) ≤ 80)) then (U.flowL x.1 x.2.1.toNat, (0 : Int)) else ([], (1 : Int))
theorem wk70 : SpecOK Tryd.prog E0 70 w70 := by
  refine k70 (fun l c H => ?_) (L := ls_ok (lcs := [lc Tryd.f70 0]) (rgs := []) (by kernel_rfl) (by kernel_rfl) L70 trivial)
  have H : (U.okl l && decide (U.cells l ≤ 1048576)) = true := H
  have H' := H
  rw [Bool.and_eq_true] at H
  obtain ⟨gk, g2⟩ := H
  have g2 : U.cells l ≤ 1048576 := of_decide_eq_true g2
  show _ = some (bif U.may l && (decide (1 ≤ c) && decide (c ≤ 80)) then (U.flowL l c.toNat, (0 : Int)) else ([], (1 : Int)))
  simp only [d70, Tr.val, H', cond_true]
  cases hm : U.may l with
  | false => simp only [cond_false, Bool.false_and, show ¬ ((1 : Int) = 0) by decide, decide_false, Bool.not_false, cond_true]
  | true =>
    by_cases c1 : 1 ≤ c
    · by_cases c2 : c ≤ 80
      · rw [U.may_mayL, Bool.and_eq_true] at hm
        obtain ⟨j1, j2⟩ := U.joinL_good l [] (U.mayL_fit hm.1 gk) .nil
        have j3 : l.length ≤ 200 := by have := of_decide_eq_true hm.2; omega
        have a2 : ((U.joinL l []).all fun l => decide (List.length l ≤ 1048576) && U.okP (List.length l) l) = true := List.all_eq_true.2 fun r hr => by
          obtain ⟨g3, g4⟩ := j1 r hr
          rw [Bool.and_eq_true]
          exact ⟨decide_eq_true (by simp only [List.length_nil] at g4; omega), U.wh_okP g3.1 _ (Nat.le_refl _)⟩
        have j4 := U.flat_len (Int.toNat c) (U.joinL l [])
        have j5 := U.join_sum l []
        simp only [List.length_nil] at j5
        have a3 : 0 + (List.flatMap (U.foldL (Int.toNat c)) (U.joinL l [])).length ≤ 4194304 := by omega
        have a4 : (U.joinL l []).length ≤ 1048576 := by omega
        simp only [cond_true, c1, c2, show ¬ c < 1 by omega, show ¬ (80 : Int) < c by omega, a2, a3, a4, List.length_nil, decide_true, decide_false, Bool.not_true, Bool.and_self, and_self, cond_false]
        rfl
      · simp only [cond_true, c1, c2, show ¬ c < 1 by omega, show (80 : Int) < c by omega, decide_true, decide_false, Bool.not_true, Bool.true_and, cond_false]
    · simp only [cond_true, c1, show c < 1 by omega, decide_true, decide_false, Bool.not_true, Bool.true_and, Bool.false_and, cond_false]
def live124 (key : Nat) : Lv :=
  bif Nat.beq key 3 then { ls := [1, 6, 7], wd := [⟨7, some 0, .row 48 celk⟩] } else bif Nat.beq key 1003 then { ls := [6, 7] } else
  { ls := [] }
abbrev M124 (ls : Nat → VS → Option (Tr (Ex × VS))) : Env := E0.loops live124 ls
@[reducible] def p124_0 : LP := { n := 27, sl := [.d (.int .i64), .c (Leaf.ptr ( 0) ( 0)), .c (Leaf.ptr ( 1) ( 0))], bl := [(0, .box [.c (Leaf.nils), .d (Kd.bool)]), (1, .box [.c (Leaf.row ( 2)), .d (Kd.bool)]), (2, .row 48 (celk))] }
def B124_0 (x0 : Int) (h0_1 : Bool) (h1_1 : Bool) (h2 : List Cell) : Tr (p124_0.T ⊕ (Bool × Bool × List Cell)) :=
 let v1 : Int := ((↑(List.length h2) : Int))
 Tr.ite (decide (v1 < x0)) (Tr.ite (decide ((List.length h2 + (1 : Nat)) * (48 : Nat) ≤ (140737488355328 : Nat))) (Tr.ret (Sum.inl ((x0, ()), (h0_1, ()), (h1_1, ()), h2 ++ [(ByteArray.empty, (1 : Int), ((0 : Int), (0 : Int), (0 : Int), ()), ())], ()))) Tr.fail) (Tr.ret (Sum.inr (h0_1, h1_1, h2)))
def X124_0 (r : (Bool × Bool × List Cell)) : Ex × VS := Prod.mk (Ex.exit ( 0)) { n := 27, v := [Slot.av (AV.one (Leaf.ptr ( 0) ( 0))), Slot.av (AV.one (Leaf.ptr ( 1) ( 0)))], h := [( 0, Blk.box [Leaf.nils, Leaf.dat Kd.bool r.fst]), ( 1, Blk.box [Leaf.row ( 2), Leaf.dat Kd.bool r.snd.fst]), ( 2, Blk.row ( 48) celk r.snd.snd)] }
def b124_0 : p124_0.T → Tr (p124_0.T ⊕ (Bool × Bool × List Cell)) := fun ⟨⟨x0, _⟩, ⟨⟨h0_1, _⟩, ⟨⟨h1_1, _⟩, ⟨h2, _⟩⟩⟩⟩ => B124_0 x0 h0_1 h1_1 h2
theorem h124_0 (ls : Nat → VS → Option (Tr (Ex × VS))) (x : p124_0.T) : (evC (evI 2) (lc Tryd.f124 0) (Env.lend (M124 ls) 0) (unV (live124 3) (p124_0.V x))).map (decL 0 (live124 3) (live124 1003)) = (b124_0 x).map (encR p124_0.V X124_0) := by
  obtain ⟨⟨x0, _⟩, ⟨⟨h0_1, _⟩, ⟨⟨h1_1, _⟩, ⟨h2, _⟩⟩⟩⟩ := x; kernel_rfl
theorem c124_0 (x : p124_0.T) : canV 0 (live124 3) (unV (live124 3) (p124_0.V x)) = p124_0.V x := by
  obtain ⟨⟨x0, _⟩, ⟨⟨h0_1, _⟩, ⟨⟨h1_1, _⟩, ⟨h2, _⟩⟩⟩⟩ := x; kernel_rfl
theorem l124_0 {T : p124_0.T → Tr (Bool × Bool × List Cell)} {ls : Nat → VS → Option (Tr (Ex × VS))} (hls : ∀ x, (Env.lend (M124 ls) 0).ls 3 x = p124_0.ls (fun a => (T a).map X124_0) x) (hS : ∀ x r, (T x).val = some r → Rounds b124_0 x r) : LoopOK (evI 2) (Env.lend (M124 ls) 0) (lc Tryd.f124 0) :=
  loopA 3 (live124 3) (live124 1003) p124_0 b124_0 X124_0 T (by kernel_rfl) rfl rfl hls (h124_0 ls) c124_0 hS
def T124 (x : p124_0.T) : Tr (Bool × Bool × List Cell) :=
  match x with
  | ⟨⟨n, _⟩, ⟨a, _⟩, ⟨b, _⟩, l, _⟩ => .ite (decide (0 ≤ (n : Int) ∧ (n : Int) ≤ 1048576 ∧ List.length (α := Cell) l ≤ 1048576)) (.ret (a, b, U.fillL l (Int.toNat n))) .fail
abbrev E124 : Env := M124 fun key x => bif Nat.beq key 3 then p124_0.ls (fun a => (T124 a).map X124_0) x else none
theorem R124 (n : Nat) (hn : n ≤ 1048576) (a b : Bool) : ∀ (k : Nat) (l : List Cell), n - l.length = k → Rounds b124_0 (((n : Int), ()), (a, ()), (b, ()), l, ()) (a, b, U.fillL l n)
  | 0, l, h => by
    refine .exit ?_
    have c : decide ((l.length : Int) < (n : Int)) = false := decide_eq_false (by omega)
    simp only [b124_0, B124_0, Tr.val, c, cond_false]
    unfold U.fillL
    rw [h, List.replicate_zero, List.append_nil]
  | k + 1, l, h => by
    have ih := R124 n hn a b k (l ++ [U.noneC]) (by rw [List.length_append, List.length_singleton]; omega)
    have e : U.fillL (l ++ [U.noneC]) n = U.fillL l n := by
      unfold U.fillL
      rw [List.length_append, List.length_singleton, h, show n - (l.length + 1) = k by omega, List.append_assoc, List.replicate_succ]
      rfl
    rw [e] at ih
    refine .step ?_ ih
    have c : decide ((l.length : Int) < (n : Int)) = true := decide_eq_true (by omega)
    have c1 : decide ((l.length + 1) * 48 ≤ 140737488355328) = true := decide_eq_true (by omega)
    simp only [b124_0, B124_0, Tr.val, c, c1, cond_true]
    rfl
theorem L124 : LoopOK (evI 2) (E124.lend 0) (lc Tryd.f124 0) := by
  refine l124_0 (T := T124) (fun x => rfl) ?_
  rintro ⟨⟨n, z⟩, ⟨a, z1⟩, ⟨b, z2⟩, l, z3⟩ r hh
  obtain ⟨g1, g2⟩ := pre_val hh
  have g1 : 0 ≤ (n : Int) ∧ (n : Int) ≤ 1048576 ∧ l.length ≤ 1048576 := of_decide_eq_true g1
  obtain ⟨c1, c2, c3⟩ := g1
  obtain ⟨m, rfl⟩ := Int.eq_ofNat_of_zero_le c1
  cases g2
  have c2 : (m : Int) ≤ 1048576 := c2
  exact R124 m (by omega) a b _ l rfl
def d124 (a : List Cell) (b : Int) (c : Bool) : Tr (List U.Cl × Bool) :=
 Tr.ite (decide (List.length a * (48 : Nat) ≤ (140737488355328 : Nat))) (Tr.ite (decide ((0 : Int) ≤ b ∧ b ≤ (1048576 : Int) ∧ List.length a ≤ (1048576 : Nat))) (Tr.ret (U.fillL a (Int.toNat b), c)) Tr.fail) Tr.fail
def e124 (r : List U.Cl × Bool) : FRes := { rs := Slot.av (AV.agg [Leaf.dat (Kd.sl celk) r.fst, Leaf.dat Kd.bool r.snd]), upd := [], new := [] }
@[reducible] def a124 : List AK := [AK.d (Kd.sl celk), AK.d (.int .i64), AK.d Kd.bool]
@[reducible] def b124 : List BK := []
theorem t124 (a : List Cell) (b : Int) (c : Bool) : evFn (E124) Tryd.f124 [PM.data link] (akAV a124 (a, b, c, ())) (bkBs b124 ()) = (d124 a b c).map e124 := by kernel_rfl
def s124 (C : akT a124 → Bool) (G : akT a124 → List U.Cl × Bool) : FSpec := aspec a124 b124 e124 (fun x _ => C x) (fun x _ => G x)
theorem k124 {C : akT a124 → Bool} {G : akT a124 → List U.Cl × Bool} (hd : ∀ (a : List Cell) (b : Int) (c : Bool), C (a, b, c, ()) = true → (d124 a b c).val = some (G (a, b, c, ()))) (IO : ItOK Tryd.prog (E124) := by exact itOK_none rfl) (L : ∀ c, Tryd.f124.body = some c → LsOK (evI 2) ((E124).lend 0) c := by exact fun c _ => LsOK_none rfl c) : SpecOK Tryd.prog E0 124 (s124 C G) :=
  aspec_ok (ak := a124) (bl := b124) (e := e124) (c := fun x _ => C x) (g := fun x _ => G x) (E0 := E0) (E := E124) tab .nil rfl rfl hm Tryd.func124 (by kernel_rfl) [PM.data link] (fun X Y H => by obtain ⟨a, ⟨b, ⟨c, _⟩⟩⟩ := X; exact val_of (t124 a b c) (hd a b c H)) IO L
abbrev w124 : FSpec := s124 (fun x => decide (0 ≤ (x.2.1 : Int) ∧ (x.2.1 : Int) ≤ 1048576 ∧ List.length (α := Cell) x.1 ≤ 1048576)) fun x => (U.fillL x.1 x.2.1.toNat, x.2.2.1)
theorem wk124 : SpecOK Tryd.prog E0 124 w124 := by
  refine k124 (fun l n b H => ?_) (L := ls_ok (lcs := [lc Tryd.f124 0]) (rgs := []) (by kernel_rfl) (by kernel_rfl) L124 trivial)
  have H : 0 ≤ (n : Int) ∧ (n : Int) ≤ 1048576 ∧ l.length ≤ 1048576 := of_decide_eq_true H
  obtain ⟨c1, c2, c3⟩ := H
  have c4 : decide ((0 + l.length) * 48 ≤ 140737488355328) = true := decide_eq_true (by omega)
  have c5 : decide (l.length * 48 ≤ 140737488355328) = true := decide_eq_true (by omega)
  simp only [d124, Tr.val, c1, c2, c3, c4, c5, and_self, decide_true, cond_true]
def live72 (key : Nat) : Lv :=
  bif Nat.beq key 25008 then { ls := [9999, 0, 1, 5, 6, 7, 8, 31] } else bif Nat.beq key 45008 then { ls := [21, 22, 23, 24, 25, 26, 27, 28, 29, 30, 31] } else
  bif Nat.beq key 20020 then { ls := [9999, 0, 1, 5, 6, 7, 8] } else bif Nat.beq key 40020 then { ls := [8] } else
  bif Nat.beq key 4 then { ls := [0, 1, 5, 6, 7], wd := [⟨5, none, .row 34 link⟩, ⟨6, none, .row 48 celk⟩] } else bif Nat.beq key 1004 then { ls := [1, 5, 6] } else
  { ls := [] }
abbrev M72 (ls : Nat → VS → Option (Tr (Ex × VS))) : Env := (E0.withFns [(124, w124)]).loops live72 ls
@[reducible] def p72_0 : LP := { n := 60, sl := [.d (Kd.sl celk), .d (.int .i64), .c (Leaf.row ( 0)), .c (Leaf.row ( 1)), .d (.int .i64)], bl := [(0, .row 34 (link)), (1, .row 48 (celk))] }
def B72_0 (x0 : List Cell) (x1 : Int) (x4 : Int) (h0 : List Line) (h1 : List Cell) : Tr (p72_0.T ⊕ (Int × List Line × List Cell)) :=
 let v1 : Int := ((↑(List.length x0) : Int))
 let v2 : Bool := (Kd.eqb (Kd.sl link) h0 h0 && Kd.eqb (Kd.sl celk) h1 h1)
 let v3 : Int := (IntKind.wrap IntKind.i64 (x4 + bif decide ((rget celk x0 x4).snd.fst = (2 : Int)) then (2 : Int) else (1 : Int)))
 let v4 : Int := (IntKind.wrap IntKind.i64 ((↑(List.length h1) : Int) + bif decide ((rget celk x0 x4).snd.fst = (2 : Int)) then (2 : Int) else (1 : Int)))
 let v5 : List Cell := (sub x0 (Int.toNat x4) (Int.toNat v3))
 let v6 : Bool := (decide ((bif decide ((rget celk x0 x4).snd.fst = (2 : Int)) then (2 : Int) else (1 : Int)) ≤ x1))
 let v7 : Bool := (decide ((0 : Int) ≤ x4 ∧ x4 ≤ v3 ∧ v3 ≤ v1))
 Tr.ite (decide (x4 < v1)) (Tr.ite (inB x4 (List.length x0)) (Tr.ite (Kd.eqb (Kd.sl celk) x0 x0 && (Kd.eqb (.int .i64) x1 x1 && Kd.eqb (.int .i64) x4 x4) && v2) (Tr.ite (Kd.eqb (Kd.sl celk) x0 x0 && (Kd.eqb (.int .i64) x1 x1 && (Kd.eqb (.int .i64) x4 x4 && Kd.eqb (.int .i64) (bif decide ((rget celk x0 x4).snd.fst = (2 : Int)) then (2 : Int) else (1 : Int)) (bif decide ((rget celk x0 x4).snd.fst = (2 : Int)) then (2 : Int) else (1 : Int)))) && v2) (Tr.ite (bif v6 then decide (x1 < v4) else false) (Tr.ite (decide ((0 : Int) ≤ x1 ∧ x1 ≤ (1048576 : Int) ∧ List.length h1 ≤ (1048576 : Nat))) (Tr.ite (decide ((List.length h0 + (1 : Nat)) * (32 : Nat) ≤ (140737488355328 : Nat))) (Tr.ite v6 (Tr.ite v7 (Tr.ite (decide (((0 : Nat) + List.length v5) * (48 : Nat) ≤ (140737488355328 : Nat))) (Tr.ret (Sum.inl ((x0, x1, v3, ()), h0 ++ [(U.fillL h1 (Int.toNat x1), true, ())], v5, ()))) Tr.fail) Tr.fail) (Tr.ret (Sum.inl ((x0, x1, v3, ()), h0 ++ [(U.fillL h1 (Int.toNat x1), true, ())], [], ())))) Tr.fail) Tr.fail) (Tr.ite v6 (Tr.ite v7 (Tr.ite (decide ((List.length h1 + List.length v5) * (48 : Nat) ≤ (140737488355328 : Nat))) (Tr.ret (Sum.inl ((x0, x1, v3, ()), h0, h1 ++ v5, ()))) Tr.fail) Tr.fail) (Tr.ret (Sum.inl ((x0, x1, v3, ()), h0, h1, ()))))) Tr.fail) Tr.fail) Tr.fail) (Tr.ret (Sum.inr (x1, h0, h1)))
def X72_0 (r : (Int × List Line × List Cell)) : Ex × VS := Prod.mk (Ex.exit ( 0)) { n := 60, v := [Slot.av (AV.one (Leaf.dat (.int .i64) r.fst)), Slot.av (AV.one (Leaf.row ( 0))), Slot.av (AV.one (Leaf.row ( 1)))], h := [( 0, Blk.row ( 34) link r.snd.fst), ( 1, Blk.row ( 48) celk r.snd.snd)] }
def b72_0 : p72_0.T → Tr (p72_0.T ⊕ (Int × List Line × List Cell)) := fun ⟨⟨x0, ⟨x1, ⟨x4, _⟩⟩⟩, ⟨h0, ⟨h1, _⟩⟩⟩ => B72_0 x0 x1 x4 h0 h1
theorem h72_0 (ls : Nat → VS → Option (Tr (Ex × VS))) (x : p72_0.T) : (evC (evI 2) (lc Tryd.f72 0) (Env.lend (M72 ls) 0) (unV (live72 4) (p72_0.V x))).map (decL 0 (live72 4) (live72 1004)) = (b72_0 x).map (encR p72_0.V X72_0) := by
  obtain ⟨⟨x0, ⟨x1, ⟨x4, _⟩⟩⟩, ⟨h0, ⟨h1, _⟩⟩⟩ := x; kernel_rfl
theorem c72_0 (x : p72_0.T) : canV 0 (live72 4) (unV (live72 4) (p72_0.V x)) = p72_0.V x := by
  obtain ⟨⟨x0, ⟨x1, ⟨x4, _⟩⟩⟩, ⟨h0, ⟨h1, _⟩⟩⟩ := x; kernel_rfl
theorem l72_0 {T : p72_0.T → Tr (Int × List Line × List Cell)} {ls : Nat → VS → Option (Tr (Ex × VS))} (hls : ∀ x, (Env.lend (M72 ls) 0).ls 4 x = p72_0.ls (fun a => (T a).map X72_0) x) (hS : ∀ x r, (T x).val = some r → Rounds b72_0 x r) : LoopOK (evI 2) (Env.lend (M72 ls) 0) (lc Tryd.f72 0) :=
  loopA 4 (live72 4) (live72 1004) p72_0 b72_0 X72_0 T (by kernel_rfl) rfl rfl hls (h72_0 ls) c72_0 hS
end Go.Proofs.YtmnbcnhpklejcaaDoor
namespace U
open Go.Proofs.YtmnbcnhpklejcaaDoor
theorem whB_head {c : Cl} {l : List Cl} (h : whB (c :: l) = true) : ((bif decide (c.2.1 = 2) then (2 : Int) else 1) = ((wd c : Nat) : Int)) ∧ wd c ≤ (c :: l).length ∧ wd c ≤ 2 ∧ whB ((c :: l).drop (wd c)) = true := by
  by_cases hc : c.2.1 = 2
  · cases l with
    | nil => simp [whB, hc] at h
    | cons d l =>
      have hd : d.2.1 = 0 := by
        have h : (if c.2.1 = 2 then decide (d.2.1 = 0) && whB l else decide (c.2.1 = 1) && whB (d :: l)) = true := h
        rw [if_pos hc, Bool.and_eq_true] at h
        exact of_decide_eq_true h.1
      rw [whB_two hc hd] at h
      rw [wd_two hc, decide_eq_true hc]
      exact ⟨rfl, by simp, by omega, h⟩
  · have hc1 : c.2.1 = 1 := by
      cases l with
      | nil => simpa [whB] using h
      | cons d l =>
        have h : (if c.2.1 = 2 then decide (d.2.1 = 0) && whB l else decide (c.2.1 = 1) && whB (d :: l)) = true := h
        rw [if_neg hc, Bool.and_eq_true] at h
        exact of_decide_eq_true h.1
    rw [whB_one hc1] at h
    rw [wd_one hc1, decide_eq_false hc]
    exact ⟨rfl, by simp, by omega, h⟩
end U
namespace Go.Proofs.YtmnbcnhpklejcaaDoor
def T72 (x : p72_0.T) : Tr (Int × List Line × List Cell) :=
  match x with
  | ⟨⟨l, n, i, _⟩, out, now, _⟩ => .ite (decide (1 ≤ (n : Int) ∧ (n : Int) ≤ 80 ∧ (i : Int) = 0 ∧ List.length (α := Line) out + List.length (α := Cell) l ≤ 1048576 ∧ (List.length (α := Cell) now : Int) ≤ (n : Int)) && U.whB l)
      (.ret (n, ((U.pcs (List.length (α := Cell) l) l).foldl (U.stepP (Int.toNat n)) (out, now)).1, ((U.pcs (List.length (α := Cell) l) l).foldl (U.stepP (Int.toNat n)) (out, now)).2)) .fail
abbrev E72 : Env := M72 fun key x => bif Nat.beq key 4 then p72_0.ls (fun a => (T72 a).map X72_0) x else none
theorem R72 (x0 : List Cell) (n : Nat) (h1 : 1 ≤ n) (h2 : n ≤ 80) (hx : x0.length ≤ 1048576) : ∀ (k i : Nat) (out : List Line) (now : List Cell), i ≤ x0.length → x0.length - i ≤ k → U.whB (x0.drop i) = true → out.length + (x0.length - i) ≤ 1048576 → now.length ≤ n →
    Rounds b72_0 ((x0, (n : Int), (i : Int), ()), out, now, ()) ((n : Int), ((U.pcs k (x0.drop i)).foldl (U.stepP n) (out, now)).1, ((U.pcs k (x0.drop i)).foldl (U.stepP n) (out, now)).2) := by
  intro k
  induction k with
  | zero =>
    intro i out now hi hk _ _ _
    have e : i = x0.length := by omega
    subst e
    rw [List.drop_length, U.pcs_nil]
    refine .exit ?_
    have c : decide ((x0.length : Int) < (x0.length : Int)) = false := decide_eq_false (by omega)
    simp only [b72_0, B72_0, Tr.val, c, cond_false, List.foldl_nil]
  | succ k ih =>
    intro i out now hi hk hw hb hn
    by_cases hlt : i < x0.length
    · have hd : x0.drop i = x0[i] :: x0.drop (i + 1) := List.drop_eq_getElem_cons hlt
      have e0 : rget celk x0 (i : Int) = x0[i] := by rw [rgetC]; exact getD_el hlt
      rw [hd] at hw ⊢
      generalize hc : x0[i] = c at *
      obtain ⟨w1, w2, w3, w4⟩ := U.whB_head hw
      rw [← hd] at w2 w4
      rw [List.length_drop] at w2
      rw [List.drop_drop] at w4
      have g0 := U.wd_pos c
      have e4 : ((c :: x0.drop (i + 1)).take (U.wd c)).length = U.wd c := by rw [← hd, List.length_take, List.length_drop]; omega
      have e5 : sub x0 i (i + U.wd c) = (c :: x0.drop (i + 1)).take (U.wd c) := by
        unfold sub
        rw [← hd, List.drop_take]
        congr 1
        omega
      have e6 : (c :: x0.drop (i + 1)).drop (U.wd c) = x0.drop (i + U.wd c) := by rw [← hd, List.drop_drop]
      have e7 : IntKind.wrap IntKind.i64 ((i : Int) + ((U.wd c : Nat) : Int)) = ((i + U.wd c : Nat) : Int) := by rw [Go.Ev.w64 (by omega) (by omega)]; omega
      have e8 : IntKind.wrap IntKind.i64 ((now.length : Int) + ((U.wd c : Nat) : Int)) = ((now.length + U.wd c : Nat) : Int) := by rw [Go.Ev.w64 (by omega) (by omega)]; omega
      have c1 : decide ((i : Int) < (x0.length : Int)) = true := decide_eq_true (by omega)
      have c2 : decide ((0 : Int) ≤ (i : Int) ∧ (i : Int) ≤ ((i + U.wd c : Nat) : Int) ∧ ((i + U.wd c : Nat) : Int) ≤ (x0.length : Int)) = true := decide_eq_true (by omega)
      have c3 : decide ((0 : Int) ≤ (n : Int) ∧ (n : Int) ≤ (1048576 : Int) ∧ now.length ≤ 1048576) = true := decide_eq_true (by omega)
      have c4 : decide ((out.length + 1) * 32 ≤ 140737488355328) = true := decide_eq_true (by omega)
      have c5 : decide ((0 + U.wd c) * 48 ≤ 140737488355328) = true := decide_eq_true (by omega)
      have c6 : decide ((now.length + U.wd c) * 48 ≤ 140737488355328) = true := decide_eq_true (by omega)
      have hu : U.pcs (k + 1) (c :: x0.drop (i + 1)) = (c :: x0.drop (i + 1)).take (U.wd c) :: U.pcs k (x0.drop (i + U.wd c)) := by
        show _ :: U.pcs k ((c :: x0.drop (i + 1)).drop (U.wd c)) = _
        rw [e6]
      rw [hu, List.foldl_cons]
      have fin : ∀ s : List Line × List Cell, s = U.stepP n (out, now) ((c :: x0.drop (i + 1)).take (U.wd c)) → s.1.length ≤ out.length + 1 → s.2.length ≤ n →
          (b72_0 ((x0, (n : Int), (i : Int), ()), out, now, ())).val = some (.inl ((x0, (n : Int), ((i + U.wd c : Nat) : Int), ()), s.1, s.2, ())) →
          Rounds b72_0 ((x0, (n : Int), (i : Int), ()), out, now, ()) ((n : Int), ((U.pcs k (x0.drop (i + U.wd c))).foldl (U.stepP n) (U.stepP n (out, now) ((c :: x0.drop (i + 1)).take (U.wd c)))).1, ((U.pcs k (x0.drop (i + U.wd c))).foldl (U.stepP n) (U.stepP n (out, now) ((c :: x0.drop (i + 1)).take (U.wd c)))).2) := by
        intro s hs hl1 hl2 hv
        rw [← hs]
        exact .step hv (ih (i + U.wd c) s.1 s.2 (by omega) (by omega) w4 (by omega) hl2)
      by_cases p1 : n < U.wd c
      · have q1 : decide (((U.wd c : Nat) : Int) ≤ (n : Int)) = false := decide_eq_false (by omega)
        refine fin (out, now) ?_ (by simp) hn ?_
        · unfold U.stepP; rw [e4, decide_eq_true p1]; rfl
        · simp only [b72_0, B72_0, Tr.val, e0, w1, eqb_self, inB_nat hlt, e7, e8, c1, q1, Bool.and_self, cond_true, cond_false]
      · have q1 : decide (((U.wd c : Nat) : Int) ≤ (n : Int)) = true := decide_eq_true (by omega)
        by_cases p2 : n < now.length + U.wd c
        · have q2 : decide ((n : Int) < ((now.length + U.wd c : Nat) : Int)) = true := decide_eq_true (by omega)
          refine fin (out ++ [(U.fillL now n, true, ())], (c :: x0.drop (i + 1)).take (U.wd c)) ?_ (by simp) (by show List.length ((c :: x0.drop (i + 1)).take (U.wd c)) ≤ n; omega) ?_
          · unfold U.stepP; rw [e4, decide_eq_false p1, decide_eq_true p2]; rfl
          · simp only [b72_0, B72_0, Tr.val, e0, w1, eqb_self, inB_nat hlt, e7, e8, e4, e5, Int.toNat_natCast, c1, c2, c3, c4, c5, q1, q2, Bool.and_self, cond_true]
        · have q2 : decide ((n : Int) < ((now.length + U.wd c : Nat) : Int)) = false := decide_eq_false (by omega)
          refine fin (out, now ++ (c :: x0.drop (i + 1)).take (U.wd c)) ?_ (by simp) (by show List.length (now ++ (c :: x0.drop (i + 1)).take (U.wd c)) ≤ n; rw [List.length_append]; omega) ?_
          · unfold U.stepP; rw [e4, decide_eq_false p1, decide_eq_false p2]; rfl
          · simp only [b72_0, B72_0, Tr.val, e0, w1, eqb_self, inB_nat hlt, e7, e8, e4, e5, Int.toNat_natCast, c1, c2, c6, q1, q2, Bool.and_self, cond_true, cond_false]
    · have e : i = x0.length := by omega
      subst e
      rw [List.drop_length, U.pcs_nil]
      refine .exit ?_
      have c : decide ((x0.length : Int) < (x0.length : Int)) = false := decide_eq_false (by omega)
      simp only [b72_0, B72_0, Tr.val, c, cond_false, List.foldl_nil]
theorem L72 : LoopOK (evI 2) (E72.lend 0) (lc Tryd.f72 0) := by
  refine l72_0 (T := T72) (fun x => rfl) ?_
  rintro ⟨⟨l, n, i, z⟩, out, now, z1⟩ r hh
  obtain ⟨g1, g2⟩ := pre_val hh
  rw [Bool.and_eq_true] at g1
  obtain ⟨g1, gk⟩ := g1
  have g1 : 1 ≤ (n : Int) ∧ (n : Int) ≤ 80 ∧ (i : Int) = 0 ∧ out.length + l.length ≤ 1048576 ∧ (now.length : Int) ≤ (n : Int) := of_decide_eq_true g1
  obtain ⟨c1, c2, rfl, c4, c5⟩ := g1
  obtain ⟨m, rfl⟩ := Int.eq_ofNat_of_zero_le (a := n) (Int.le_trans (by decide) c1)
  have c1 : (1 : Int) ≤ (m : Int) := c1
  have c2 : (m : Int) ≤ 80 := c2
  have c5 : (now.length : Int) ≤ (m : Int) := c5
  cases g2
  have := R72 l m (by omega) (by omega) (by omega) l.length 0 out now (by omega) (by omega) (by rw [List.drop_zero]; exact gk) (by omega) (by omega)
  rw [List.drop_zero] at this
  exact this
def d72 (a : List Cell) (b : Int) : Tr (List Line) :=
 let v1 : List U.Ln × List U.Cl := (List.foldl (U.stepP (Int.toNat b)) ([], []) (U.pcs (List.length a) a))
 let v2 : List Cell := (v1.snd)
 let v3 : List Line := (v1.fst)
 Tr.ite (decide ((1 : Int) ≤ b ∧ b ≤ (80 : Int) ∧ (0 : Int) = (0 : Int) ∧ (0 : Nat) + List.length a ≤ (1048576 : Nat) ∧ (0 : Int) ≤ b) && U.whB a) (Tr.ite (decide ((0 : Int) ≤ b ∧ b ≤ (1048576 : Int) ∧ List.length v2 ≤ (1048576 : Nat))) (Tr.ite (decide ((List.length v3 + (1 : Nat)) * (32 : Nat) ≤ (140737488355328 : Nat))) (Tr.ret (v3 ++ [(U.fillL v2 (Int.toNat b), false, ())])) Tr.fail) Tr.fail) Tr.fail
def e72 (r : List Line) : FRes := { rs := Slot.av (AV.one (Leaf.dat (Kd.sl link) r)), upd := [], new := [] }
@[reducible] def a72 : List AK := [AK.d (Kd.sl celk), AK.d (.int .i64)]
@[reducible] def b72 : List BK := []
theorem t72 (a : List Cell) (b : Int) : evFn (E72) Tryd.f72 [PM.data (Kd.sl link)] (akAV a72 (a, b, ())) (bkBs b72 ()) = (d72 a b).map e72 := by kernel_rfl
def s72 (C : akT a72 → Bool) (G : akT a72 → List Line) : FSpec := aspec a72 b72 e72 (fun x _ => C x) (fun x _ => G x)
theorem k72 {C : akT a72 → Bool} {G : akT a72 → List Line} (hd : ∀ (a : List Cell) (b : Int), C (a, b, ()) = true → (d72 a b).val = some (G (a, b, ()))) (IO : ItOK Tryd.prog (E72) := by exact itOK_none rfl) (L : ∀ c, Tryd.f72.body = some c → LsOK (evI 2) ((E72).lend 0) c := by exact fun c _ => LsOK_none rfl c) : SpecOK Tryd.prog E0 72 (s72 C G) :=
  aspec_ok (ak := a72) (bl := b72) (e := e72) (c := fun x _ => C x) (g := fun x _ => G x) (E0 := E0) (E := E72) tab (.cons wk124 .nil) rfl rfl hm Tryd.func72 (by kernel_rfl) [PM.data (Kd.sl link)] (fun X Y H => by obtain ⟨a, ⟨b, _⟩⟩ := X; exact val_of (t72 a b) (hd a b H)) IO L
abbrev w72 : FSpec := s72 (fun x => decide (1 ≤ (x.2.1 : Int) ∧ (x.2.1 : Int) ≤ 80 ∧ List.length (α := Cell) x.1 ≤ 1048576) && U.whB x.1) fun x => U.foldL x.2.1.toNat x.1
theorem wk72 : SpecOK Tryd.prog E0 72 w72 := by
  refine k72 (fun l n H => ?_) (L := ls_ok (lcs := [lc Tryd.f72 0]) (rgs := []) (by kernel_rfl) (by kernel_rfl) L72 trivial)
  have H : (decide (1 ≤ n ∧ n ≤ 80 ∧ l.length ≤ 1048576) && U.whB l) = true := H
  rw [Bool.and_eq_true] at H
  obtain ⟨h1, h2, h3⟩ := of_decide_eq_true H.1
  obtain ⟨m, rfl⟩ := Int.eq_ofNat_of_zero_le (a := n) (Int.le_trans (by decide) h1)
  have k1 := U.foldl_small m (U.pcs l.length l) ([], []) (by simp)
  have k2 := U.pcs_len l.length l
  have k1' : ((U.pcs l.length l).foldl (U.stepP m) ([], [])).2.length ≤ m ∧ ((U.pcs l.length l).foldl (U.stepP m) ([], [])).1.length ≤ 0 + (U.pcs l.length l).length := k1
  have h2 : (m : Int) ≤ 80 := h2
  have h1 : (1 : Int) ≤ (m : Int) := h1
  have h3' : 0 + l.length ≤ 1048576 := by omega
  have h4 : (0 : Int) ≤ (m : Int) := by omega
  have h5 : (m : Int) ≤ 1048576 := by omega
  have c1 : ((U.pcs l.length l).foldl (U.stepP m) ([], [])).2.length ≤ 1048576 := by omega
  have c2 : (((U.pcs l.length l).foldl (U.stepP m) ([], [])).1.length + 1) * 32 ≤ 140737488355328 := by omega
  show _ = some (U.foldL m l)
  simp only [d72, Tr.val, Int.toNat_natCast, h1, h2, h3', h4, h5, c1, c2, H.2, List.length_nil, show ((0 : Nat) : Int) = 0 from rfl, and_self, decide_true, Bool.and_self, cond_true]
  rfl
def live73 (key : Nat) : Lv :=
  bif Nat.beq key 3 then { ls := [1, 5, 10, 11, 12], wd := [⟨5, none, .row 34 link⟩] } else bif Nat.beq key 1003 then { ls := [5] } else
  { ls := [] }
abbrev G73 : List (Nat × FSpec) := [(55, w55), (72, w72)]
theorem AG73 : AllFn Tryd.prog E0 G73 := .cons wk55 (.cons wk72 .nil)
abbrev M73 (ls : Nat → VS → Option (Tr (Ex × VS))) : Env := (E0.withFns G73).loops live73 ls
@[reducible] def p73_0 : LP := { n := 23, sl := [.d (.int .i64), .c (Leaf.row ( 0)), .d (Kd.sl (Kd.sl celk)), .d (.int .i64), .d (.int .i64)], bl := [(0, .row 34 (link))] }
def B73_0 (x0 : Int) (x2 : List (List Cell)) (x3 : Int) (x4 : Int) (h0 : List Line) : Tr (p73_0.T ⊕ (List Line)) :=
 let v1 : List U.Ln := (U.foldL (Int.toNat x0) (rget (Kd.sl celk) x2 x4))
 Tr.ite (decide (x4 < x3)) (Tr.ite (inB x4 (List.length x2)) (Tr.ite (decide ((1 : Int) ≤ x0 ∧ x0 ≤ (80 : Int) ∧ List.length (rget (Kd.sl celk) x2 x4) ≤ (1048576 : Nat)) && U.whB (rget (Kd.sl celk) x2 x4)) (Tr.ite (decide ((List.length h0 + List.length v1) * (32 : Nat) ≤ (140737488355328 : Nat))) (Tr.ret (Sum.inl ((x0, x2, x3, IntKind.wrap IntKind.i64 (x4 + (1 : Int)), ()), h0 ++ v1, ()))) Tr.fail) Tr.fail) Tr.fail) (Tr.ret (Sum.inr h0))
def X73_0 (r : (List Line)) : Ex × VS := Prod.mk (Ex.exit ( 0)) { n := 23, v := [Slot.av (AV.one (Leaf.row ( 0)))], h := [( 0, Blk.row ( 34) link r)] }
def b73_0 : p73_0.T → Tr (p73_0.T ⊕ (List Line)) := fun ⟨⟨x0, ⟨x2, ⟨x3, ⟨x4, _⟩⟩⟩⟩, ⟨h0, _⟩⟩ => B73_0 x0 x2 x3 x4 h0
theorem h73_0 (ls : Nat → VS → Option (Tr (Ex × VS))) (x : p73_0.T) : (evC (evI 2) (lc Tryd.f73 0) (Env.lend (M73 ls) 0) (unV (live73 3) (p73_0.V x))).map (decL 0 (live73 3) (live73 1003)) = (b73_0 x).map (encR p73_0.V X73_0) := by
  obtain ⟨⟨x0, ⟨x2, ⟨x3, ⟨x4, _⟩⟩⟩⟩, ⟨h0, _⟩⟩ := x; kernel_rfl
theorem c73_0 (x : p73_0.T) : canV 0 (live73 3) (unV (live73 3) (p73_0.V x)) = p73_0.V x := by
  obtain ⟨⟨x0, ⟨x2, ⟨x3, ⟨x4, _⟩⟩⟩⟩, ⟨h0, _⟩⟩ := x; kernel_rfl
theorem l73_0 {T : p73_0.T → Tr (List Line)} {ls : Nat → VS → Option (Tr (Ex × VS))} (hls : ∀ x, (Env.lend (M73 ls) 0).ls 3 x = p73_0.ls (fun a => (T a).map X73_0) x) (hS : ∀ x r, (T x).val = some r → Rounds b73_0 x r) : LoopOK (evI 2) (Env.lend (M73 ls) 0) (lc Tryd.f73 0) :=
  loopA 3 (live73 3) (live73 1003) p73_0 b73_0 X73_0 T (by kernel_rfl) rfl rfl hls (h73_0 ls) c73_0 hS
def T73 (x : p73_0.T) : Tr (List Line) :=
  match x with
  | ⟨⟨c, rows, n, i, _⟩, out, _⟩ =>
    .ite (decide (1 ≤ (c : Int) ∧ (c : Int) ≤ 80 ∧ (n : Int) = (List.length (α := List Cell) rows : Int) ∧ (i : Int) = 0 ∧ List.length (α := List Cell) rows ≤ 1048576 ∧ List.length (α := Line) out + List.length (α := Line) (List.flatMap (U.foldL (Int.toNat c)) rows) ≤ 4194304) && List.all (α := List Cell) rows (fun l => decide (List.length l ≤ 1048576) && U.whB l))
      (.ret (List.append (α := Line) out (List.flatMap (U.foldL (Int.toNat c)) rows))) .fail
abbrev E73 : Env := M73 fun key x => bif Nat.beq key 3 then p73_0.ls (fun a => (T73 a).map X73_0) x else none
theorem L73 : LoopOK (evI 2) (E73.lend 0) (lc Tryd.f73 0) := by
  refine l73_0 (T := T73) (fun x => rfl) ?_
  rintro ⟨⟨c, rows, n, i, z⟩, out, z1⟩ r hh
  obtain ⟨g1, g2⟩ := pre_val hh
  rw [Bool.and_eq_true] at g1
  obtain ⟨g1, ga⟩ := g1
  have g1 : 1 ≤ (c : Int) ∧ (c : Int) ≤ 80 ∧ (n : Int) = (rows.length : Int) ∧ (i : Int) = 0 ∧ rows.length ≤ 1048576 ∧ out.length + (List.flatMap (U.foldL (Int.toNat c)) rows).length ≤ 4194304 := of_decide_eq_true g1
  obtain ⟨c1, c2, rfl, rfl, c3, c4⟩ := g1
  cases g2
  have := Rounds.flatA (B := b73_0) rows (fun i s => ((c, rows, (rows.length : Int), (i : Int), ()), s, ())) (U.foldL (Int.toNat c)) (fun s => s) 4194304 (fun i s hi hv => ?_) (fun s => ?_) rows.length 0 out (by omega) (by rw [List.drop_zero]; exact c4)
  · rw [List.drop_zero] at this
    exact this
  · have e : rget (.sl celk) rows (i : Int) = rows[i] := by rw [rget_nat]; exact getD_el hi
    have ok : (decide (rows[i].length ≤ 1048576) && U.whB rows[i]) = true := List.all_eq_true.1 ga _ (List.getElem_mem hi)
    rw [Bool.and_eq_true] at ok
    have o1 : rows[i].length ≤ 1048576 := of_decide_eq_true ok.1
    have e9 : decide ((i : Int) < (rows.length : Int)) = true := decide_eq_true (by omega)
    have e8 : decide ((s.length + (U.foldL (Int.toNat c) rows[i]).length) * 32 ≤ 140737488355328) = true := decide_eq_true (by
      rw [List.drop_eq_getElem_cons hi, List.flatMap_cons, List.length_append] at hv
      omega)
    simp only [b73_0, B73_0, Tr.val, e, e8, e9, c1, c2, o1, ok.2, inB_nat hi, and_self, decide_true, Bool.and_self, cond_true, wrap64_nat (show i ≤ 1048576 by omega)]
  · simp only [b73_0, B73_0, Tr.val, show ¬ ((rows.length : Int) < (rows.length : Int)) by omega, decide_false, cond_false]
def d73 (a : List Line) (b : Int) : Tr (List Line) :=
 let v1 : Int := ((↑(List.length (U.joinL a [])) : Int))
 let v2 : List Line := (List.flatMap (U.foldL (Int.toNat b)) (U.joinL a []))
 let v3 : Int := ((↑(List.length (U.joinL a [])) : Int))
 Tr.ite (U.okl a && decide (U.cells a ≤ (1048576 : Nat))) (Tr.ite (decide ((1 : Int) ≤ b ∧ b ≤ (80 : Int) ∧ v3 = v1 ∧ (0 : Int) = (0 : Int) ∧ List.length (U.joinL a []) ≤ (1048576 : Nat) ∧ (0 : Nat) + List.length v2 ≤ (4194304 : Nat)) && List.all (U.joinL a []) fun (l : List Cell) => decide (List.length l ≤ (1048576 : Nat)) && U.whB l) (Tr.ret (List.append [] v2)) Tr.fail) Tr.fail
def e73 (r : List Line) : FRes := { rs := Slot.av (AV.one (Leaf.dat (Kd.sl link) r)), upd := [], new := [] }
@[reducible] def a73 : List AK := [AK.d (Kd.sl link), AK.d (.int .i64)]
@[reducible] def b73 : List BK := []
theorem t73 (a : List Line) (b : Int) : evFn (E73) Tryd.f73 [PM.data (Kd.sl link)] (akAV a73 (a, b, ())) (bkBs b73 ()) = (d73 a b).map e73 := by kernel_rfl
def s73 (C : akT a73 → Bool) (G : akT a73 → List Line) : FSpec := aspec a73 b73 e73 (fun x _ => C x) (fun x _ => G x)
theorem k73 {C : akT a73 → Bool} {G : akT a73 → List Line} (hd : ∀ (a : List Line) (b : Int), C (a, b, ()) = true → (d73 a b).val = some (G (a, b, ()))) (IO : ItOK Tryd.prog (E73) := by exact itOK_none rfl) (L : ∀ c, Tryd.f73.body = some c → LsOK (evI 2) ((E73).lend 0) c := by exact fun c _ => LsOK_none rfl c) : SpecOK Tryd.prog E0 73 (s73 C G) :=
  aspec_ok (ak := a73) (bl := b73) (e := e73) (c := fun x _ => C x) (g := fun x _ => G x) (E0 := E0) (E := E73) tab AG73 rfl rfl hm Tryd.func73 (by kernel_rfl) [PM.data (Kd.sl link)] (fun X Y H => by obtain ⟨a, ⟨b, _⟩⟩ := X; exact val_of (t73 a b) (hd a b H)) IO L
abbrev w73 : FSpec := s73 (fun x => U.okl x.1 && (decide (U.cells x.1 ≤ 1048576) && (U.may x.1 && decide (1 ≤ (x.2.1 : Int) ∧ (x.2.1 : Int) ≤ 80)))) fun x => U.flowL x.1 x.2.1.toNat
theorem wk73 : SpecOK Tryd.prog E0 73 w73 := by
  refine k73 (fun l c H => ?_) (L := ls_ok (lcs := [lc Tryd.f73 0]) (rgs := []) (by kernel_rfl) (by kernel_rfl) L73 trivial)
  have H : (U.okl l && (decide (U.cells l ≤ 1048576) && (U.may l && decide (1 ≤ (c : Int) ∧ (c : Int) ≤ 80)))) = true := H
  simp only [Bool.and_eq_true] at H
  obtain ⟨gk, g2', hm, hc⟩ := H
  have g2 : U.cells l ≤ 1048576 := of_decide_eq_true g2'
  have hc : 1 ≤ (c : Int) ∧ (c : Int) ≤ 80 := of_decide_eq_true hc
  show _ = some (U.flowL l c.toNat)
  rw [U.may_mayL, Bool.and_eq_true] at hm
  obtain ⟨j1, j2⟩ := U.joinL_good l [] (U.mayL_fit hm.1 gk) .nil
  have j3 : l.length ≤ 200 := by have := of_decide_eq_true hm.2; omega
  have a2 : ((U.joinL l []).all fun l => decide (List.length l ≤ 1048576) && U.whB l) = true := List.all_eq_true.2 fun r hr => by
    obtain ⟨g3, g4⟩ := j1 r hr
    rw [Bool.and_eq_true]
    exact ⟨decide_eq_true (by simp only [List.length_nil] at g4; omega), g3.1⟩
  have j4 := U.flat_len (Int.toNat c) (U.joinL l [])
  have j5 := U.join_sum l []
  simp only [List.length_nil] at j5
  have a3 : 0 + (List.flatMap (U.foldL (Int.toNat c)) (U.joinL l [])).length ≤ 4194304 := by omega
  have a4 : (U.joinL l []).length ≤ 1048576 := by omega
  simp only [d73, Tr.val, gk, g2', hc.1, hc.2, a2, a3, a4, List.length_nil, decide_true, Bool.and_self, and_self, cond_true]
  rfl
def live12 (key : Nat) : Lv :=
  bif Nat.beq key 25012 then { ls := [9999, 6] } else bif Nat.beq key 45012 then { ls := [6, 76, 77, 78, 79, 80, 81, 82, 83, 84, 85, 86, 87] } else
  bif Nat.beq key 25011 then { ls := [9999, 6] } else bif Nat.beq key 45011 then { ls := [6, 66, 67, 68, 69, 70, 71, 72, 73, 74, 75] } else
  bif Nat.beq key 20065 then { ls := [9999, 1, 2, 9, 10] } else bif Nat.beq key 40065 then { ls := [6, 66, 67, 68, 69, 70, 71, 72, 73, 74, 75] } else
  bif Nat.beq key 25010 then { ls := [9999, 1, 2, 9, 10, 65] } else bif Nat.beq key 45010 then { ls := [59, 60, 61, 62, 63, 64, 65] } else
  bif Nat.beq key 20051 then { ls := [9999, 1, 2, 9, 10, 11] } else bif Nat.beq key 40051 then { ls := [6] } else
  bif Nat.beq key 25006 then { ls := [9999, 1, 2, 9, 10, 11, 51] } else bif Nat.beq key 45006 then { ls := [42, 43, 44, 45, 46, 47, 48, 49, 50, 51] } else
  bif Nat.beq key 20058 then { ls := [9999, 1, 2, 9, 10, 11] } else bif Nat.beq key 40058 then { ls := [6] } else
  bif Nat.beq key 25008 then { ls := [9999, 1, 2, 9, 10, 11, 58] } else bif Nat.beq key 45008 then { ls := [52, 53, 54, 55, 56, 57, 58] } else
  bif Nat.beq key 20041 then { ls := [9999, 1, 2, 9, 10, 11] } else bif Nat.beq key 40041 then { ls := [6, 42, 43, 44, 45, 46, 47, 48, 49, 50, 51, 52, 53, 54, 55, 56, 57, 58] } else
  bif Nat.beq key 25005 then { ls := [9999, 0, 1, 2, 7, 8, 9, 10, 11, 41] } else bif Nat.beq key 45005 then { ls := [34, 35, 36, 37, 38, 39, 40, 41] } else
  bif Nat.beq key 25004 then { ls := [9999, 0, 1, 2, 7, 8, 9, 10, 11] } else bif Nat.beq key 45004 then { ls := [11, 28, 29, 30, 31, 32, 33] } else
  { ls := [] }
abbrev G12 : List (Nat × FSpec) := [(51, w51), (68, w68), (69, w69), (70, w70), (54, w54), (45, w45), (71, w71), (26, w26), (72, w72), (73, w73)]
theorem AG12 : AllFn Tryd.prog E0 G12 := .cons wk51 (.cons wk68 (.cons wk69 (.cons wk70 (.cons wk54 (.cons wk45 (.cons wk71 (.cons wk26 (.cons wk72 (.cons wk73 .nil)))))))))
def d12 (a : List Cell) (b : List Line) (c : Int) : Tr (Bool) :=
 let v1 : List U.Ln := (U.few b (30 : Nat))
 let v2 : Bool := (U.may v1)
 let v3 : Bool := (U.okl v1)
 let v4 : List U.Ln := (U.flowL v1 (Int.toNat c))
 let v5 : Int := ((↑(List.length v1) : Int))
 let v6 : List Cell := (List.map U.cutC (List.take (200 : Nat) a))
 let v7 : Bool := (U.fitC v6)
 let v8 : Bool := (U.okc v6)
 let v9 : List U.Ln := (U.foldL (Int.toNat c) v6)
 let v10 : Bool := (Kd.eqb (Kd.sl link) v1 v1)
 let v11 : Bool := (decide ((1 : Int) ≤ c))
 let v12 : Int := ((↑(List.length v6) : Int))
 let v13 : Bool := (decide (c ≤ (80 : Int)))
 let v14 : Int := ((↑(List.length v6) : Int))
 let v15 : Bool := (Kd.eqb (Kd.sl celk) v6 v6)
 let v16 : Bool := (decide (U.cells v1 ≤ (1048576 : Nat)))
 let v17 : Bool := (!bif v11 then decide (c ≤ (80 : Int)) else false)
 let v18 : Bool := (decide (v12 ≤ (16000 : Int)))
 let v19 : List Line × Int := (bif v2 && (decide ((1 : Int) ≤ c) && v13) then (v4, (0 : Int)) else ([], (1 : Int)))
 let v20 : Int := (v19.snd)
 let v21 : List Line := (v19.fst)
 let v22 : Int := ((↑(List.length v21) : Int))
 let v23 : List Line × Int := (bif v11 && (v13 && (v18 && v7)) then (v9, (0 : Int)) else ([], (1 : Int)))
 let v24 : List Line := (v23.fst)
 let v25 : Int := (v23.snd)
 let v26 : Int := ((↑(List.length v24) : Int))
 let v27 : Bool := (Kd.eqb (.int .i64) v20 v20)
 let v28 : Bool := (Kd.eqb (Kd.sl link) v21 v21)
 let v29 : Bool := (decide (v20 = (0 : Int)))
 let v30 : Bool := (Kd.eqb (.int .i64) v25 v25)
 let v31 : Bool := (Kd.eqb (Kd.sl link) v24 v24)
 let v32 : Bool := (!decide (v25 = (0 : Int)))
 let v33 : Bool := (v28 && v27)
 let v34 : Bool := (v28 && (v27 && Kd.eqb Kd.bool (bif v11 then decide (c ≤ (80 : Int)) else false) (bif v11 then decide (c ≤ (80 : Int)) else false)))
 let v35 : Bool := (v10 && (Kd.eqb (.int .i64) c c && v34))
 let v36 : Bool := ((bif v32 then true else decide ((1 : Int) ≤ c ∧ c ≤ (80 : Int) ∧ List.length v6 ≤ (1048576 : Nat)) && U.whB v6 && (decide (List.length v24 ≤ (1048576 : Nat)) && List.all v24 fun (y : Line) => decide (List.length y.fst ≤ (1048576 : Nat)))) && v35)
 Tr.ite true (Tr.ite (bif v11 && (v13 && v18) then v8 && (!v7 || U.okP (List.length v6) v6) else true) (Tr.ite (v3 && v16) (Tr.ite (v15 && (v10 && (Kd.eqb (.int .i64) c c && (v31 && (v30 && v33))))) (Tr.ite ((bif bif v11 then decide (c ≤ (80 : Int)) else false then v8 else true) && (v15 && (v10 && (Kd.eqb (.int .i64) c c && (v31 && (v30 && v34)))))) (Tr.ite ((bif bif bif v11 then decide (c ≤ (80 : Int)) else false then v7 && decide (v12 = v14) else false then v36 && !bif v32 then true else !U.eqLs v24 v9 else v35 && !bif !decide (v25 = (1 : Int)) then true else !decide (v26 = (0 : Int))) && v35) (Tr.ite ((bif v17 then true else v3) && (v10 && (Kd.eqb (.int .i64) c c && v33))) (Tr.ite (bif v17 then true else !(U.mayL v1 && decide (v5 ≤ (200 : Int)))) (Tr.ret (bif true then bif decide (v20 = (1 : Int)) then decide (v22 = (0 : Int)) else false else false)) (Tr.ite (bif true then bif v29 then v3 && (v16 && (v2 && decide ((1 : Int) ≤ c ∧ c ≤ (80 : Int)))) && (decide (List.length v21 ≤ (1048576 : Nat)) && List.all v21 fun (y : Line) => decide (List.length y.fst ≤ (1048576 : Nat))) else true else true) (Tr.ret (bif true then bif v29 then U.eqLs v21 v4 else false else false)) Tr.fail)) Tr.fail) (Tr.ite (bif bif v11 then decide (c ≤ (80 : Int)) else false then v7 && decide (v12 = v14) else false) (Tr.ite v36 (Tr.ite (bif v32 then true else !U.eqLs v24 v9) (Tr.ret false) Tr.fail) Tr.fail) (Tr.ite v35 (Tr.ite (bif !decide (v25 = (1 : Int)) then true else !decide (v26 = (0 : Int))) (Tr.ret false) Tr.fail) Tr.fail))) Tr.fail) Tr.fail) Tr.fail) Tr.fail) Tr.fail
def e12 (r : Bool) : FRes := { rs := Slot.av (AV.one (Leaf.dat Kd.bool r)), upd := [], new := [] }
@[reducible] def a12 : List AK := [AK.d (Kd.sl celk), AK.d (Kd.sl link), AK.d (.int .i64)]
@[reducible] def b12 : List BK := []
theorem t12 (a : List Cell) (b : List Line) (c : Int) : evFn (Env.loops (Env.withFns E0 G12) live12 fun (x : Nat) (x_1 : VS) => none) Tryd.f12 [PM.data Kd.bool] (akAV a12 (a, b, c, ())) (bkBs b12 ()) = (d12 a b c).map e12 := by kernel_rfl
def s12' (G : akT a12 → Bool) : FSpec := aspec0 a12 b12 e12 (fun x _ => G x)
theorem k12' {G : akT a12 → Bool} (hd : ∀ (a : List Cell) (b : List Line) (c : Int), (d12 a b c).val = some (G (a, b, c, ()))) (IO : ItOK Tryd.prog (Env.loops (Env.withFns E0 G12) live12 fun (x : Nat) (x_1 : VS) => none) := by exact itOK_none rfl) (L : ∀ c, Tryd.f12.body = some c → LsOK (evI 2) ((Env.loops (Env.withFns E0 G12) live12 fun (x : Nat) (x_1 : VS) => none).lend 0) c := by exact fun c _ => LsOK_none rfl c) : SpecOK Tryd.prog E0 12 (s12' G) :=
  aspec0_ok (ak := a12) (bl := b12) (e := e12) (g := fun x _ => G x) (E0 := E0) (E := Env.loops (Env.withFns E0 G12) live12 fun (x : Nat) (x_1 : VS) => none) tab AG12 rfl rfl hm Tryd.func12 (by kernel_rfl) [PM.data Kd.bool] (fun X Y => by obtain ⟨a, ⟨b, ⟨c, _⟩⟩⟩ := X; exact val_of (t12 a b c) (hd a b c)) IO L
end Go.Proofs.YtmnbcnhpklejcaaDoor
namespace U
open Go.Proofs.YtmnbcnhpklejcaaDoor
theorem cutN_ok (a : List Cl) {n : Nat} (hn : n ≤ 1000) : okc ((a.take n).map cutC) = true := by
  unfold okc
  rw [Bool.and_eq_true]
  refine ⟨decide_eq_true (by rw [List.length_map, List.length_take]; omega), List.all_eq_true.2 fun c hc => ?_⟩
  obtain ⟨x, _, rfl⟩ := List.mem_map.1 hc
  refine decide_eq_true ?_
  show (x.1.extract 0 (min x.1.size 20)).size ≤ 1048576
  rw [ByteArray.size_extract]
  omega
theorem fillL_len (l : List Cl) (n : Nat) : (fillL l n).length = max l.length n := by
  unfold fillL
  rw [List.length_append, List.length_replicate]
  omega
theorem foldl_lines (n : Nat) : ∀ (ps : List (List Cl)) (s : List Ln × List Cl), s.2.length ≤ n → (∀ y ∈ s.1, y.1.length = n) → ∀ y ∈ (ps.foldl (stepP n) s).1, y.1.length = n
  | [], s, _, h => h
  | p :: ps, s, hn, h => by
    rw [List.foldl_cons]
    have hs := foldl_small n [p] s hn
    refine foldl_lines n ps (stepP n s p) hs.1 fun y hy => ?_
    unfold stepP at hy
    by_cases p1 : n < p.length
    · rw [decide_eq_true p1] at hy; exact h y hy
    · by_cases p2 : n < s.2.length + p.length
      · rw [decide_eq_false p1, decide_eq_true p2] at hy
        rcases List.mem_append.1 hy with hy | hy
        · exact h y hy
        · rw [List.mem_singleton] at hy
          subst hy
          show (fillL s.2 n).length = n
          rw [fillL_len]; omega
      · rw [decide_eq_false p1, decide_eq_false p2] at hy; exact h y hy
theorem foldL_lines (n : Nat) (l : List Cl) : ∀ y ∈ foldL n l, y.1.length = n := by
  intro y hy
  unfold foldL at hy
  rcases List.mem_append.1 hy with hy | hy
  · exact foldl_lines n _ ([], []) (by simp) (by simp) y hy
  · rw [List.mem_singleton] at hy
    subst hy
    have := (foldl_small n (pcs l.length l) ([], []) (by simp)).1
    show (fillL _ n).length = n
    rw [fillL_len]; omega
theorem flowL_lines (n : Nat) (l : List Ln) : ∀ y ∈ flowL l n, y.1.length = n := by
  intro y hy
  obtain ⟨r, _, hr⟩ := List.mem_flatMap.1 hy
  exact foldL_lines n r y hr
theorem flowL_len (n : Nat) (l : List Ln) (h : (joinL l []).length ≤ l.length) : (flowL l n).length ≤ cells l + l.length := by
  unfold flowL
  have h1 := flat_len n (joinL l [])
  have h2 := join_sum l []
  simp only [List.length_nil] at h2
  omega
end U
namespace Go.Proofs.YtmnbcnhpklejcaaDoor
theorem law12 (a : List Cell) (b : List Line) (c : Int) : (d12 a b c).val = some true := by
  have k1 := U.few_ok b (n := 30) (by omega)
  have k2' : U.cells (U.few b 30) ≤ 1048576 := by have := U.cells_few b 30; omega
  have k2 : decide (U.cells (U.few b 30) ≤ 1048576) = true := decide_eq_true k2'
  have k4 := U.few_len b 30
  have k5 := U.cutN_ok a (n := 200) (by omega)
  have k6 : ((a.take 200).map U.cutC).length ≤ 200 := by rw [List.length_map, List.length_take]; omega
  have n1 := U.foldL_len (Int.toNat c) ((a.take 200).map U.cutC)
  have n2 := U.foldL_lines (Int.toNat c) ((a.take 200).map U.cutC)
  have n3 := U.flowL_lines (Int.toNat c) (U.few b 30)
  have n4 : U.mayL (U.few b 30) = true → (U.flowL (U.few b 30) (Int.toNat c)).length ≤ 1048576 := fun hm => by
    have j2 := (U.joinL_good _ [] (U.mayL_fit hm k1) .nil).2
    have := U.flowL_len (Int.toNat c) _ j2
    have := U.cells_few b 30
    omega
  have n5 : U.fitC ((a.take 200).map U.cutC) = true → U.whB ((a.take 200).map U.cutC) = true := U.fit_wh
  have n6 : U.whB ((a.take 200).map U.cutC) = true → U.okP ((a.take 200).map U.cutC).length ((a.take 200).map U.cutC) = true := fun h => U.wh_okP h _ (Nat.le_refl _)
  simp only [d12, Tr.val, k1, k2, k5, eqb_self, Bool.and_self, Bool.cond_self, Bool.true_and, Bool.and_true, cond_true, ← U.may_mayL]
  generalize hl : U.few b 30 = l at *
  generalize hr : (a.take 200).map U.cutC = r at *
  by_cases c1 : 1 ≤ c
  · by_cases c2 : c ≤ 80
    · have q1 : decide ((r.length : Int) ≤ 16000) = true := decide_eq_true (by omega)
      have q2 : r.length ≤ 1048576 := by omega
      have q3 : decide ((U.foldL (Int.toNat c) r).length ≤ 1048576) = true := decide_eq_true (by omega)
      have q4 : ((U.foldL (Int.toNat c) r).all fun (y : Line) => decide (List.length y.1 ≤ (1048576 : Nat))) = true := List.all_eq_true.2 fun y hy => decide_eq_true (by rw [n2 y hy]; omega)
      have q5 : ((U.flowL l (Int.toNat c)).all fun (y : Line) => decide (List.length y.1 ≤ (1048576 : Nat))) = true := List.all_eq_true.2 fun y hy => decide_eq_true (by rw [n3 y hy]; omega)
      have q6 : U.may l = true → decide ((U.flowL l (Int.toNat c)).length ≤ 1048576) = true := fun h => decide_eq_true (n4 (by rw [U.may_mayL, Bool.and_eq_true] at h; exact h.1))
      cases hf : U.fitC r with
      | false =>
        cases hm : U.may l with
        | false => simp [c1, c2, q1, hm]
        | true => simp [c1, c2, q1, hm, q5, q6 hm, U.eqLs_refl, -List.all_eq_true, -decide_eq_true_eq]
      | true =>
        have w1 := n5 hf
        have w2 := n6 w1
        cases hm : U.may l with
        | false => simp [c1, c2, q1, q2, q3, q4, w1, w2, hm, U.eqLs_refl, -List.all_eq_true, -decide_eq_true_eq]
        | true => simp [c1, c2, q1, q2, q3, q4, q5, q6 hm, w1, w2, hm, U.eqLs_refl, -List.all_eq_true, -decide_eq_true_eq]
    · simp [c1, c2]
  · simp [c1]
abbrev w12 : FSpec := s12' fun _ => true
theorem wk12 : SpecOK Tryd.prog E0 12 w12 := k12' fun a b c => law12 a b c
end Go.Proofs.YtmnbcnhpklejcaaDoor
end
