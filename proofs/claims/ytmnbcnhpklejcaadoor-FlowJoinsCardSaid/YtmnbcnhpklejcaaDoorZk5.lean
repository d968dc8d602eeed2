/- Part 5 of what the proof leans on: an evaluator of Go code over plain data, with its soundness; contracts of functions; laws of plain data. -/
import Derived.Test.YtmnbcnhpklejcaaDoorZk4
section
set_option linter.unusedVariables false
set_option linter.unusedSimpArgs false
set_option maxRecDepth 20000
set_option maxHeartbeats 4000000
open Go Go.Ev
namespace Go.Ev
theorem Rounds.mapA {α β ρ τ : Type} {B : τ → Tr (τ ⊕ ρ)} (xs : List α) (st : Nat → List β → τ) (g : α → β) (fin : List β → ρ) (N : Nat)
    (hs : ∀ i s (h : i < xs.length), s.length + (xs.length - i) ≤ N → (B (st i s)).val = some (.inl (st (i + 1) (s ++ [g xs[i]])))) (he : ∀ s, (B (st xs.length s)).val = some (.inr (fin s))) (s0 : List β) (h0 : s0.length + xs.length ≤ N) :
    Rounds B (st 0 s0) (fin (s0 ++ xs.map g)) := by
  have := Rounds.fold0 (B := B) xs st (fun s c => s ++ [g c]) fin (fun i s => s.length + (xs.length - i) ≤ N) s0 (by omega) (fun i s hi hv => ⟨hs i s hi hv, by simp only [List.length_append, List.length_singleton]; omega⟩) (fun s _ => he s)
  have e : ∀ (l : List α) (a : List β), l.foldl (fun s c => s ++ [g c]) a = a ++ l.map g := by
    intro l
    induction l with
    | nil => intro a; simp
    | cons x l ih => intro a; rw [List.foldl_cons, ih]; simp
  rwa [e] at this
theorem snocRec {α : Type} {p : List α → Prop} (h0 : p []) (h1 : ∀ l a, p l → p (l ++ [a])) (l : List α) : p l := by
  have : ∀ m : List α, p m.reverse := by
    intro m
    induction m with
    | nil => exact h0
    | cons a m ih => rw [List.reverse_cons]; exact h1 _ _ ih
  have h := this l.reverse
  rwa [List.reverse_reverse] at h
end Go.Ev
namespace Go.Proofs.YtmnbcnhpklejcaaDoor
open Go.RowKit
def live68 (key : Nat) : Lv :=
  bif Nat.beq key 3 then { ls := [5, 13, 14, 15], wd := [⟨5, none, .row 48 celk⟩] } else bif Nat.beq key 1003 then { ls := [5] } else
  { ls := [] }
abbrev M68 (ls : Nat → VS → Option (Tr (Ex × VS))) : Env := E0.loops live68 ls
@[reducible] def p68_0 : LP := { n := 33, sl := [.c (Leaf.row ( 0)), .d (Kd.sl celk), .d (.int .i64), .d (.int .i64)], bl := [(0, .row 48 (celk))] }
def B68_0 (x1 : List Cell) (x2 : Int) (x3 : Int) (h0 : List Cell) : Tr (p68_0.T ⊕ (List Cell)) :=
  let v1 : Int := ((↑(ByteArray.size (rget celk x1 x3).fst) : Int))
  let v2 : Int := (minI v1 (20 : Int))
  Tr.ite (decide (x3 < x2))
    (Tr.ite (inB x3 (List.length x1))
      (Tr.ite (decide ((0 : Int) ≤ v2 ∧ v2 ≤ v1))
        (Tr.ite (decide ((List.length h0 + (1 : Nat)) * (48 : Nat) ≤ (140737488355328 : Nat)))
          (Tr.ret (Sum.inl ((x1, x2, IntKind.wrap IntKind.i64 (x3 + (1 : Int)), ()), h0 ++ [(ByteArray.extract (rget celk x1 x3).fst (0 : Nat) (Int.toNat v2), (rget celk x1 x3).snd)], ()))) Tr.fail)
        Tr.fail)
      Tr.fail)
    (Tr.ret (Sum.inr h0))
def X68_0 (r : (List Cell)) : Ex × VS := Prod.mk (Ex.exit ( 0)) { n := 33, v := [Slot.av (AV.one (Leaf.row ( 0)))], h := [( 0, Blk.row ( 48) celk r)] }
def b68_0 : p68_0.T → Tr (p68_0.T ⊕ (List Cell)) := fun ⟨⟨x1, ⟨x2, ⟨x3, _⟩⟩⟩, ⟨h0, _⟩⟩ => B68_0 x1 x2 x3 h0
theorem h68_0 (ls : Nat → VS → Option (Tr (Ex × VS))) (x : p68_0.T) : (evC (evI 2) (lc Tryd.f68 0) (Env.lend (M68 ls) 0) (unV (live68 3) (p68_0.V x))).map (decL 0 (live68 3) (live68 1003)) = (b68_0 x).map (encR p68_0.V X68_0) := by
  obtain ⟨⟨x1, ⟨x2, ⟨x3, _⟩⟩⟩, ⟨h0, _⟩⟩ := x; kernel_rfl
theorem c68_0 (x : p68_0.T) : canV 0 (live68 3) (unV (live68 3) (p68_0.V x)) = p68_0.V x := by
  obtain ⟨⟨x1, ⟨x2, ⟨x3, _⟩⟩⟩, ⟨h0, _⟩⟩ := x; kernel_rfl
theorem l68_0 {T : p68_0.T → Tr (List Cell)} {ls : Nat → VS → Option (Tr (Ex × VS))} (hls : ∀ x, (Env.lend (M68 ls) 0).ls 3 x = p68_0.ls (fun a => (T a).map X68_0) x) (hS : ∀ x r, (T x).val = some r → Rounds b68_0 x r) : LoopOK (evI 2) (Env.lend (M68 ls) 0) (lc Tryd.f68 0) :=
  loopA 3 (live68 3) (live68 1003) p68_0 b68_0 X68_0 T (by kernel_rfl) rfl rfl hls (h68_0 ls) c68_0 hS
def T68 (x : p68_0.T) : Tr (List Cell) :=
  match x with
  | ⟨⟨l, n, i, _⟩, s, _⟩ => .ite (decide ((n : Int) = (List.length (α := Cell) l : Int) ∧ (i : Int) = 0 ∧ List.length (α := Cell) s + List.length (α := Cell) l ≤ 1048576)) (.ret (List.append (α := Cell) s (List.map (α := Cell) U.cutC l))) .fail
abbrev E68 : Env := M68 fun key x => bif Nat.beq key 3 then p68_0.ls (fun a => (T68 a).map X68_0) x else none
theorem L68 : LoopOK (evI 2) (E68.lend 0) (lc Tryd.f68 0) := by
  refine l68_0 (T := T68) (fun x => rfl) ?_
  rintro ⟨⟨l, n, i, z⟩, s, z1⟩ r hh
  obtain ⟨g1, g2⟩ := pre_val hh
  have g1 : (n : Int) = (l.length : Int) ∧ (i : Int) = 0 ∧ s.length + l.length ≤ 1048576 := of_decide_eq_true g1
  obtain ⟨rfl, rfl, e3⟩ := g1
  cases g2
  refine Rounds.mapA (B := b68_0) l (fun i s => ((l, (l.length : Int), (i : Int), ()), s, ())) U.cutC (fun s => s) 1048576 (fun i s hi hv => ?_) (fun s => ?_) s e3
  · have e : rget celk l (i : Int) = l[i] := by rw [rgetC]; exact getD_el hi
    have e6 : minI (l[i].1.size : Int) 20 = ((min l[i].1.size 20 : Nat) : Int) := minI_nat _ 20
    have e7 : decide ((0 : Int) ≤ ((min l[i].1.size 20 : Nat) : Int) ∧ ((min l[i].1.size 20 : Nat) : Int) ≤ (l[i].1.size : Int)) = true := decide_eq_true (by omega)
    have e8 : decide ((s.length + 1) * 48 ≤ 140737488355328) = true := decide_eq_true (by omega)
    have e9 : decide ((i : Int) < (l.length : Int)) = true := decide_eq_true (by omega)
    simp only [b68_0, B68_0, Tr.val, e, e6, e7, e8, e9, inB_nat hi, Int.toNat_natCast, cond_true, wrap64_nat (show i ≤ 1048576 by omega)]
    rfl
  · simp only [b68_0, B68_0, Tr.val, show ¬ ((l.length : Int) < (l.length : Int)) by omega, decide_false, cond_false]
def d68 (a : List Cell) (b : Int) : Tr (List Cell) :=
  let v1 : Int := ((↑(List.length a) : Int))
  let v2 : Int := (minI v1 b)
  let v3 : List Cell := (sub a (0 : Nat) (Int.toNat v2))
  let v4 : Int := ((↑(List.length v3) : Int))
  let v5 : Int := ((↑(List.length v3) : Int))
  Tr.ite (decide ((0 : Int) ≤ v2 ∧ v2 ≤ v1)) (Tr.ite (decide (v5 = v4 ∧ (0 : Int) = (0 : Int) ∧ (0 : Nat) + List.length v3 ≤ (1048576 : Nat))) (Tr.ret (List.append [] (List.map U.cutC v3))) Tr.fail)
    Tr.fail
def e68 (r : List Cell) : FRes := { rs := Slot.av (AV.one (Leaf.dat (Kd.sl celk) r)), upd := [], new := [] }
@[reducible] def a68 : List AK := [AK.d (Kd.sl celk), AK.d (.int .i64)]
@[reducible] def b68 : List BK := []
theorem t68 (a : List Cell) (b : Int) : evFn (E68) Tryd.f68 [PM.data (Kd.sl celk)] (akAV a68 (a, b, ())) (bkBs b68 ()) = (d68 a b).map e68 := by kernel_rfl
def s68 (C : akT a68 → Bool) (G : akT a68 → List Cell) : FSpec := aspec a68 b68 e68 (fun x _ => C x) (fun x _ => G x)
theorem k68 {C : akT a68 → Bool} {G : akT a68 → List Cell} (hd : ∀ (a : List Cell) (b : Int), C (a, b, ()) = true → (d68 a b).val = some (G (a, b, ()))) (IO : ItOK Tryd.prog (E68) := by exact itOK_none rfl) (L : ∀ c, Tryd.f68.body = some c → LsOK (evI 2) ((E68).lend 0) c := by exact fun c _ => LsOK_none rfl c) : SpecOK Tryd.prog E0 68 (s68 C G) :=
  aspec_ok (ak := a68) (bl := b68) (e := e68) (c := fun x _ => C x) (g := fun x _ => G x) (E0 := E0) (E := E68) tab .nil rfl rfl hm Tryd.func68 (by kernel_rfl) [PM.data (Kd.sl celk)] (fun X Y H => by obtain ⟨a, ⟨b, _⟩⟩ := X; exact val_of (t68 a b) (hd a b H)) IO L
abbrev w68 : FSpec := s68 (fun x => decide (0 ≤ (x.2.1 : Int) ∧ (x.2.1 : Int) ≤ 1000)) fun x => (List.take x.2.1.toNat x.1).map U.cutC
theorem wk68 : SpecOK Tryd.prog E0 68 w68 := by
  refine k68 (fun l n H => ?_) (L := ls_ok (lcs := [lc Tryd.f68 0]) (rgs := []) (by kernel_rfl) (by kernel_rfl) L68 trivial)
  have H : (0 : Int) ≤ n ∧ n ≤ 1000 := of_decide_eq_true H
  obtain ⟨h1, h2⟩ := H
  obtain ⟨m, rfl⟩ := Int.eq_ofNat_of_zero_le h1
  have e1 : minI (l.length : Int) (m : Int) = ((min l.length m : Nat) : Int) := minI_nat _ m
  have e2 : decide ((0 : Int) ≤ ((min l.length m : Nat) : Int) ∧ ((min l.length m : Nat) : Int) ≤ (l.length : Int)) = true := decide_eq_true (by omega)
  have e3 : sub l 0 (min l.length m) = l.take m := by
    unfold sub
    rw [List.drop_zero]
    rcases Nat.le_total l.length m with h | h
    · rw [Nat.min_eq_left h, List.take_length, List.take_of_length_le h]
    · rw [Nat.min_eq_right h]
  have e4 : (l.take m).length ≤ 1048576 := by rw [List.length_take]; omega
  show _ = some ((l.take m).map U.cutC)
  simp only [d68, Tr.val, e1, e2, e3, e4, Int.toNat_natCast, Nat.zero_add, and_self, decide_true, cond_true]
  rfl
def live51 (key : Nat) : Lv :=
  bif Nat.beq key 3 then { ls := [3, 10, 11, 12], wd := [⟨3, none, .row 34 link⟩] } else bif Nat.beq key 1003 then { ls := [3] } else
  { ls := [] }
abbrev M51 (ls : Nat → VS → Option (Tr (Ex × VS))) : Env := (E0.withFns [(68, w68)]).loops live51 ls
@[reducible] def p51_0 : LP := { n := 27, sl := [.c (Leaf.row ( 0)), .d (Kd.sl link), .d (.int .i64), .d (.int .i64)], bl := [(0, .row 34 (link))] }
def d115 (a1 : ByteArray) (a2 : Int) (a31 : Int) (a32 : Int) (a33 : Int) : Tr (Bool) :=
  Tr.ite (decide (a1 = { data := #[] }))
    (Tr.ite (decide (a2 = (1 : Int))) (Tr.ite (decide (a31 = (0 : Int))) (Tr.ite (decide (a32 = (0 : Int))) (Tr.ret (decide (a33 = (0 : Int)))) (Tr.ret false)) (Tr.ret false)) (Tr.ret false))
    (Tr.ret false)
def e115 (r : Bool) : FRes := { rs := Slot.av (AV.one (Leaf.dat Kd.bool r)), upd := [], new := [] }
@[reducible] def a115 : List AK := [AK.d celk]
@[reducible] def b115 : List BK := []
theorem t115 (a1 : ByteArray) (a2 : Int) (a31 : Int) (a32 : Int) (a33 : Int) : evFn (E0) Tryd.f115 [PM.data Kd.bool] (akAV a115 ((a1, a2, (a31, a32, a33, ()), ()), ())) (bkBs b115 ()) = (d115 a1 a2 a31 a32 a33).map e115 := by kernel_rfl
def s115' (G : akT a115 → Bool) : FSpec := aspec0 a115 b115 e115 (fun x _ => G x)
theorem k115' {G : akT a115 → Bool} (hd : ∀ (a1 : ByteArray) (a2 : Int) (a31 : Int) (a32 : Int) (a33 : Int), (d115 a1 a2 a31 a32 a33).val = some (G ((a1, a2, (a31, a32, a33, ()), ()), ()))) (IO : ItOK Tryd.prog (E0) := by exact itOK_none rfl) (L : ∀ c, Tryd.f115.body = some c → LsOK (evI 2) ((E0).lend 0) c := by exact fun c _ => LsOK_none rfl c) : SpecOK Tryd.prog E0 115 (s115' G) :=
  aspec0_ok (ak := a115) (bl := b115) (e := e115) (g := fun x _ => G x) (E0 := E0) (E := E0) tab .nil rfl rfl hm Tryd.func115 (by kernel_rfl) [PM.data Kd.bool] (fun X Y => by obtain ⟨⟨a1, ⟨a2, ⟨⟨a31, ⟨a32, ⟨a33, _⟩⟩⟩, _⟩⟩⟩, _⟩ := X; exact val_of (t115 a1 a2 a31 a32 a33) (hd a1 a2 a31 a32 a33)) IO L
abbrev w115 : FSpec := s115' fun x => U.isNone x.1
theorem wk115 : SpecOK Tryd.prog E0 115 w115 := k115' fun a b c d e => by
  show _ = some (decide (a = ByteArray.empty) && (decide (b = 1) && (decide (c = 0) && (decide (d = 0) && decide (e = 0)))))
  have h : (ByteArray.empty) = (⟨#[]⟩ : ByteArray) := rfl
  rw [h]
  simp only [d115, Tr.val]
  by_cases h1 : a = (⟨#[]⟩ : ByteArray)
  · by_cases h2 : b = 1
    · by_cases h3 : c = 0
      · by_cases h4 : d = 0
        · simp only [h1, h2, h3, h4, decide_true, cond_true, Bool.true_and]
        · simp only [h1, h2, h3, h4, decide_true, decide_false, cond_true, cond_false, Bool.true_and, Bool.false_and]
      · simp only [h1, h2, h3, decide_true, decide_false, cond_true, cond_false, Bool.true_and, Bool.false_and]
    · simp only [h1, h2, decide_true, decide_false, cond_true, cond_false, Bool.true_and, Bool.false_and]
  · simp only [h1, decide_false, cond_false, Bool.false_and]
def d56 (a : List Cell) (b : List Cell) : Tr (Bool) :=
  Tr.ite (decide (List.length a ≤ (1048576 : Nat))) (Tr.ret (U.eqL (a, false, ()) (b, false, ()))) Tr.fail
def e56 (r : Bool) : FRes := { rs := Slot.av (AV.one (Leaf.dat Kd.bool r)), upd := [], new := [] }
@[reducible] def a56 : List AK := [AK.d (Kd.sl celk), AK.d (Kd.sl celk)]
@[reducible] def b56 : List BK := []
theorem t56 (a : List Cell) (b : List Cell) : evFn (Env.withFns E0 [((25 : Nat), w25)]) Tryd.f56 [PM.data Kd.bool] (akAV a56 (a, b, ())) (bkBs b56 ()) = (d56 a b).map e56 := by kernel_rfl
def s56 (C : akT a56 → Bool) (G : akT a56 → Bool) : FSpec := aspec a56 b56 e56 (fun x _ => C x) (fun x _ => G x)
theorem k56 {C : akT a56 → Bool} {G : akT a56 → Bool} (hd : ∀ (a : List Cell) (b : List Cell), C (a, b, ()) = true → (d56 a b).val = some (G (a, b, ()))) (IO : ItOK Tryd.prog (Env.withFns E0 [((25 : Nat), w25)]) := by exact itOK_none rfl) (L : ∀ c, Tryd.f56.body = some c → LsOK (evI 2) ((Env.withFns E0 [((25 : Nat), w25)]).lend 0) c := by exact fun c _ => LsOK_none rfl c) : SpecOK Tryd.prog E0 56 (s56 C G) :=
  aspec_ok (ak := a56) (bl := b56) (e := e56) (c := fun x _ => C x) (g := fun x _ => G x) (E0 := E0) (E := Env.withFns E0 [((25 : Nat), w25)]) tab (.cons wk25 .nil) rfl rfl hm Tryd.func56 (by kernel_rfl) [PM.data Kd.bool] (fun X Y H => by obtain ⟨a, ⟨b, _⟩⟩ := X; exact val_of (t56 a b) (hd a b H)) IO L
abbrev w56 : FSpec := s56 (fun x => decide (List.length (α := Cell) x.1 ≤ 1048576)) fun x => U.eqL (x.1, false, ()) (x.2.1, false, ())
theorem wk56 : SpecOK Tryd.prog E0 56 w56 := k56 fun a b H => by
  have H : a.length ≤ 1048576 := of_decide_eq_true H
  simp only [d56, Tr.val, H, decide_true, cond_true]
def live55 (key : Nat) : Lv :=
  bif Nat.beq key 9 then { ls := [0, 3, 4, 7, 10, 11, 12] } else bif Nat.beq key 1009 then { ls := [0, 3, 4, 7, 10, 11, 12] } else
  bif Nat.beq key 4 then { ls := [0, 3, 4, 10, 11, 12], wd := [⟨3, none, .row 32 (.sl celk)⟩, ⟨4, none, .row 48 celk⟩] } else bif Nat.beq key 1004 then { ls := [3] } else
  { ls := [] }
abbrev M55 (ls : Nat → VS → Option (Tr (Ex × VS))) : Env := (E0.withFns [(115, w115)]).loops live55 ls
@[reducible] def p55_0 : LP := { n := 53, sl := [.d (Kd.sl link), .c (Leaf.row ( 0)), .c (Leaf.row ( 1)), .d (Kd.sl link), .d (.int .i64), .d (.int .i64)], bl := [(0, .row 32 (Kd.sl celk)), (1, .row 48 (celk))] }
@[reducible] def p55_1 : LP := { n := 53, sl := [.d (Kd.sl link), .c (Leaf.row ( 0)), .c (Leaf.row ( 1)), .d (.int .i64), .d (Kd.sl link), .d (.int .i64), .d (.int .i64)], bl := [(0, .row 32 (Kd.sl celk)), (1, .row 48 (celk))] }
def B55_1 (x0 : List Line) (x3 : Int) (x4 : List Line) (x5 : Int) (x6 : Int) (h0 : List (List Cell)) (h1 : List Cell) : Tr (p55_1.T ⊕ (List Line × Int × List Line × Int × Int × List (List Cell) × List Cell)) :=
  let v1 : Int := (IntKind.wrap IntKind.i64 (x3 - (1 : Int)))
  Tr.ite (decide ((0 : Int) < x3))
    (Tr.ite (inB v1 (List.length h1))
      (Tr.ite (U.isNone (List.getD h1 (Int.toNat v1) (Kd.dflt celk))) (Tr.ret (Sum.inl ((x0, v1, x4, x5, x6, ()), h0, h1, ()))) (Tr.ret (Sum.inr (x0, x3, x4, x5, x6, h0, h1)))) Tr.fail)
    (Tr.ret (Sum.inr (x0, x3, x4, x5, x6, h0, h1)))
def X55_1 (r : (List Line × Int × List Line × Int × Int × List (List Cell) × List Cell)) : Ex × VS := Prod.mk (Ex.exit ( 2)) { n := 53, v := [Slot.av (AV.one (Leaf.dat (Kd.sl link) r.fst)), Slot.av (AV.one (Leaf.row ( 0))), Slot.av (AV.one (Leaf.row ( 1))), Slot.av (AV.one (Leaf.dat (.int .i64) r.snd.fst)), Slot.av (AV.one (Leaf.dat (Kd.sl link) r.snd.snd.fst)), Slot.av (AV.one (Leaf.dat (.int .i64) r.snd.snd.snd.fst)), Slot.av (AV.one (Leaf.dat (.int .i64) r.snd.snd.snd.snd.fst))], h := [( 0, Blk.row ( 32) (Kd.sl celk) r.snd.snd.snd.snd.snd.fst), ( 1, Blk.row ( 48) celk r.snd.snd.snd.snd.snd.snd)] }
def b55_1 : p55_1.T → Tr (p55_1.T ⊕ (List Line × Int × List Line × Int × Int × List (List Cell) × List Cell)) := fun ⟨⟨x0, ⟨x3, ⟨x4, ⟨x5, ⟨x6, _⟩⟩⟩⟩⟩, ⟨h0, ⟨h1, _⟩⟩⟩ => B55_1 x0 x3 x4 x5 x6 h0 h1
theorem h55_1 (ls : Nat → VS → Option (Tr (Ex × VS))) (x : p55_1.T) : (evC (evI 2) (lc Tryd.f55 1) (Env.lend (M55 ls) 0) (unV (live55 9) (p55_1.V x))).map (decL 0 (live55 9) (live55 1009)) = (b55_1 x).map (encR p55_1.V X55_1) := by
  obtain ⟨⟨x0, ⟨x3, ⟨x4, ⟨x5, ⟨x6, _⟩⟩⟩⟩⟩, ⟨h0, ⟨h1, _⟩⟩⟩ := x; kernel_rfl
theorem c55_1 (x : p55_1.T) : canV 0 (live55 9) (unV (live55 9) (p55_1.V x)) = p55_1.V x := by
  obtain ⟨⟨x0, ⟨x3, ⟨x4, ⟨x5, ⟨x6, _⟩⟩⟩⟩⟩, ⟨h0, ⟨h1, _⟩⟩⟩ := x; kernel_rfl
theorem l55_1 {T : p55_1.T → Tr (List Line × Int × List Line × Int × Int × List (List Cell) × List Cell)} {ls : Nat → VS → Option (Tr (Ex × VS))} (hls : ∀ x, (Env.lend (M55 ls) 0).ls 9 x = p55_1.ls (fun a => (T a).map X55_1) x) (hS : ∀ x r, (T x).val = some r → Rounds b55_1 x r) : LoopOK (evI 2) (Env.lend (M55 ls) 0) (lc Tryd.f55 1) :=
  loopA 9 (live55 9) (live55 1009) p55_1 b55_1 X55_1 T (by kernel_rfl) rfl rfl hls (h55_1 ls) c55_1 hS
def B51_0 (x1 : List Line) (x2 : Int) (x3 : Int) (h0 : List Line) : Tr (p51_0.T ⊕ (List Line)) :=
  Tr.ite (decide (x3 < x2))
    (Tr.ite (inB x3 (List.length x1))
      (Tr.ite true
        (Tr.ite (decide ((List.length h0 + (1 : Nat)) * (32 : Nat) ≤ (140737488355328 : Nat)))
          (Tr.ret (Sum.inl ((x1, x2, IntKind.wrap IntKind.i64 (x3 + (1 : Int)), ()), h0 ++ [(List.map U.cutC (List.take (82 : Nat) (rget link x1 x3).fst), (rget link x1 x3).snd)], ()))) Tr.fail)
        Tr.fail)
      Tr.fail)
    (Tr.ret (Sum.inr h0))
def X51_0 (r : (List Line)) : Ex × VS := Prod.mk (Ex.exit ( 0)) { n := 27, v := [Slot.av (AV.one (Leaf.row ( 0)))], h := [( 0, Blk.row ( 34) link r)] }
def b51_0 : p51_0.T → Tr (p51_0.T ⊕ (List Line)) := fun ⟨⟨x1, ⟨x2, ⟨x3, _⟩⟩⟩, ⟨h0, _⟩⟩ => B51_0 x1 x2 x3 h0
theorem h51_0 (ls : Nat → VS → Option (Tr (Ex × VS))) (x : p51_0.T) : (evC (evI 2) (lc Tryd.f51 0) (Env.lend (M51 ls) 0) (unV (live51 3) (p51_0.V x))).map (decL 0 (live51 3) (live51 1003)) = (b51_0 x).map (encR p51_0.V X51_0) := by
  obtain ⟨⟨x1, ⟨x2, ⟨x3, _⟩⟩⟩, ⟨h0, _⟩⟩ := x; kernel_rfl
theorem c51_0 (x : p51_0.T) : canV 0 (live51 3) (unV (live51 3) (p51_0.V x)) = p51_0.V x := by
  obtain ⟨⟨x1, ⟨x2, ⟨x3, _⟩⟩⟩, ⟨h0, _⟩⟩ := x; kernel_rfl
theorem l51_0 {T : p51_0.T → Tr (List Line)} {ls : Nat → VS → Option (Tr (Ex × VS))} (hls : ∀ x, (Env.lend (M51 ls) 0).ls 3 x = p51_0.ls (fun a => (T a).map X51_0) x) (hS : ∀ x r, (T x).val = some r → Rounds b51_0 x r) : LoopOK (evI 2) (Env.lend (M51 ls) 0) (lc Tryd.f51 0) :=
  loopA 3 (live51 3) (live51 1003) p51_0 b51_0 X51_0 T (by kernel_rfl) rfl rfl hls (h51_0 ls) c51_0 hS
def T51 (x : p51_0.T) : Tr (List Line) :=
  match x with
  | ⟨⟨l, n, i, _⟩, s, _⟩ => .ite (decide ((n : Int) = (List.length (α := Line) l : Int) ∧ (i : Int) = 0 ∧ List.length (α := Line) s + List.length (α := Line) l ≤ 1048576)) (.ret (List.append (α := Line) s (List.map (α := Line) (fun y => (U.cutL y.1, y.2.1, ())) l))) .fail
abbrev E51 : Env := M51 fun key x => bif Nat.beq key 3 then p51_0.ls (fun a => (T51 a).map X51_0) x else none
theorem L51 : LoopOK (evI 2) (E51.lend 0) (lc Tryd.f51 0) := by
  refine l51_0 (T := T51) (fun x => rfl) ?_
  rintro ⟨⟨l, n, i, z⟩, s, z1⟩ r hh
  obtain ⟨g1, g2⟩ := pre_val hh
  have g1 : (n : Int) = (l.length : Int) ∧ (i : Int) = 0 ∧ s.length + l.length ≤ 1048576 := of_decide_eq_true g1
  obtain ⟨rfl, rfl, e3⟩ := g1
  cases g2
  refine Rounds.mapA (B := b51_0) l (fun i s => ((l, (l.length : Int), (i : Int), ()), s, ())) (fun y => (U.cutL y.1, y.2.1, ())) (fun s => s) 1048576 (fun i s hi hv => ?_) (fun s => ?_) s e3
  · have e : rget link l (i : Int) = l[i] := by rw [rgetL]; exact getD_el hi
    have e8 : decide ((s.length + 1) * 32 ≤ 140737488355328) = true := decide_eq_true (by omega)
    have e9 : decide ((i : Int) < (l.length : Int)) = true := decide_eq_true (by omega)
    have e10 : decide ((0 : Int) ≤ 82 ∧ (82 : Int) ≤ 1000) = true := rfl
    simp only [b51_0, B51_0, Tr.val, e, e8, e9, e10, inB_nat hi, cond_true, wrap64_nat (show i ≤ 1048576 by omega)]
    rfl
  · simp only [b51_0, B51_0, Tr.val, show ¬ ((l.length : Int) < (l.length : Int)) by omega, decide_false, cond_false]
def d51 (a : List Line) : Tr (List Line) :=
  let v1 : Int := ((↑(List.length a) : Int))
  let v2 : Int := (minI v1 (30 : Int))
  let v3 : List Line := (sub a (0 : Nat) (Int.toNat v2))
  let v4 : Int := ((↑(List.length v3) : Int))
  let v5 : Int := ((↑(List.length v3) : Int))
  Tr.ite (decide ((0 : Int) ≤ v2 ∧ v2 ≤ v1))
    (Tr.ite (decide (v5 = v4 ∧ (0 : Int) = (0 : Int) ∧ (0 : Nat) + List.length v3 ≤ (1048576 : Nat))) (Tr.ret (List.append [] (List.map (fun (y : Line) => (U.cutL y.fst, y.snd.fst, ())) v3))) Tr.fail)
    Tr.fail
def e51 (r : List Line) : FRes := { rs := Slot.av (AV.one (Leaf.dat (Kd.sl link) r)), upd := [], new := [] }
@[reducible] def a51 : List AK := [AK.d (Kd.sl link)]
@[reducible] def b51 : List BK := []
theorem t51 (a : List Line) : evFn (E51) Tryd.f51 [PM.data (Kd.sl link)] (akAV a51 (a, ())) (bkBs b51 ()) = (d51 a).map e51 := by kernel_rfl
def s51' (G : akT a51 → List Line) : FSpec := aspec0 a51 b51 e51 (fun x _ => G x)
theorem k51' {G : akT a51 → List Line} (hd : ∀ (a : List Line), (d51 a).val = some (G (a, ()))) (IO : ItOK Tryd.prog (E51) := by exact itOK_none rfl) (L : ∀ c, Tryd.f51.body = some c → LsOK (evI 2) ((E51).lend 0) c := by exact fun c _ => LsOK_none rfl c) : SpecOK Tryd.prog E0 51 (s51' G) :=
  aspec0_ok (ak := a51) (bl := b51) (e := e51) (g := fun x _ => G x) (E0 := E0) (E := E51) tab (.cons wk68 .nil) rfl rfl hm Tryd.func51 (by kernel_rfl) [PM.data (Kd.sl link)] (fun X Y => by obtain ⟨a, _⟩ := X; exact val_of (t51 a) (hd a)) IO L
abbrev w51 : FSpec := s51' fun x => U.few x.1 30
theorem wk51 : SpecOK Tryd.prog E0 51 w51 := by
  refine k51' (fun l => ?_) (L := ls_ok (lcs := [lc Tryd.f51 0]) (rgs := []) (by kernel_rfl) (by kernel_rfl) L51 trivial)
  have e1 : minI (l.length : Int) 30 = ((min l.length 30 : Nat) : Int) := minI_nat _ 30
  have e2 : decide ((0 : Int) ≤ ((min l.length 30 : Nat) : Int) ∧ ((min l.length 30 : Nat) : Int) ≤ (l.length : Int)) = true := decide_eq_true (by omega)
  have e3 : sub l 0 (min l.length 30) = l.take 30 := by
    unfold sub
    rw [List.drop_zero]
    rcases Nat.le_total l.length 30 with h | h
    · rw [Nat.min_eq_left h, List.take_length, List.take_of_length_le h]
    · rw [Nat.min_eq_right h]
  have e4 : (l.take 30).length ≤ 1048576 := by rw [List.length_take]; omega
  show _ = some (U.few l 30)
  simp only [d51, Tr.val, e1, e2, e3, e4, Int.toNat_natCast, Nat.zero_add, and_self, decide_true, cond_true]
  rfl
end Go.Proofs.YtmnbcnhpklejcaaDoor
namespace U
theorem trimR_len (l : List Cl) : (trimR l).length ≤ l.length ∧ l.take (trimR l).length = trimR l := by
  refine Go.Ev.snocRec (p := fun l => (trimR l).length ≤ l.length ∧ l.take (trimR l).length = trimR l) ⟨by simp [trimR], by simp [trimR]⟩ (fun l a ih => ?_) l
  rw [trimR_snoc]
  cases isNone a with
  | true =>
    simp only [cond_true]
    refine ⟨by rw [List.length_append]; omega, ?_⟩
    rw [List.take_append_of_le_length ih.1]
    exact ih.2
  | false =>
    simp only [cond_false]
    exact ⟨Nat.le_refl _, List.take_length⟩
end U
namespace Go.Proofs.YtmnbcnhpklejcaaDoor
def T55_1 (x : p55_1.T) : Tr (List Line × Int × List Line × Int × Int × List (List Cell) × List Cell) :=
  match x with
  | ⟨⟨x0, x3, x4, x5, x6, _⟩, h0, h1, _⟩ => .ite (decide (0 ≤ (x3 : Int) ∧ (x3 : Int) ≤ (List.length (α := Cell) h1 : Int) ∧ List.length (α := Cell) h1 ≤ 1048576)) (.ret (x0, ((U.trimR (List.take (α := Cell) x3.toNat h1)).length : Int), x4, x5, x6, h0, h1)) .fail
abbrev N55 (ls : Nat → VS → Option (Tr (Ex × VS))) : Env := M55 fun key x => bif Nat.beq key 9 then p55_1.ls (fun a => (T55_1 a).map X55_1) x else ls key x
theorem R55_1 (x0 x4 : List Line) (x5 x6 : Int) (h0 : List (List Cell)) (h1 : List Cell) (hl : h1.length ≤ 1048576) : ∀ k : Nat, k ≤ h1.length → Rounds b55_1 ((x0, (k : Int), x4, x5, x6, ()), h0, h1, ()) (x0, ((U.trimR (h1.take k)).length : Int), x4, x5, x6, h0, h1)
  | 0, _ => .exit (by simp [b55_1, B55_1, Tr.val, U.trimR])
  | k + 1, h => by
    have hk : k < h1.length := by omega
    have e0 : h1.take (k + 1) = h1.take k ++ [h1[k]] := by rw [List.take_add_one, List.getElem?_eq_getElem hk]; rfl
    have e1 : IntKind.wrap IntKind.i64 (((k + 1 : Nat) : Int) - 1) = (k : Int) := by rw [Go.Ev.w64 (by omega) (by omega)]; omega
    have e2 : h1.getD k (Kd.dflt celk) = h1[k] := by exact getD_el hk
    have c1 : decide ((0 : Int) < ((k + 1 : Nat) : Int)) = true := decide_eq_true (by omega)
    have hv : (b55_1 ((x0, ((k + 1 : Nat) : Int), x4, x5, x6, ()), h0, h1, ())).val = bif U.isNone h1[k] then some (.inl ((x0, (k : Int), x4, x5, x6, ()), h0, h1, ())) else some (.inr (x0, ((k + 1 : Nat) : Int), x4, x5, x6, h0, h1)) := by
      simp only [b55_1, B55_1, Tr.val, e1, e2, c1, inB_nat hk, Int.toNat_natCast, cond_true]
    rw [e0, U.trimR_snoc]
    cases hb : U.isNone h1[k] with
    | true =>
      rw [hb] at hv
      exact .step hv (R55_1 x0 x4 x5 x6 h0 h1 hl k (by omega))
    | false =>
      rw [hb] at hv
      have e3 : (h1.take k ++ [h1[k]]).length = k + 1 := by rw [List.length_append, List.length_take, List.length_singleton]; omega
      rw [cond_false, e3]
      exact .exit hv
theorem L55_1 {ls : Nat → VS → Option (Tr (Ex × VS))} : LoopOK (evI 2) ((N55 ls).lend 0) (lc Tryd.f55 1) := by
  refine l55_1 (T := T55_1) (fun x => rfl) ?_
  rintro ⟨⟨x0, x3, x4, x5, x6, z⟩, h0, h1, z1⟩ r hh
  obtain ⟨g1, g2⟩ := pre_val hh
  have g1 : 0 ≤ (x3 : Int) ∧ (x3 : Int) ≤ (h1.length : Int) ∧ h1.length ≤ 1048576 := of_decide_eq_true g1
  obtain ⟨e1, e2, e3⟩ := g1
  obtain ⟨k, rfl⟩ := Int.eq_ofNat_of_zero_le e1
  cases g2
  have e2 : (k : Int) ≤ (h1.length : Int) := e2
  exact R55_1 x0 x4 x5 x6 h0 h1 e3 k (by omega)
def B55_0 (x0 : List Line) (x3 : List Line) (x4 : Int) (x5 : Int) (h0 : List (List Cell)) (h1 : List Cell) : Tr (p55_0.T ⊕ (List (List Cell))) :=
  let v1 : Int := ((↑(List.length x0) : Int))
  let v2 : Int := (IntKind.wrap IntKind.i64 (x5 + (1 : Int)))
  let v3 : Int := ((↑(List.length (h1 ++ (rget link x3 x5).fst)) : Int))
  let v4 : Int := ((↑(List.length (h1 ++ (rget link x3 x5).fst)) : Int))
  let v5 : Int := ((↑(List.length (h1 ++ (rget link x3 x5).fst)) : Int))
  let v6 : Int := ((↑(List.length (U.trimR (List.take (Int.toNat v5) (h1 ++ (rget link x3 x5).fst)))) : Int))
  Tr.ite (decide (x5 < x4))
    (Tr.ite (inB x5 (List.length x3))
      (Tr.ite (decide ((List.length h1 + List.length (rget link x3 x5).fst) * (48 : Nat) ≤ (140737488355328 : Nat)))
        (Tr.ite (rget link x3 x5).snd.fst
          (Tr.ite (decide (v2 < v1)) (Tr.ret (Sum.inl ((x0, x3, x4, v2, ()), h0, h1 ++ (rget link x3 x5).fst, ())))
            (Tr.ite (decide ((0 : Int) ≤ v5 ∧ v5 ≤ v3 ∧ List.length (h1 ++ (rget link x3 x5).fst) ≤ (1048576 : Nat)))
              (Tr.ite (decide ((0 : Int) ≤ v6 ∧ v6 ≤ v4))
                (Tr.ite (decide ((List.length h0 + (1 : Nat)) * (24 : Nat) ≤ (140737488355328 : Nat)))
                  (Tr.ret (Sum.inl ((x0, x3, x4, v2, ()), h0 ++ [List.take (Int.toNat v6) (h1 ++ (rget link x3 x5).fst)], [], ()))) Tr.fail)
                Tr.fail)
              Tr.fail))
          (Tr.ite (decide ((0 : Int) ≤ v5 ∧ v5 ≤ v3 ∧ List.length (h1 ++ (rget link x3 x5).fst) ≤ (1048576 : Nat)))
            (Tr.ite (decide ((0 : Int) ≤ v6 ∧ v6 ≤ v4))
              (Tr.ite (decide ((List.length h0 + (1 : Nat)) * (24 : Nat) ≤ (140737488355328 : Nat)))
                (Tr.ret (Sum.inl ((x0, x3, x4, v2, ()), h0 ++ [List.take (Int.toNat v6) (h1 ++ (rget link x3 x5).fst)], [], ()))) Tr.fail)
              Tr.fail)
            Tr.fail))
        Tr.fail)
      Tr.fail)
    (Tr.ret (Sum.inr h0))
def X55_0 (r : (List (List Cell))) : Ex × VS := Prod.mk (Ex.exit ( 0)) { n := 53, v := [Slot.av (AV.one (Leaf.row ( 0)))], h := [( 0, Blk.row ( 32) (Kd.sl celk) r)] }
def b55_0 : p55_0.T → Tr (p55_0.T ⊕ (List (List Cell))) := fun ⟨⟨x0, ⟨x3, ⟨x4, ⟨x5, _⟩⟩⟩⟩, ⟨h0, ⟨h1, _⟩⟩⟩ => B55_0 x0 x3 x4 x5 h0 h1
theorem h55_0 (ls : Nat → VS → Option (Tr (Ex × VS))) (x : p55_0.T) : (evC (evI 2) (lc Tryd.f55 0) (Env.lend (N55 ls) 0) (unV (live55 4) (p55_0.V x))).map (decL 0 (live55 4) (live55 1004)) = (b55_0 x).map (encR p55_0.V X55_0) := by
  obtain ⟨⟨x0, ⟨x3, ⟨x4, ⟨x5, _⟩⟩⟩⟩, ⟨h0, ⟨h1, _⟩⟩⟩ := x; kernel_rfl
theorem c55_0 (x : p55_0.T) : canV 0 (live55 4) (unV (live55 4) (p55_0.V x)) = p55_0.V x := by
  obtain ⟨⟨x0, ⟨x3, ⟨x4, ⟨x5, _⟩⟩⟩⟩, ⟨h0, ⟨h1, _⟩⟩⟩ := x; kernel_rfl
theorem l55_0 {T : p55_0.T → Tr (List (List Cell))} {ls : Nat → VS → Option (Tr (Ex × VS))} (hls : ∀ x, (Env.lend (N55 ls) 0).ls 4 x = p55_0.ls (fun a => (T a).map X55_0) x) (hS : ∀ x r, (T x).val = some r → Rounds b55_0 x r) : LoopOK (evI 2) (Env.lend (N55 ls) 0) (lc Tryd.f55 0) :=
  loopA 4 (live55 4) (live55 1004) p55_0 b55_0 X55_0 T (by kernel_rfl) rfl rfl hls (h55_0 ls) c55_0 hS
def T55_0 (x : p55_0.T) : Tr (List (List Cell)) :=
  match x with
  | ⟨⟨x0, l, n, i, _⟩, h0, h1, _⟩ =>
    .ite (decide ((n : Int) = (List.length (α := Line) l : Int) ∧ (i : Int) = 0 ∧ List.length (α := Line) x0 = List.length (α := Line) l ∧ List.length (α := Line) l ≤ 1048576 ∧ List.length (α := List Cell) h0 + List.length (α := Line) l ≤ 1048576 ∧ List.length (α := Cell) h1 + U.cells l ≤ 1048576))
      (.ret (List.append (α := List Cell) h0 (U.joinL l h1))) .fail
abbrev E55 : Env := N55 fun key x => bif Nat.beq key 4 then p55_0.ls (fun a => (T55_0 a).map X55_0) x else none
theorem R55_0 (x0 l : List Line) (hl : l.length ≤ 1048576) (hx : x0.length = l.length) : ∀ (k i : Nat) (h0 : List (List Cell)) (h1 : List Cell), i + k = l.length → h0.length + k ≤ 1048576 → h1.length + U.cells (l.drop i) ≤ 1048576 →
    Rounds b55_0 ((x0, l, (l.length : Int), (i : Int), ()), h0, h1, ()) (h0 ++ U.joinL (l.drop i) h1)
  | 0, i, h0, h1, e, _, _ => by
    have e : i = l.length := by omega
    subst e
    rw [List.drop_length]
    refine .exit ?_
    have c : decide ((l.length : Int) < (l.length : Int)) = false := decide_eq_false (by omega)
    simp only [b55_0, B55_0, Tr.val, c, cond_false, U.joinL, List.append_nil]
  | k + 1, i, h0, h1, e, hb, hc => by
    have hi : i < l.length := by omega
    have er : rget link l (i : Int) = l[i] := by rw [rgetL]; exact getD_el hi
    have hd : l.drop i = l[i] :: l.drop (i + 1) := List.drop_eq_getElem_cons hi
    have w : IntKind.wrap IntKind.i64 ((i : Int) + 1) = ((i + 1 : Nat) : Int) := wrap64_nat (show i ≤ 1048576 by omega)
    have c1 : decide ((i : Int) < (l.length : Int)) = true := decide_eq_true (by omega)
    have c2 : decide (((i + 1 : Nat) : Int) < (x0.length : Int)) = !decide ((l.drop (i + 1)).length = 0) := by
      rw [List.length_drop, ← decide_not]
      exact decide_eq_decide.2 (by omega)
    rw [hd] at hc ⊢
    generalize l[i] = y at *
    have hc : h1.length + (y.1.length + U.cells (l.drop (i + 1))) ≤ 1048576 := hc
    have c3 : (h1.length + y.1.length) * 48 ≤ 140737488355328 := by omega
    have c4 : (h1 ++ y.1).length ≤ 1048576 := by rw [List.length_append]; omega
    have c5 : (h0.length + 1) * 24 ≤ 140737488355328 := by omega
    have c6 := U.trimR_len (h1 ++ y.1)
    have c7 : (0 : Int) ≤ ((h1 ++ y.1).length : Int) := by omega
    have c8 : ((U.trimR (h1 ++ y.1)).length : Int) ≤ ((h1 ++ y.1).length : Int) := by omega
    have c9 : (0 : Int) ≤ ((U.trimR (h1 ++ y.1)).length : Int) := by omega
    have r1 := R55_0 x0 l hl hx k (i + 1) (h0 ++ [U.trimR (h1 ++ y.1)]) [] (by omega) (by rw [List.length_append, List.length_singleton]; omega) (by show 0 + _ ≤ _; omega)
    have r2 := R55_0 x0 l hl hx k (i + 1) h0 (h1 ++ y.1) (by omega) (by omega) (by rw [List.length_append]; omega)
    rw [List.append_assoc, List.singleton_append] at r1
    unfold U.joinL
    cases hy : y.2.1 with
    | false =>
      refine .step ?_ r1
      simp only [b55_0, B55_0, Tr.val, inB_nat hi, er, w, c1, c3, c4, c5, c7, c8, c9, c6.2, hy, Int.toNat_natCast, List.take_length, Int.le_refl, and_self, decide_true, cond_true, cond_false, Bool.not_false]
    | true =>
      cases hz : decide ((l.drop (i + 1)).length = 0) with
      | true =>
        refine .step ?_ r1
        simp only [b55_0, B55_0, Tr.val, inB_nat hi, er, w, c1, c2, hz, c3, c4, c5, c7, c8, c9, c6.2, hy, Int.toNat_natCast, List.take_length, Int.le_refl, and_self, decide_true, cond_true, cond_false, Bool.not_true]
      | false =>
        refine .step ?_ r2
        simp only [b55_0, B55_0, Tr.val, inB_nat hi, er, w, c1, c2, hz, c3, hy, decide_true, cond_true, cond_false, Bool.not_false]
theorem L55_0 : LoopOK (evI 2) (E55.lend 0) (lc Tryd.f55 0) := by
  refine l55_0 (T := T55_0) (fun x => rfl) ?_
  rintro ⟨⟨x0, l, n, i, z⟩, h0, h1, z1⟩ r hh
  obtain ⟨g1, g2⟩ := pre_val hh
  have g1 : (n : Int) = (l.length : Int) ∧ (i : Int) = 0 ∧ x0.length = l.length ∧ l.length ≤ 1048576 ∧ h0.length + l.length ≤ 1048576 ∧ h1.length + U.cells l ≤ 1048576 := of_decide_eq_true g1
  obtain ⟨rfl, rfl, e1, e2, e3, e4⟩ := g1
  cases g2
  exact R55_0 x0 l e2 e1 l.length 0 h0 h1 (by omega) e3 e4
def d55 (a : List Line) : Tr (List (List Cell)) :=
  let v1 : Int := ((↑(List.length a) : Int))
  let v2 : Int := ((↑(List.length a) : Int))
  Tr.ite
    (decide (v2 = v1 ∧ (0 : Int) = (0 : Int) ∧ List.length a = List.length a ∧ List.length a ≤ (1048576 : Nat) ∧ (0 : Nat) + List.length a ≤ (1048576 : Nat) ∧ (0 : Nat) + U.cells a ≤ (1048576 : Nat)))
    (Tr.ret (List.append [] (U.joinL a []))) Tr.fail
def e55 (r : List (List Cell)) : FRes := { rs := Slot.av (AV.one (Leaf.dat (Kd.sl (Kd.sl celk)) r)), upd := [], new := [] }
@[reducible] def a55 : List AK := [AK.d (Kd.sl link)]
@[reducible] def b55 : List BK := []
theorem t55 (a : List Line) : evFn (E55) Tryd.f55 [PM.data (Kd.sl (Kd.sl celk))] (akAV a55 (a, ())) (bkBs b55 ()) = (d55 a).map e55 := by kernel_rfl
def s55 (C : akT a55 → Bool) (G : akT a55 → List (List Cell)) : FSpec := aspec a55 b55 e55 (fun x _ => C x) (fun x _ => G x)
theorem k55 {C : akT a55 → Bool} {G : akT a55 → List (List Cell)} (hd : ∀ (a : List Line), C (a, ()) = true → (d55 a).val = some (G (a, ()))) (IO : ItOK Tryd.prog (E55) := by exact itOK_none rfl) (L : ∀ c, Tryd.f55.body = some c → LsOK (evI 2) ((E55).lend 0) c := by exact fun c _ => LsOK_none rfl c) : SpecOK Tryd.prog E0 55 (s55 C G) :=
  aspec_ok (ak := a55) (bl := b55) (e := e55) (c := fun x _ => C x) (g := fun x _ => G x) (E0 := E0) (E := E55) tab (.cons wk115 .nil) rfl rfl hm Tryd.func55 (by kernel_rfl) [PM.data (Kd.sl (Kd.sl celk))] (fun X Y H => by obtain ⟨a, _⟩ := X; exact val_of (t55 a) (hd a H)) IO L
abbrev w55 : FSpec := s55 (fun x => U.okl x.1 && decide (U.cells x.1 ≤ 1048576)) fun x => U.joinL x.1 []
theorem wk55 : SpecOK Tryd.prog E0 55 w55 := by
  refine k55 (fun l H => ?_) (L := ls_ok (lcs := [lc Tryd.f55 0, lc Tryd.f55 1]) (rgs := []) (by kernel_rfl) (by kernel_rfl) ⟨L55_0, L55_1⟩ trivial)
  have H : (U.okl l && decide (U.cells l ≤ 1048576)) = true := H
  rw [Bool.and_eq_true] at H
  have h2 : U.cells l ≤ 1048576 := of_decide_eq_true H.2
  have h3 : l.length ≤ 1048576 := U.okl_len H.1
  show _ = some (U.joinL l [])
  simp only [d55, Tr.val, h2, h3, List.length_nil, Nat.zero_add, and_self, decide_true, cond_true]
  rfl
end Go.Proofs.YtmnbcnhpklejcaaDoor

end
section
set_option linter.unusedVariables false
set_option linter.unusedSimpArgs false
set_option maxRecDepth 20000
set_option maxHeartbeats 4000000
open Go Go.Ev
namespace U
open Go.Proofs.YtmnbcnhpklejcaaDoor
def whB : List Cl → Bool
  | [] => true
  | [c] => decide (c.2.1 = 1)
  | c :: d :: l => if c.2.1 = 2 then decide (d.2.1 = 0) && whB l else decide (c.2.1 = 1) && whB (d :: l)
theorem whB_one {c : Cl} {l : List Cl} (h : c.2.1 = 1) : whB (c :: l) = whB l := by
  cases l with
  | nil => simp [whB, h]
  | cons d l =>
    show (if c.2.1 = 2 then decide (d.2.1 = 0) && whB l else decide (c.2.1 = 1) && whB (d :: l)) = whB (d :: l)
    rw [if_neg (by omega), decide_eq_true h, Bool.true_and]
theorem whB_two {c d : Cl} {l : List Cl} (h : c.2.1 = 2) (h' : d.2.1 = 0) : whB (c :: d :: l) = whB l := by
  show (if c.2.1 = 2 then decide (d.2.1 = 0) && whB l else decide (c.2.1 = 1) && whB (d :: l)) = whB l
  rw [if_pos h, decide_eq_true h', Bool.true_and]
theorem wh_ind {p : List Cl → Prop} (h0 : p []) (h1 : ∀ c l, c.2.1 = 1 → whB l = true → p l → p (c :: l)) (h2 : ∀ c d l, c.2.1 = 2 → d.2.1 = 0 → whB l = true → p l → p (c :: d :: l)) : ∀ (n : Nat) (l : List Cl), l.length ≤ n → whB l = true → p l
  | _, [], _, _ => h0
  | 0, c :: l, h, _ => by simp at h
  | n + 1, [c], _, hw => by
    have hc : c.2.1 = 1 := by simpa [whB] using hw
    exact h1 c [] hc rfl h0
  | n + 1, c :: d :: l, h, hw => by
    by_cases hc : c.2.1 = 2
    · have hd : d.2.1 = 0 := by
        unfold whB at hw; rw [if_pos hc, Bool.and_eq_true] at hw; exact of_decide_eq_true hw.1
      rw [whB_two hc hd] at hw
      exact h2 c d l hc hd hw (wh_ind h0 h1 h2 n l (by simp only [List.length_cons] at h; omega) hw)
    · have hc1 : c.2.1 = 1 := by
        unfold whB at hw; rw [if_neg hc, Bool.and_eq_true] at hw; exact of_decide_eq_true hw.1
      rw [whB_one hc1] at hw
      exact h1 c (d :: l) hc1 hw (wh_ind h0 h1 h2 n (d :: l) (by simp only [List.length_cons] at h ⊢; omega) hw)
theorem whInd {p : List Cl → Prop} {l : List Cl} (hw : whB l = true) (h0 : p []) (h1 : ∀ c l, c.2.1 = 1 → whB l = true → p l → p (c :: l)) (h2 : ∀ c d l, c.2.1 = 2 → d.2.1 = 0 → whB l = true → p l → p (c :: d :: l)) : p l :=
  wh_ind h0 h1 h2 l.length l (Nat.le_refl _) hw
theorem wh_app {a b : List Cl} (ha : whB a = true) (hb : whB b = true) : whB (a ++ b) = true :=
  whInd (p := fun a => whB (a ++ b) = true) ha hb (fun c l h _ ih => by rw [List.cons_append, whB_one h]; exact ih) (fun c d l h h' _ ih => by rw [List.cons_append, List.cons_append, whB_two h h']; exact ih)
theorem wh_init {a : Cl} (ha : a.2.1 = 1) : ∀ (n : Nat) (l : List Cl), l.length ≤ n → whB (l ++ [a]) = true → whB l = true
  | _, [], _, _ => rfl
  | 0, c :: l, h, _ => by simp at h
  | n + 1, [c], _, hw => by
    have hw : whB [c, a] = true := hw
    by_cases hc : c.2.1 = 2
    · unfold whB at hw; rw [if_pos hc, Bool.and_eq_true] at hw
      have := of_decide_eq_true hw.1
      omega
    · unfold whB at hw; rw [if_neg hc, Bool.and_eq_true] at hw
      exact hw.1
  | n + 1, c :: d :: l, h, hw => by
    by_cases hc : c.2.1 = 2
    · have hw : whB (c :: d :: (l ++ [a])) = true := hw
      have hd : d.2.1 = 0 := by
        unfold whB at hw; rw [if_pos hc, Bool.and_eq_true] at hw; exact of_decide_eq_true hw.1
      rw [whB_two hc hd] at hw ⊢
      exact wh_init ha n l (by simp only [List.length_cons] at h; omega) hw
    · have hw : whB (c :: d :: (l ++ [a])) = true := hw
      have hc1 : c.2.1 = 1 := by
        unfold whB at hw; rw [if_neg hc, Bool.and_eq_true] at hw; exact of_decide_eq_true hw.1
      rw [whB_one hc1] at hw ⊢
      exact wh_init ha n (d :: l) (by simp only [List.length_cons] at h ⊢; omega) hw
theorem isNone_wide {c : Cl} (h : isNone c = true) : c.2.1 = 1 := by
  unfold isNone at h
  simp only [Bool.and_eq_true, decide_eq_true_eq] at h
  exact h.2.1
theorem wh_trim (l : List Cl) : whB l = true → whB (trimR l) = true := by
  refine Go.Ev.snocRec (p := fun l => whB l = true → whB (trimR l) = true) (fun _ => by simp [trimR, whB]) (fun l a ih h => ?_) l
  rw [trimR_snoc]
  cases hb : isNone a with
  | true => exact ih (wh_init (isNone_wide hb) l.length l (Nat.le_refl _) h)
  | false => exact h
theorem wd_one {c : Cl} (h : c.2.1 = 1) : wd c = 1 := by unfold wd; rw [h]; rfl
theorem wd_two {c : Cl} (h : c.2.1 = 2) : wd c = 2 := by unfold wd; rw [h]; rfl
theorem wh_okP {l : List Cl} (h : whB l = true) : ∀ k, l.length ≤ k → okP k l = true :=
  whInd (p := fun l => ∀ k, l.length ≤ k → okP k l = true) h (fun k _ => by cases k <;> rfl)
    (fun c l hc _ ih k hk => by
      cases k with
      | zero => simp at hk
      | succ k =>
        unfold okP
        rw [wd_one hc, Bool.and_eq_true]
        exact ⟨decide_eq_true (by simp), ih k (by simpa using hk)⟩)
    (fun c d l hc hd _ ih k hk => by
      cases k with
      | zero => simp at hk
      | succ k =>
        unfold okP
        rw [wd_two hc, Bool.and_eq_true]
        exact ⟨decide_eq_true (by simp), ih k (by simp only [List.length_cons] at hk; omega)⟩)
theorem cellR_empty {c : Cl} (h : cellR c = true) : (c.1 = (⟨#[]⟩ : ByteArray) → c.2.1 = 0 ∨ c.2.1 = 1) ∧ (c.2.1 = 0 → c.1 = (⟨#[]⟩ : ByteArray)) := by
  unfold cellR at h
  split at h
  · rename_i hz
    simp only [Bool.and_eq_true] at h
    have := h.2
    unfold inn at this
    simp at this
    exact ⟨fun _ => by omega, fun _ => ba_nil hz⟩
  · rename_i hz
    split at h
    · rename_i h1
      have := h1.2.1
      unfold inn at this
      simp at this
      exact ⟨fun e => by rw [e] at hz; exact absurd rfl hz, fun e => by omega⟩
    · cases h
theorem pcs_one {k : Nat} {c : Cl} {l : List Cl} (h : c.2.1 = 1) : pcs (k + 1) (c :: l) = [c] :: pcs k l := by
  show (c :: l).take (wd c) :: pcs k ((c :: l).drop (wd c)) = _
  rw [wd_one h]; rfl
theorem pcs_two {k : Nat} {c d : Cl} {l : List Cl} (h : c.2.1 = 2) : pcs (k + 1) (c :: d :: l) = [c, d] :: pcs k l := by
  show (c :: d :: l).take (wd c) :: pcs k ((c :: d :: l).drop (wd c)) = _
  rw [wd_two h]; rfl
theorem wh_say {l : List Cl} (h : whB l = true) : (∀ c ∈ l, cellR c = true) → ∀ k, l.length ≤ k → (pcs k l).flatMap sayP = sayL l :=
  whInd (p := fun l => (∀ c ∈ l, cellR c = true) → ∀ k, l.length ≤ k → (pcs k l).flatMap sayP = sayL l) h (fun _ k _ => by rw [pcs_nil]; rfl)
    (fun c l hc _ ih hr k hk => by
      cases k with
      | zero => simp at hk
      | succ k =>
        rw [pcs_one hc, List.flatMap_cons, ih (fun x hx => hr x (by simp [hx])) k (by simpa using hk)]
        unfold sayL
        rw [List.flatMap_cons]
        congr 1
        show bytesL c.1 ++ (bif decide (c.1 = (⟨#[]⟩ : ByteArray)) then [32] else []) = sayC c
        unfold sayC
        rw [decide_eq_true hc, Bool.and_true])
    (fun c d l hc hd _ ih hr k hk => by
      cases k with
      | zero => simp at hk
      | succ k =>
        rw [pcs_two hc, List.flatMap_cons, ih (fun x hx => hr x (by simp [hx])) k (by simp only [List.length_cons] at hk; omega)]
        unfold sayL
        rw [List.flatMap_cons, List.flatMap_cons, ← List.append_assoc]
        congr 1
        have c0 : ¬ c.1 = (⟨#[]⟩ : ByteArray) := fun e => by
          have := (cellR_empty (hr c (by simp))).1 e
          omega
        have d0 := (cellR_empty (hr d (by simp))).2 hd
        show bytesL c.1 ++ (bif decide (c.1 = (⟨#[]⟩ : ByteArray)) then [32] else []) = sayC c ++ sayC d
        unfold sayC
        rw [decide_eq_false c0, hd, d0]
        simp [bytesL])
theorem cellR_cases {c : Cl} (h : cellR c = true) : c.2.1 = 0 ∨ c.2.1 = 1 ∨ c.2.1 = 2 := by
  unfold cellR at h
  split at h
  · simp only [Bool.and_eq_true] at h
    have := h.2
    unfold inn at this
    simp at this
    omega
  · split at h
    · rename_i h1
      have := h1.2.1
      unfold inn at this
      simp at this
      omega
    · cases h
theorem fit_at {l : List Cl} (h : fitC l = true) {i : Nat} (hi : i < l.length) : cellR (l.getD i dC) = true ∧ whole l i = true := by
  unfold fitC at h
  have := allN_iff.1 h i (by omega) (by omega)
  rwa [Bool.and_eq_true] at this
theorem fit_cells {l : List Cl} (h : fitC l = true) : ∀ c ∈ l, cellR c = true := fun c hc => by
  obtain ⟨i, hi, rfl⟩ := List.getElem_of_mem hc
  have := (fit_at h hi).1
  rwa [getD_el hi] at this
theorem fit_drop {l : List Cl} (h : fitC l = true) : ∀ (n i : Nat), l.length - i ≤ n → i ≤ l.length → (i < l.length → cw l i ≠ 0) → whB (l.drop i) = true
  | 0, i, hn, hi, _ => by rw [List.drop_of_length_le (by omega)]; rfl
  | n + 1, i, hn, hi, h0 => by
    by_cases hlt : i < l.length
    · obtain ⟨r1, r2⟩ := fit_at h hlt
      have e0 : l.getD i dC = l[i] := getD_el hlt
      have c0 : cw l i = (l[i]).2.1 := by unfold cw; rw [e0]
      rw [List.drop_eq_getElem_cons hlt]
      rw [e0] at r1
      have h0 := h0 hlt
      have nx : ∀ j, j < l.length → cw l j = 0 → 0 < j ∧ cw l (j - 1) = 2 := fun j hj hz => by
        have := (fit_at h hj).2
        unfold whole at this
        rw [if_neg (by omega), if_pos hz, Bool.and_eq_true] at this
        exact ⟨of_decide_eq_true this.1, of_decide_eq_true this.2⟩
      rcases cellR_cases r1 with q | q | q
      · rw [c0] at h0; exact absurd q h0
      · rw [whB_one q]
        refine fit_drop h n (i + 1) (by omega) (by omega) fun hj hz => ?_
        have := (nx (i + 1) hj hz).2
        rw [Nat.add_sub_cancel, c0] at this
        omega
      · unfold whole at r2
        rw [if_pos (by rw [c0]; exact q), Bool.and_eq_true] at r2
        have g1 : i + 1 < l.length := of_decide_eq_true r2.1
        have g2 : cw l (i + 1) = 0 := of_decide_eq_true r2.2
        rw [List.drop_eq_getElem_cons g1]
        have e1 : l.getD (i + 1) dC = l[i + 1] := getD_el g1
        have g3 : (l[i + 1]).2.1 = 0 := by rw [← e1]; exact g2
        rw [whB_two q g3]
        refine fit_drop h n (i + 1 + 1) (by omega) (by omega) fun hj hz => ?_
        have := (nx (i + 1 + 1) hj hz).2
        rw [Nat.add_sub_cancel] at this
        omega
    · rw [List.drop_of_length_le (by omega)]; rfl
theorem fit_wh {l : List Cl} (h : fitC l = true) : whB l = true := by
  have := fit_drop h l.length 0 (by omega) (by omega) fun hi hz => by
    have := (fit_at h hi).2
    unfold whole at this
    rw [if_neg (by omega), if_pos hz, Bool.and_eq_true] at this
    exact absurd (of_decide_eq_true this.1) (by omega)
  rwa [List.drop_zero] at this
end U
namespace U
open Go.Proofs.YtmnbcnhpklejcaaDoor
def Good (l : List Cl) : Prop := whB l = true ∧ ∀ c ∈ l, cellR c = true ∧ c.1.size ≤ 1048576
theorem Good.nil : Good [] := ⟨rfl, fun c h => by simp at h⟩
theorem Good.app {a b : List Cl} (ha : Good a) (hb : Good b) : Good (a ++ b) := ⟨wh_app ha.1 hb.1, fun c h => by
  rcases List.mem_append.1 h with h | h
  · exact ha.2 c h
  · exact hb.2 c h⟩
theorem mem_trim {l : List Cl} {c : Cl} (h : c ∈ trimR l) : c ∈ l := by
  rw [← (trimR_len l).2] at h
  exact List.mem_of_mem_take h
theorem Good.trim {l : List Cl} (h : Good l) : Good (trimR l) := ⟨wh_trim l h.1, fun c hc => h.2 c (mem_trim hc)⟩
theorem Good.fit {l : List Cl} (h : fitC l = true) (hk : okc l = true) : Good l := ⟨fit_wh h, fun c hc => by
  refine ⟨fit_cells h c hc, ?_⟩
  unfold okc at hk
  rw [Bool.and_eq_true] at hk
  exact of_decide_eq_true (List.all_eq_true.1 hk.2 c hc)⟩
theorem joinL_good : ∀ (l : List Ln) (h : List Cl), (∀ y ∈ l, Good y.1) → Good h → (∀ r ∈ joinL l h, Good r ∧ r.length ≤ h.length + cells l) ∧ (joinL l h).length ≤ l.length
  | [], h, _, _ => ⟨fun r hr => by simp [joinL] at hr, by simp [joinL]⟩
  | y :: l, h, hl, hh => by
    have hy := hl y (by simp)
    have hl' : ∀ y ∈ l, Good y.1 := fun z hz => hl z (by simp [hz])
    unfold joinL
    cases hc : (!y.2.1 || decide (l.length = 0)) with
    | true =>
      simp only [cond_true]
      obtain ⟨h1, h2⟩ := joinL_good l [] hl' .nil
      refine ⟨fun r hr => ?_, by simpa using h2⟩
      rcases List.mem_cons.1 hr with rfl | hr
      · refine ⟨(hh.app hy).trim, ?_⟩
        have := (trimR_len (h ++ y.1)).1
        rw [List.length_append] at this
        show _ ≤ h.length + (y.1.length + cells l)
        omega
      · obtain ⟨g1, g2⟩ := h1 r hr
        refine ⟨g1, ?_⟩
        show _ ≤ h.length + (y.1.length + cells l)
        rw [List.length_nil] at g2
        omega
    | false =>
      simp only [cond_false]
      obtain ⟨h1, h2⟩ := joinL_good l (h ++ y.1) hl' (hh.app hy)
      refine ⟨fun r hr => ?_, by simp only [List.length_cons]; omega⟩
      obtain ⟨g1, g2⟩ := h1 r hr
      refine ⟨g1, ?_⟩
      show _ ≤ h.length + (y.1.length + cells l)
      rw [List.length_append] at g2
      omega
theorem mayL_fit {l : List Ln} (h : mayL l = true) (hk : okl l = true) : ∀ y ∈ l, Good y.1 := fun y hy => by
  obtain ⟨i, hi, rfl⟩ := List.getElem_of_mem hy
  have h1 := mayL_at h hi
  rw [getD_el hi] at h1
  unfold mayR at h1
  simp only [Bool.and_eq_true] at h1
  have h2 := okl_at hk hi
  rw [getD_el hi] at h2
  exact .fit h1.2.2 h2
theorem Good.okc {l : List Cl} (h : Good l) (hl : l.length ≤ 1048576) : okc l = true := by
  unfold U.okc
  rw [Bool.and_eq_true]
  exact ⟨decide_eq_true hl, List.all_eq_true.2 fun c hc => decide_eq_true (h.2 c hc).2⟩
theorem Good.say {l : List Cl} (h : Good l) : sayR l = sayL l := wh_say h.1 (fun c hc => (h.2 c hc).1) l.length (Nat.le_refl _)
theorem Good.okR {l : List Cl} (h : Good l) (hl : l.length ≤ 1048576) : okR l = true := by
  unfold U.okR
  rw [Bool.and_eq_true, h.say]
  have := (okc_say (h.okc hl) 0).2
  rw [List.drop_zero] at this
  exact ⟨decide_eq_true this, wh_okP h.1 _ (Nat.le_refl _)⟩
theorem eqL_self (l : List Cl) : eqL (l, false, ()) (l, false, ()) = true := by
  have := eqLs_refl [(l, false, ())]
  unfold eqLs at this
  simp only [Bool.and_eq_true] at this
  exact allN_iff.1 this.2 0 (by omega) (by simp)
end U
namespace Go.Proofs.YtmnbcnhpklejcaaDoor
open Go.RowKit
def live9 (key : Nat) : Lv :=
  bif Nat.beq key 20092 then { ls := [9999, 3, 5, 70, 71, 72] } else bif Nat.beq key 40092 then { ls := [2] } else
  bif Nat.beq key 25012 then { ls := [9999, 3, 5, 70, 71, 72, 92] } else bif Nat.beq key 45012 then { ls := [77, 78, 79, 80, 81, 82, 83, 84, 85, 86, 87, 88, 89, 90, 91, 92] } else
  bif Nat.beq key 20073 then { ls := [9999, 3, 5, 70, 71, 72] } else bif Nat.beq key 40073 then { ls := [] } else
  bif Nat.beq key 10 then { ls := [3, 5, 70, 71, 72] } else bif Nat.beq key 1010 then { ls := [2] } else
  bif Nat.beq key 20069 then { ls := [9999, 3, 5, 7] } else bif Nat.beq key 40069 then { ls := [2] } else
  bif Nat.beq key 25007 then { ls := [9999, 3, 5, 7, 69] } else bif Nat.beq key 45007 then { ls := [46, 47, 48, 49, 50, 51, 52, 53, 54, 55, 56, 57, 58, 59, 60, 61, 62, 63, 64, 65, 66, 67, 68, 69] } else
  bif Nat.beq key 25005 then { ls := [9999, 2] } else bif Nat.beq key 45005 then { ls := [2, 25, 26, 27, 28, 29, 30, 31, 32, 33, 34, 35, 36, 37, 38, 39, 40, 41, 42, 43] } else
  bif Nat.beq key 20024 then { ls := [9999, 0, 3, 4, 5, 6] } else bif Nat.beq key 40024 then { ls := [2, 25, 26, 27, 28, 29, 30, 31, 32, 33, 34, 35, 36, 37, 38, 39, 40, 41, 42, 43] } else
  { ls := [] }
abbrev G9 : List (Nat × FSpec) := [(51, w51), (52, w52), (53, w53), (54, w54), (45, w45), (55, w55), (56, w56), (57, w57)]
theorem AG9 : AllFn Tryd.prog E0 G9 := .cons wk51 (.cons wk52 (.cons wk53 (.cons wk54 (.cons wk45 (.cons wk55 (.cons wk56 (.cons wk57 .nil)))))))
abbrev M9 (ls : Nat → VS → Option (Tr (Ex × VS))) : Env := (E0.withFns G9).loops live9 ls
@[reducible] def p9_0 : LP := { n := 94, sl := [.d (Kd.sl (Kd.sl celk)), .d (Kd.sl Kd.str), .d (Kd.sl (Kd.sl celk)), .d (.int .i64), .d (.int .i64)], bl := [] }
def B9_0 (x0 : List (List Cell)) (x1 : List ByteArray) (x2 : List (List Cell)) (x3 : Int) (x4 : Int) : Tr (p9_0.T ⊕ (Unit ⊕ Unit)) :=
  let v1 : List Int := (U.sayL (rget (Kd.sl celk) x2 x4))
  let v2 : ByteArray := (strOf v1)
  let v3 : Bool := (!U.eqL (rget (Kd.sl celk) x0 x4, false, ()) (rget (Kd.sl celk) x2 x4, false, ()))
  Tr.ite (decide (x4 < x3))
    (Tr.ite (inB x4 (List.length x2))
      (Tr.ite (inB x4 (List.length x0))
        (Tr.ite (decide (List.length (rget (Kd.sl celk) x0 x4) ≤ (1048576 : Nat)))
          (Tr.ite
            ((bif v3 then true else inB x4 (List.length x1) && decide (List.length (rget (Kd.sl celk) x2 x4) ≤ (1048576 : Nat) ∧ List.length v1 ≤ (140737488355328 : Nat))) &&
              (Kd.eqb (Kd.sl (Kd.sl celk)) x0 x0 && (Kd.eqb (Kd.sl Kd.str) x1 x1 && (Kd.eqb (Kd.sl (Kd.sl celk)) x2 x2 && (Kd.eqb (.int .i64) x3 x3 && Kd.eqb (.int .i64) x4 x4)))))
            (Tr.ite (bif v3 then true else !decide (rget Kd.str x1 x4 = v2)) (Tr.ret (Sum.inr (Sum.inl ()))) (Tr.ret (Sum.inl ((x0, x1, x2, x3, IntKind.wrap IntKind.i64 (x4 + (1 : Int)), ()), ()))))
            Tr.fail)
          Tr.fail)
        Tr.fail)
      Tr.fail)
    (Tr.ret (Sum.inr (Sum.inr ())))
def X9_0 : (Unit ⊕ Unit) → Ex × VS
  | (.inl r) => Prod.mk Ex.ret { n := 94, v := [Slot.av (AV.one (Leaf.kb false))], h := [] }
  | (.inr r) => Prod.mk (Ex.exit ( 0)) { n := 94, v := [Slot.av (AV.one Leaf.undef)], h := [] }
def b9_0 : p9_0.T → Tr (p9_0.T ⊕ (Unit ⊕ Unit)) := fun ⟨⟨x0, ⟨x1, ⟨x2, ⟨x3, ⟨x4, _⟩⟩⟩⟩⟩, _⟩ => B9_0 x0 x1 x2 x3 x4
theorem h9_0 (ls : Nat → VS → Option (Tr (Ex × VS))) (x : p9_0.T) : (evC (evI 2) (lc Tryd.f9 0) (Env.lend (M9 ls) 0) (unV (live9 10) (p9_0.V x))).map (decL 0 (live9 10) (live9 1010)) = (b9_0 x).map (encR p9_0.V X9_0) := by
  obtain ⟨⟨x0, ⟨x1, ⟨x2, ⟨x3, ⟨x4, _⟩⟩⟩⟩⟩, _⟩ := x; kernel_rfl
theorem c9_0 (x : p9_0.T) : canV 0 (live9 10) (unV (live9 10) (p9_0.V x)) = p9_0.V x := by
  obtain ⟨⟨x0, ⟨x1, ⟨x2, ⟨x3, ⟨x4, _⟩⟩⟩⟩⟩, _⟩ := x; kernel_rfl
theorem l9_0 {T : p9_0.T → Tr (Unit ⊕ Unit)} {ls : Nat → VS → Option (Tr (Ex × VS))} (hls : ∀ x, (Env.lend (M9 ls) 0).ls 10 x = p9_0.ls (fun a => (T a).map X9_0) x) (hS : ∀ x r, (T x).val = some r → Rounds b9_0 x r) : LoopOK (evI 2) (Env.lend (M9 ls) 0) (lc Tryd.f9 0) :=
  loopA 10 (live9 10) (live9 1010) p9_0 b9_0 X9_0 T (by kernel_rfl) rfl rfl hls (h9_0 ls) c9_0 hS
def T9 (x : p9_0.T) : Tr (Unit ⊕ Unit) :=
  match x with
  | ⟨⟨rows, ss, want, n, i, _⟩, _⟩ => .ite (decide ((n : Int) = (List.length (α := List Cell) want : Int) ∧ (i : Int) = 0 ∧ List.length (α := List Cell) want ≤ 1048576) && (List.all (α := List Cell) want (fun l => decide (List.length l ≤ 1048576 ∧ List.length (U.sayL l) ≤ 140737488355328)) && (Kd.eqb (.sl (.sl celk)) rows want && Kd.eqb (.sl .str) ss (List.map (α := List Cell) (fun l => strOf (U.sayL l)) want))))
      (.ret (.inr ())) .fail
abbrev E9 : Env := M9 fun key x => bif Nat.beq key 10 then p9_0.ls (fun a => (T9 a).map X9_0) x else none
theorem R9 (want : List (List Cell)) (hl : want.length ≤ 1048576) (ha : want.all (fun l => decide (List.length l ≤ 1048576 ∧ List.length (U.sayL l) ≤ 140737488355328)) = true) : ∀ k i : Nat, i + k = want.length →
    Rounds b9_0 ((want, want.map fun l => strOf (U.sayL l), want, (want.length : Int), (i : Int), ()), ()) (.inr ())
  | 0, i, e => by
    have e : i = want.length := by omega
    subst e
    refine .exit ?_
    have c : decide ((want.length : Int) < (want.length : Int)) = false := decide_eq_false (by omega)
    simp only [b9_0, B9_0, Tr.val, c, cond_false]
  | k + 1, i, e => by
    have hi : i < want.length := by omega
    have e1 : rget (.sl celk) want (i : Int) = want[i] := by rw [rget_nat]; exact getD_el hi
    have e2 : rget .str (want.map fun l => strOf (U.sayL l)) (i : Int) = strOf (U.sayL want[i]) := by
      rw [rget_nat]
      have := getD_el (d := Kd.str.dflt) (l := want.map fun l => strOf (U.sayL l)) (i := i) (by rw [List.length_map]; exact hi)
      rw [List.getElem_map] at this
      exact this
    have w : IntKind.wrap IntKind.i64 ((i : Int) + 1) = ((i + 1 : Nat) : Int) := wrap64_nat (show i ≤ 1048576 by omega)
    have c1 : decide ((i : Int) < (want.length : Int)) = true := decide_eq_true (by omega)
    have h1 := List.all_eq_true.1 ha _ (List.getElem_mem hi)
    have h1 := of_decide_eq_true h1
    have h2 : inB (i : Int) (want.map fun l => strOf (U.sayL l)).length = true := inB_nat (by rw [List.length_map]; exact hi)
    refine .step ?_ (R9 want hl ha k (i + 1) (by omega))
    simp only [b9_0, B9_0, Tr.val, inB_nat hi, e1, e2, w, c1, h1.1, h1.2, h2, U.eqL_self, eqb_self, and_self, decide_true, Bool.not_true, Bool.and_self, cond_true, cond_false]
theorem L9 : LoopOK (evI 2) (E9.lend 0) (lc Tryd.f9 0) := by
  refine l9_0 (T := T9) (fun x => rfl) ?_
  rintro ⟨⟨rows, ss, want, n, i, z⟩, z1⟩ r hh
  obtain ⟨g1, g2⟩ := pre_val hh
  simp only [Bool.and_eq_true] at g1
  obtain ⟨g1, ga, gr, gs⟩ := g1
  have g1 : (n : Int) = (want.length : Int) ∧ (i : Int) = 0 ∧ want.length ≤ 1048576 := of_decide_eq_true g1
  obtain ⟨rfl, rfl, e3⟩ := g1
  have gr := eqb_iff gr
  have gs := eqb_iff gs
  subst gr
  subst gs
  cases g2
  exact R9 rows e3 ga rows.length 0 (by omega)
def d9 (a : List Line) : Tr (Bool) :=
  let v1 : List U.Ln := (U.few a (30 : Nat))
  let v2 : Bool := (U.okl v1)
  let v3 : Bool := (U.may v1)
  let v4 : List (List U.Cl) := (U.joinL v1 [])
  let v5 : Int := ((↑(List.length v1) : Int))
  let v6 : Int := ((↑(List.length v4) : Int))
  let v7 : Int := ((↑(List.length v4) : Int))
  let v8 : Bool := (decide (U.cells v1 ≤ (1048576 : Nat)))
  let v9 : Bool := (v2 && v8)
  let v10 : List (List Cell) × Int := (bif v3 then (v4, (0 : Int)) else ([], (1 : Int)))
  let v11 : List ByteArray × Int := (bif v3 then (List.map (fun (l : List Cell) => strOf (U.sayR l)) v4, (0 : Int)) else ([], (1 : Int)))
  let v12 : Int := (v10.snd)
  let v13 : List (List Cell) := (v10.fst)
  let v14 : Int := (v11.snd)
  let v15 : List ByteArray := (v11.fst)
  let v16 : Int := ((↑(List.length v15) : Int))
  let v17 : Int := ((↑(List.length v13) : Int))
  let v18 : Bool := (!decide (v14 = (0 : Int)))
  let v19 : Bool := (!decide (v12 = (0 : Int)))
  let v20 : Bool := (!decide (v17 = v7))
  let v21 : Bool := (Kd.eqb (Kd.sl (Kd.sl celk)) v13 v13 && (Kd.eqb (Kd.sl Kd.str) v15 v15 && Kd.eqb (Kd.sl (Kd.sl celk)) v4 v4))
  Tr.ite v9
    (Tr.ite (v2 && (v8 && (!v3 || decide (List.length v4 ≤ (1048576 : Nat)) && List.all v4 U.okR)))
      (Tr.ite v2
        (Tr.ite (!(U.mayL v1 && decide (v5 ≤ (200 : Int))))
          (Tr.ret
            (bif true then bif decide (v12 = (1 : Int)) then bif decide (v14 = (1 : Int)) then bif decide (v17 = (0 : Int)) then decide (v16 = (0 : Int)) else false else false else false else false))
          (Tr.ite v9
            (Tr.ite ((bif v19 then true else (bif v18 then true else (bif v20 then true else v21) && v21) && v21) && v21)
              (Tr.ite (bif v19 then true else bif v18 then true else bif v20 then true else bif !decide (v16 = v7) then true else false) (Tr.ret false)
                (Tr.ite
                  (decide (v7 = v6 ∧ (0 : Int) = (0 : Int) ∧ List.length v4 ≤ (1048576 : Nat)) &&
                    ((List.all v4 fun (l : List Cell) => decide (List.length l ≤ (1048576 : Nat) ∧ List.length (U.sayL l) ≤ (140737488355328 : Nat))) &&
                      (Kd.eqb (Kd.sl (Kd.sl celk)) v13 v4 && Kd.eqb (Kd.sl Kd.str) v15 (List.map (fun (l : List Cell) => strOf (U.sayL l)) v4))))
                  (Tr.ret true) Tr.fail))
              Tr.fail)
            Tr.fail))
        Tr.fail)
      Tr.fail)
    Tr.fail
def e9 (r : Bool) : FRes := { rs := Slot.av (AV.one (Leaf.dat Kd.bool r)), upd := [], new := [] }
@[reducible] def a9 : List AK := [AK.d (Kd.sl link)]
@[reducible] def b9 : List BK := []
theorem t9 (a : List Line) : evFn (E9) Tryd.f9 [PM.data Kd.bool] (akAV a9 (a, ())) (bkBs b9 ()) = (d9 a).map e9 := by kernel_rfl
def s9' (G : akT a9 → Bool) : FSpec := aspec0 a9 b9 e9 (fun x _ => G x)
theorem k9' {G : akT a9 → Bool} (hd : ∀ (a : List Line), (d9 a).val = some (G (a, ()))) (IO : ItOK Tryd.prog (E9) := by exact itOK_none rfl) (L : ∀ c, Tryd.f9.body = some c → LsOK (evI 2) ((E9).lend 0) c := by exact fun c _ => LsOK_none rfl c) : SpecOK Tryd.prog E0 9 (s9' G) :=
  aspec0_ok (ak := a9) (bl := b9) (e := e9) (g := fun x _ => G x) (E0 := E0) (E := E9) tab AG9 rfl rfl hm Tryd.func9 (by kernel_rfl) [PM.data Kd.bool] (fun X Y => by obtain ⟨a, _⟩ := X; exact val_of (t9 a) (hd a)) IO L
theorem law9 (a : List Line) : (d9 a).val = some true := by
  have k1 := U.few_ok a (n := 30) (by omega)
  have k2' : U.cells (U.few a 30) ≤ 1048576 := by have := U.cells_few a 30; omega
  have k2 : decide (U.cells (U.few a 30) ≤ 1048576) = true := decide_eq_true k2'
  have k4 := U.few_len a 30
  simp only [d9, Tr.val, k1, k2, eqb_self, Bool.and_self, Bool.cond_self, Bool.true_and, cond_true]
  generalize U.few a 30 = l at *
  rw [U.may_mayL]
  cases hm : (U.mayL l && decide ((l.length : Int) ≤ 200)) with
  | false => simp
  | true =>
    rw [Bool.and_eq_true] at hm
    obtain ⟨j1, j2⟩ := U.joinL_good l [] (U.mayL_fit hm.1 k1) .nil
    have a1 : decide ((U.joinL l []).length ≤ 1048576) = true := decide_eq_true (by omega)
    have a2 : (U.joinL l []).all U.okR = true := List.all_eq_true.2 fun r hr => by
      obtain ⟨g1, g2⟩ := j1 r hr
      exact g1.okR (by simp only [List.length_nil] at g2; omega)
    have a3 : ((U.joinL l []).all fun (l : List Cell) => decide (List.length l ≤ (1048576 : Nat) ∧ List.length (U.sayL l) ≤ (140737488355328 : Nat))) = true := List.all_eq_true.2 fun r hr => by
      obtain ⟨g1, g2⟩ := j1 r hr
      have h1 : r.length ≤ 1048576 := by simp only [List.length_nil] at g2; omega
      have h2 := (U.okc_say (g1.okc h1) 0).2
      rw [List.drop_zero] at h2
      exact decide_eq_true ⟨h1, h2⟩
    have a4 : (U.joinL l []).map (fun (l : List Cell) => strOf (U.sayR l)) = (U.joinL l []).map (fun (l : List Cell) => strOf (U.sayL l)) := List.map_congr_left fun r hr => by rw [(j1 r hr).1.say]
    have a5 : (U.joinL l []).length ≤ 1048576 := by omega
    simp only [a1, a2, a3, a4, a5, eqb_self, List.length_map, decide_true, Bool.not_true, Bool.false_or, Bool.and_self, Bool.true_and, Bool.and_true, and_self, cond_true, cond_false]
abbrev w9 : FSpec := s9' fun _ => true
theorem wk9 : SpecOK Tryd.prog E0 9 w9 := k9' (fun a => law9 a) (L := ls_ok (lcs := [lc Tryd.f9 0]) (rgs := []) (by kernel_rfl) (by kernel_rfl) L9 trivial)
end Go.Proofs.YtmnbcnhpklejcaaDoor

end
