/- Part 4 of what the proof leans on: an evaluator of Go code over plain data, with its soundness; contracts of functions; laws of plain data. -/
import Derived.Test.YtmnbcnhpklejcaaDoorZk3
section
set_option linter.unusedVariables false
set_option linter.unusedSimpArgs false
set_option maxRecDepth 20000
open Go Go.Ev
namespace Go.Proofs.YtmnbcnhpklejcaaDoor
open Go.RowKit
def live32 (key : Nat) : Lv :=
  bif Nat.beq key 3 then { ls := [2, 3, 15, 16, 17], wd := [⟨3, some 1, .row 34 link⟩] } else bif Nat.beq key 1003 then { ls := [2, 3] } else
  { ls := [] }
abbrev M32 (ls : Nat → VS → Option (Tr (Ex × VS))) : Env := (E0.withFns [(27, w27)]).loops live32 ls
@[reducible] def p32_0 : LP := { n := 30, sl := [.c (Leaf.ptr ( 0) ( 0)), .c (Leaf.ptr ( 1) ( 0)), .d (link.sl), .d (.int .i64), .d (.int .i64)], bl := [(0, .box [.d (.int .i64), .c (Leaf.nils)]), (1, .box [.d (.int .i64), .c (Leaf.row ( 2))]), (2, .row 34 (link))] }
def B32_0 (x2 : List Line) (x3 : Int) (x4 : Int) (h0_0 : Int) (h1_0 : Int) (h2 : List Line) : Tr (p32_0.T ⊕ (Int × Int × List Line)) :=
  Tr.ite (decide (x4 < x3))
    (Tr.ite (inB x4 x2.length)
      (Tr.ite (decide ((h2.length + (1 : Nat)) * (32 : Nat) ≤ (140737488355328 : Nat)))
        (Tr.ret (Sum.inl ((x2, x3, IntKind.i64.wrap (x4 + (1 : Int)), ()), (h0_0, ()), (h1_0, ()), h2 ++ [(U.cutL (rget link x2 x4).fst, (rget link x2 x4).snd)], ()))) Tr.fail)
      Tr.fail)
    (Tr.ret (Sum.inr (h0_0, h1_0, h2)))
def X32_0 (r : (Int × Int × List Line)) : Ex × VS := Prod.mk (Ex.exit ( 0)) { n := 30, v := [Slot.av (AV.one (Leaf.ptr ( 0) ( 0))), Slot.av (AV.one (Leaf.ptr ( 1) ( 0)))], h := [( 0, Blk.box [Leaf.dat (.int .i64) r.fst, Leaf.nils]), ( 1, Blk.box [Leaf.dat (.int .i64) r.snd.fst, Leaf.row ( 2)]), ( 2, Blk.row ( 34) link r.snd.snd)] }
def b32_0 : p32_0.T → Tr (p32_0.T ⊕ (Int × Int × List Line)) := fun ⟨⟨x2, ⟨x3, ⟨x4, _⟩⟩⟩, ⟨⟨h0_0, _⟩, ⟨⟨h1_0, _⟩, ⟨h2, _⟩⟩⟩⟩ => B32_0 x2 x3 x4 h0_0 h1_0 h2
theorem h32_0 (ls : Nat → VS → Option (Tr (Ex × VS))) (x : p32_0.T) : (evC (evI 2) (lc Tryd.f32 0) (Env.lend (M32 ls) 0) (unV (live32 3) (p32_0.V x))).map (decL 0 (live32 3) (live32 1003)) = (b32_0 x).map (encR p32_0.V X32_0) := by
  obtain ⟨⟨x2, ⟨x3, ⟨x4, _⟩⟩⟩, ⟨⟨h0_0, _⟩, ⟨⟨h1_0, _⟩, ⟨h2, _⟩⟩⟩⟩ := x; kernel_rfl
theorem c32_0 (x : p32_0.T) : canV 0 (live32 3) (unV (live32 3) (p32_0.V x)) = p32_0.V x := by
  obtain ⟨⟨x2, ⟨x3, ⟨x4, _⟩⟩⟩, ⟨⟨h0_0, _⟩, ⟨⟨h1_0, _⟩, ⟨h2, _⟩⟩⟩⟩ := x; kernel_rfl
theorem l32_0 {T : p32_0.T → Tr (Int × Int × List Line)} {ls : Nat → VS → Option (Tr (Ex × VS))} (hls : ∀ x, (Env.lend (M32 ls) 0).ls 3 x = p32_0.ls (fun a => (T a).map X32_0) x) (hS : ∀ x r, (T x).val = some r → Rounds b32_0 x r) : LoopOK (evI 2) (Env.lend (M32 ls) 0) (lc Tryd.f32 0) :=
  loopA 3 (live32 3) (live32 1003) p32_0 b32_0 X32_0 T (by kernel_rfl) rfl rfl hls (h32_0 ls) c32_0 hS
def T32 (x : p32_0.T) : Tr (Int × Int × List Line) :=
  .ite (decide ((x.1.2.1 : Int) = (List.length (α := Line) x.1.1 : Int) ∧ (x.1.2.2.1 : Int) = 0 ∧ List.length (α := Line) x.2.2.2.1 + List.length (α := Line) x.1.1 ≤ 1048576))
    (.ret (x.2.1.1, x.2.2.1.1, x.2.2.2.1 ++ List.map (α := Line) (β := Line) (fun y => (U.cutL y.1, y.2.1, ())) x.1.1)) .fail
abbrev E32 : Env := M32 fun key x => bif Nat.beq key 3 then p32_0.ls (fun a => (T32 a).map X32_0) x else none
theorem L32 : LoopOK (evI 2) (E32.lend 0) (lc Tryd.f32 0) := by
  refine l32_0 (T := T32) (fun x => rfl) ?_
  rintro ⟨⟨l, n, i, z⟩, ⟨h0, z0⟩, ⟨h1, z1⟩, h2, z2⟩ r h
  obtain ⟨g1, g2⟩ := pre_val h
  obtain ⟨e1, e2, e3⟩ := of_decide_eq_true g1
  dsimp only at e1 e2 e3 g2
  subst e1; subst e2
  cases g2
  have := Rounds.fold0 (B := b32_0) (σ := List Line) l (fun i s => ((l, (l.length : Int), (i : Int), ()), (h0, ()), (h1, ()), s, ())) (fun s y => s ++ [(U.cutL y.1, y.2.1, ())]) (fun s => (h0, h1, s)) (fun i s => s.length + (l.length - i) ≤ 1048576) h2 (by omega) (fun i s hi hv => ?_) (fun s hv => ?_)
  · have e : ∀ (l : List Line) (a : List Line), l.foldl (fun s y => s ++ [(U.cutL y.1, y.2.1, ())]) a = a ++ l.map (fun y => (U.cutL y.1, y.2.1, ())) := by
      intro l
      induction l with
      | nil => intro a; simp
      | cons x l ih => intro a; rw [List.foldl_cons, ih]; simp
    rw [e] at this
    exact this
  · have e : rget link l (i : Int) = l[i] := by rw [rgetL]; exact getD_el hi
    have e8 : (s.length + 1) * 32 ≤ 140737488355328 := by omega
    refine ⟨?_, by simp only [List.length_append, List.length_singleton]; omega⟩
    simp only [b32_0, B32_0, Tr.val, e, e8, inB_nat hi, show ((i : Int) < (l.length : Int)) by omega, and_self, decide_true, cond_true, wrap64_nat (show i ≤ 1048576 by omega)]
  · simp only [b32_0, B32_0, Tr.val, show ¬ ((l.length : Int) < (l.length : Int)) by omega, decide_false, cond_false]
def d32 (a1 : Int) (a2 : List Line) : Tr (Int × List Line) :=
  let v1 : Int := ((↑a2.length : Int))
  let v2 : Int := (minI v1 (52 : Int))
  let v3 : List Line := (sub a2 (0 : Nat) v2.toNat)
  let v4 : Int := ((↑v3.length : Int))
  let v5 : Int := ((↑v3.length : Int))
  Tr.ite (decide ((0 : Int) ≤ v2 ∧ v2 ≤ v1))
    (Tr.ite (decide (v5 = v4 ∧ (0 : Int) = (0 : Int) ∧ (0 : Nat) + v3.length ≤ (1048576 : Nat))) (Tr.ret (a1, List.map (fun (y : Line) => (U.cutL y.fst, y.snd.fst, ())) v3)) Tr.fail) Tr.fail
def e32 (r : Int × List Line) : FRes := { rs := Slot.av (AV.agg [Leaf.dat (.int .i64) r.fst, Leaf.dat link.sl r.snd]), upd := [], new := [] }
@[reducible] def a32 : List AK := [AK.d gridk]
@[reducible] def b32 : List BK := []
theorem t32 (a1 : Int) (a2 : List Line) : evFn (E32) Tryd.f32 [PM.data gridk] (akAV a32 ((a1, a2, ()), ())) (bkBs b32 ()) = (d32 a1 a2).map e32 := by kernel_rfl
def s32' (G : akT a32 → Int × List Line) : FSpec := aspec0 a32 b32 e32 (fun x _ => G x)
theorem k32' {G : akT a32 → Int × List Line} (hd : ∀ (a1 : Int) (a2 : List Line), (d32 a1 a2).val = some (G ((a1, a2, ()), ()))) (IO : ItOK Tryd.prog (E32) := by exact itOK_none rfl) (L : ∀ c, Tryd.f32.body = some c → LsOK (evI 2) ((E32).lend 0) c := by exact fun c _ => LsOK_none rfl c) : SpecOK Tryd.prog E0 32 (s32' G) :=
  aspec0_ok (ak := a32) (bl := b32) (e := e32) (g := fun x _ => G x) (E0 := E0) (E := E32) tab (.cons wk27 .nil) rfl rfl hm Tryd.func32 (by kernel_rfl) [PM.data gridk] (fun X Y => by obtain ⟨⟨a1, ⟨a2, _⟩⟩, _⟩ := X; exact val_of (t32 a1 a2) (hd a1 a2)) IO L
abbrev w32 : FSpec := s32' fun x => (x.1.1, U.few x.1.2.1 52)
theorem wk32 : SpecOK Tryd.prog E0 32 w32 := by
  refine k32' (fun c l => ?_) (L := ls_ok (lcs := [lc Tryd.f32 0]) (rgs := []) (by kernel_rfl) (by kernel_rfl) L32 trivial)
  show _ = some (c, U.few l 52)
  have e6 : minI (l.length : Int) 52 = ((min l.length 52 : Nat) : Int) := minI_nat _ 52
  have e7 : (0 : Int) ≤ ((min l.length 52 : Nat) : Int) ∧ ((min l.length 52 : Nat) : Int) ≤ (l.length : Int) := by omega
  have e9 : sub l 0 (min l.length 52) = l.take 52 := by
    unfold sub
    rw [List.drop_zero]
    rcases Nat.le_total l.length 52 with h | h
    · rw [Nat.min_eq_left h, List.take_length, List.take_of_length_le h]
    · rw [Nat.min_eq_right h]
  have e10 : 0 + (l.take 52).length ≤ 1048576 := by rw [List.length_take]; omega
  simp only [d32, Tr.val, e6, e7, e9, e10, Int.toNat_natCast, List.length_nil, and_self, decide_true, cond_true, List.nil_append]
  rfl
end Go.Proofs.YtmnbcnhpklejcaaDoor
namespace U
theorem putAt_step {α : Type} {h : List α} {lo i : Nat} {b : α} (hi : lo + i < h.length) : (putAt h lo (List.replicate i b)).set (lo + i) b = putAt h lo (List.replicate (i + 1) b) := by
  have e : h.drop (lo + i) = h[lo + i] :: h.drop (lo + i + 1) := List.drop_eq_getElem_cons hi
  unfold putAt
  rw [List.length_replicate, List.length_replicate, e, List.set_append_right _ _ (by rw [List.length_take]; omega), List.set_append_right _ _ (by rw [List.length_take, List.length_replicate]; omega)]
  have : lo + i - (h.take lo).length - (List.replicate i b).length = 0 := by rw [List.length_take, List.length_replicate]; omega
  rw [this, List.set_cons_zero, List.replicate_succ', List.append_assoc]
  rfl
theorem putAt_fold {α : Type} {h : List α} {lo : Nat} {b : α} : ∀ (k i : Nat), lo + (i + k) ≤ h.length → (List.range' i k).foldl (fun s i => s.set (lo + i) b) (putAt h lo (List.replicate i b)) = putAt h lo (List.replicate (i + k) b)
  | 0, i, _ => rfl
  | k + 1, i, hle => by
    rw [List.range'_succ, List.foldl_cons, putAt_step (by omega), putAt_fold k (i + 1) (by omega)]
    congr 2
    omega
theorem putAt_nil {α : Type} (h : List α) (lo : Nat) : putAt h lo [] = h := by simp [putAt]
end U
namespace Go.Proofs.YtmnbcnhpklejcaaDoor
def live96 (key : Nat) : Lv :=
  bif Nat.beq key 2 then { ls := [0, 3, 6, 7] } else bif Nat.beq key 1002 then { ls := [] } else
  { ls := [] }
abbrev M96 (ls : Nat → VS → Option (Tr (Ex × VS))) : Env := (E0.withFns [(88, w88)]).loops live96 ls
@[reducible] def p96_0 : LP := { n := 16, sl := [.v 0 5, .c (Leaf.ptr ( 1) ( 0)), .d (.int .i64), .d (.int .i64)], bl := [(0, .row 48 (celk)), (1, .box [.d (.int .i64), .d (.int .i64), .d (.int .i64)])] }
def B96_0 (x0l : Int) (x0n : Int) (x2 : Int) (x3 : Int) (h0 : List Cell) (h1_0 : Int) (h1_1 : Int) (h1_2 : Int) : Tr (p96_0.T ⊕ (List Cell)) :=
  Tr.ite (decide (x3 < x2))
    (Tr.ite (decide ((0 : Int) ≤ x3 ∧ x3 < x0n))
      (Tr.ret (Sum.inl (((x0l, x0n), x2, IntKind.i64.wrap (x3 + (1 : Int)), ()), h0.set (x0l + x3).toNat (ByteArray.empty, (1 : Int), ((0 : Int), h1_1, (0 : Int), ()), ()), (h1_0, h1_1, h1_2, ()), ())))
      Tr.fail)
    (Tr.ret (Sum.inr h0))
def X96_0 (r : (List Cell)) : Ex × VS := Prod.mk (Ex.exit ( 0)) { n := 16, v := [], h := [( 0, Blk.row ( 48) celk r)] }
def b96_0 : p96_0.T → Tr (p96_0.T ⊕ (List Cell)) := fun ⟨⟨⟨x0l, x0n⟩, ⟨x2, ⟨x3, _⟩⟩⟩, ⟨h0, ⟨⟨h1_0, ⟨h1_1, ⟨h1_2, _⟩⟩⟩, _⟩⟩⟩ => B96_0 x0l x0n x2 x3 h0 h1_0 h1_1 h1_2
theorem h96_0 (ls : Nat → VS → Option (Tr (Ex × VS))) (x : p96_0.T) : (evC (evI 2) (lc Tryd.f96 0) (Env.lend (M96 ls) 1) (unV (live96 2) (p96_0.V x))).map (decL 1 (live96 2) (live96 1002)) = (b96_0 x).map (encR p96_0.V X96_0) := by
  obtain ⟨⟨⟨x0l, x0n⟩, ⟨x2, ⟨x3, _⟩⟩⟩, ⟨h0, ⟨⟨h1_0, ⟨h1_1, ⟨h1_2, _⟩⟩⟩, _⟩⟩⟩ := x; kernel_rfl
theorem c96_0 (x : p96_0.T) : canV 1 (live96 2) (unV (live96 2) (p96_0.V x)) = p96_0.V x := by
  obtain ⟨⟨⟨x0l, x0n⟩, ⟨x2, ⟨x3, _⟩⟩⟩, ⟨h0, ⟨⟨h1_0, ⟨h1_1, ⟨h1_2, _⟩⟩⟩, _⟩⟩⟩ := x; kernel_rfl
theorem l96_0 {T : p96_0.T → Tr (List Cell)} {ls : Nat → VS → Option (Tr (Ex × VS))} (hls : ∀ x, (Env.lend (M96 ls) 1).ls 2 x = p96_0.ls (fun a => (T a).map X96_0) x) (hS : ∀ x r, (T x).val = some r → Rounds b96_0 x r) : LoopOK (evI 2) (Env.lend (M96 ls) 1) (lc Tryd.f96 0) :=
  loopA 2 (live96 2) (live96 1002) p96_0 b96_0 X96_0 T (by kernel_rfl) rfl rfl hls (h96_0 ls) c96_0 hS
def T96 (x : p96_0.T) : Tr (List Cell) :=
  .ite (decide ((x.1.2.2.1 : Int) = 0 ∧ (x.1.2.1 : Int) = x.1.1.2 ∧ 0 ≤ x.1.1.1 ∧ 0 ≤ x.1.1.2 ∧ x.1.1.1.toNat + x.1.1.2.toNat ≤ List.length (α := Cell) x.2.1 ∧ List.length (α := Cell) x.2.1 ≤ 1048576))
    (.ret (putAt (α := Cell) x.2.1 x.1.1.1.toNat (List.replicate x.1.1.2.toNat (U.blank (x.2.2.1.1, x.2.2.1.2.1, x.2.2.1.2.2.1, ()))))) .fail
abbrev E96 : Env := M96 fun key x => bif Nat.beq key 2 then p96_0.ls (fun a => (T96 a).map X96_0) x else none
theorem L96 : LoopOK (evI 2) (E96.lend 1) (lc Tryd.f96 0) := by
  refine l96_0 (T := T96) (fun x => rfl) ?_
  rintro ⟨⟨⟨lo, n⟩, n', i, z⟩, h, ⟨a, b, c, z1⟩, z2⟩ r hh
  obtain ⟨g1, g2⟩ := pre_val hh
  have g1 : (i : Int) = 0 ∧ (n' : Int) = n ∧ 0 ≤ lo ∧ 0 ≤ n ∧ lo.toNat + n.toNat ≤ h.length ∧ h.length ≤ 1048576 := of_decide_eq_true g1
  obtain ⟨rfl, rfl, e3, e4, e5, e6⟩ := g1
  obtain ⟨o, rfl⟩ := Int.eq_ofNat_of_zero_le e3
  obtain ⟨m, rfl⟩ := Int.eq_ofNat_of_zero_le e4
  have e5 : o + m ≤ h.length := by simpa using e5
  cases g2
  have := Rounds.uptoA (B := b96_0) (σ := List Cell) (N := m) (fun i s => ((((o : Int), (m : Int)), (m : Int), (i : Int), ()), s, (a, b, c, ()), ())) (fun i s => s.set (o + i) (U.blank (a, b, c, ()))) (fun s => s) (fun i s => True) (fun i s hi hv => ?_) (fun s hv => ?_) m 0 h (by omega) trivial
  · have e7 := U.putAt_fold (h := h) (lo := o) (b := U.blank (a, b, c, ())) m 0 (by omega)
    rw [List.replicate_zero, U.putAt_nil] at e7
    rw [e7, Nat.zero_add] at this
    exact this
  · have e8 : ((o : Int) + (i : Int)).toNat = o + i := by omega
    refine ⟨?_, trivial⟩
    simp only [b96_0, B96_0, Tr.val, e8, show ((i : Int) < (m : Int)) by omega, show (0 : Int) ≤ (i : Int) by omega, and_self, decide_true, cond_true, wrap64_nat (show i ≤ 1048576 by omega)]
    rfl
  · simp only [b96_0, B96_0, Tr.val, show ¬ ((m : Int) < (m : Int)) by omega, decide_false, cond_false]
def d96 (al : Int) (an : Int) (b1 : Int) (b2 : Int) (b3 : Int) (h0 : List Cell) : Tr (List Cell) :=
  Tr.ite (decide ((0 : Int) = (0 : Int) ∧ an = an ∧ (0 : Int) ≤ al ∧ (0 : Int) ≤ an ∧ al.toNat + an.toNat ≤ h0.length ∧ h0.length ≤ (1048576 : Nat)))
    (Tr.ret (putAt h0 al.toNat (List.replicate an.toNat (U.blank (b1, b2, b3, ()))))) Tr.fail
def e96 (r : List Cell) : FRes := { rs := Slot.tup [], upd := [Blk.row ( 48) celk r], new := [] }
@[reducible] def a96 : List AK := [AK.v (0 : Nat) (5 : Nat), AK.d attk]
@[reducible] def b96 : List BK := [BK.row (48 : TypeId) celk]
theorem t96 (al : Int) (an : Int) (b1 : Int) (b2 : Int) (b3 : Int) (h0 : List Cell) : evFn (E96) Tryd.f96 [] (akAV a96 ((al, an), (b1, b2, b3, ()), ())) (bkBs b96 (h0, ())) = (d96 al an b1 b2 b3 h0).map e96 := by kernel_rfl
def s96 (C : akT a96 → bksT b96 → Bool) (G : akT a96 → bksT b96 → List Cell) : FSpec := aspec a96 b96 e96 (C) (G)
theorem k96 {C : akT a96 → bksT b96 → Bool} {G : akT a96 → bksT b96 → List Cell} (hd : ∀ (al : Int) (an : Int) (b1 : Int) (b2 : Int) (b3 : Int) (h0 : List Cell), C ((al, an), (b1, b2, b3, ()), ()) (h0, ()) = true → (d96 al an b1 b2 b3 h0).val = some (G ((al, an), (b1, b2, b3, ()), ()) (h0, ()))) (IO : ItOK Tryd.prog (E96) := by exact itOK_none rfl) (L : ∀ c, Tryd.f96.body = some c → LsOK (evI 2) ((E96).lend 1) c := by exact fun c _ => LsOK_none rfl c) : SpecOK Tryd.prog E0 96 (s96 C G) :=
  aspec_ok (ak := a96) (bl := b96) (e := e96) (c := C) (g := G) (E0 := E0) (E := E96) tab (.cons wk88 .nil) rfl rfl hm Tryd.func96 (by kernel_rfl) [] (fun X Y H => by obtain ⟨⟨al, an⟩, ⟨⟨b1, ⟨b2, ⟨b3, _⟩⟩⟩, _⟩⟩ := X; obtain ⟨h0, _⟩ := Y; exact val_of (t96 al an b1 b2 b3 h0) (hd al an b1 b2 b3 h0 H)) IO L
abbrev w96 : FSpec := s96 (fun x y => decide (0 ≤ x.1.1 ∧ 0 ≤ x.1.2 ∧ x.1.1.toNat + x.1.2.toNat ≤ List.length (α := Cell) y.1 ∧ List.length (α := Cell) y.1 ≤ 1048576)) fun x y => putAt (α := Cell) y.1 x.1.1.toNat (List.replicate x.1.2.toNat (U.blank x.2.1))
theorem wk96 : SpecOK Tryd.prog E0 96 w96 := by
  refine k96 (fun lo n a b c h H => ?_) (L := ls_ok (lcs := [lc Tryd.f96 0]) (rgs := []) (by kernel_rfl) (by kernel_rfl) L96 trivial)
  have H : 0 ≤ lo ∧ 0 ≤ n ∧ lo.toNat + n.toNat ≤ h.length ∧ h.length ≤ 1048576 := of_decide_eq_true H
  obtain ⟨h1, h2, h3, h4⟩ := H
  simp only [d96, Tr.val, h1, h2, h3, h4, and_self, decide_true, cond_true]
def live95 (key : Nat) : Lv :=
  bif Nat.beq key 8888 then { ls := [8] } else
  { ls := [] }
def d95 (h0 : List Cell) (h1_0 : Int) (h2_0 : Int) (h3_0 : Int) (h3_1 : Int) (h3_2 : Int) : Tr (List Cell × Int × Int × Int × Int × Int) :=
  let v1 : Int := ((↑h0.length : Int))
  let v2 : Int := (vwHi v1 (some h2_0) - vwLo (some h1_0))
  Tr.ite (vwOK v1 (some h1_0) (some h2_0))
    (Tr.ite (decide ((0 : Int) ≤ vwLo (some h1_0) ∧ (0 : Int) ≤ v2 ∧ (vwLo (some h1_0)).toNat + v2.toNat ≤ h0.length ∧ h0.length ≤ (1048576 : Nat)))
      (Tr.ret (putAt h0 (vwLo (some h1_0)).toNat (List.replicate v2.toNat (U.blank (h3_0, h3_1, h3_2, ()))), h1_0, h2_0, h3_0, h3_1, h3_2)) Tr.fail)
    Tr.fail
def e95 (r : List Cell × Int × Int × Int × Int × Int) : FRes := { rs := Slot.tup [], upd := [Blk.row ( 48) celk r.fst, Blk.box [Leaf.dat (.int .i64) r.snd.fst], Blk.box [Leaf.dat (.int .i64) r.snd.snd.fst], Blk.box [Leaf.dat (.int .i64) r.snd.snd.snd.fst, Leaf.dat (.int .i64) r.snd.snd.snd.snd.fst, Leaf.dat (.int .i64) r.snd.snd.snd.snd.snd]], new := [] }
@[reducible] def a95 : List AK := [AK.c (Leaf.row (0 : Nat)), AK.c (Leaf.ptr (1 : Nat) (0 : Nat)), AK.c (Leaf.ptr (2 : Nat) (0 : Nat)), AK.c (Leaf.ptr (3 : Nat) (0 : Nat))]
@[reducible] def b95 : List BK := [BK.row (48 : TypeId) celk, BK.box [SK.d (.int .i64)], BK.box [SK.d (.int .i64)], BK.box [SK.d (.int .i64), SK.d (.int .i64), SK.d (.int .i64)]]
theorem t95 (h0 : List Cell) (h1_0 : Int) (h2_0 : Int) (h3_0 : Int) (h3_1 : Int) (h3_2 : Int) : evFn ((E0.withFns [((96 : Nat), w96)]).loops live95 fun (x : Nat) (x_1 : VS) => none) Tryd.f95 [] (akAV a95 ()) (bkBs b95 (h0, (h1_0, ()), (h2_0, ()), (h3_0, h3_1, h3_2, ()), ())) = (d95 h0 h1_0 h2_0 h3_0 h3_1 h3_2).map e95 := by kernel_rfl
def s95 (C : akT a95 → bksT b95 → Bool) (G : akT a95 → bksT b95 → List Cell × Int × Int × Int × Int × Int) : FSpec := aspec a95 b95 e95 (C) (G)
theorem k95 {C : akT a95 → bksT b95 → Bool} {G : akT a95 → bksT b95 → List Cell × Int × Int × Int × Int × Int} (hd : ∀ (h0 : List Cell) (h1_0 : Int) (h2_0 : Int) (h3_0 : Int) (h3_1 : Int) (h3_2 : Int), C () (h0, (h1_0, ()), (h2_0, ()), (h3_0, h3_1, h3_2, ()), ()) = true → (d95 h0 h1_0 h2_0 h3_0 h3_1 h3_2).val = some (G () (h0, (h1_0, ()), (h2_0, ()), (h3_0, h3_1, h3_2, ()), ()))) (IO : ItOK Tryd.prog ((E0.withFns [((96 : Nat), w96)]).loops live95 fun (x : Nat) (x_1 : VS) => none) := by exact itOK_none rfl) (L : ∀ c, Tryd.f95.body = some c → LsOK (evI 2) (((E0.withFns [((96 : Nat), w96)]).loops live95 fun (x : Nat) (x_1 : VS) => none).lend 4) c := by exact fun c _ => LsOK_none rfl c) : SpecOK Tryd.prog E0 95 (s95 C G) :=
  aspec_ok (ak := a95) (bl := b95) (e := e95) (c := C) (g := G) (E0 := E0) (E := (E0.withFns [((96 : Nat), w96)]).loops live95 fun (x : Nat) (x_1 : VS) => none) tab (.cons wk96 .nil) rfl rfl hm Tryd.func95 (by kernel_rfl) [] (fun X Y H => by obtain ⟨h0, ⟨⟨h1_0, _⟩, ⟨⟨h2_0, _⟩, ⟨⟨h3_0, ⟨h3_1, ⟨h3_2, _⟩⟩⟩, _⟩⟩⟩⟩ := Y; exact val_of (t95 h0 h1_0 h2_0 h3_0 h3_1 h3_2) (hd h0 h1_0 h2_0 h3_0 h3_1 h3_2 H)) IO L
end Go.Proofs.YtmnbcnhpklejcaaDoor
namespace U
def blankC (l : List Cl) (f t : Nat) (a : Int × Int × Int × Unit) : List Cl := putAt l f (List.replicate (t - f) (blank a))
theorem putAt_len {α : Type} {l : List α} {f : Nat} {m : List α} (h : f + m.length ≤ l.length) : (putAt l f m).length = l.length := by
  simp only [putAt, List.length_append, List.length_take, List.length_drop]
  omega
end U
namespace Go.Proofs.YtmnbcnhpklejcaaDoor
abbrev eraseOK (f t : Int) (n : Nat) : Bool := decide (0 ≤ f ∧ f ≤ t ∧ t ≤ (n : Int) ∧ n ≤ 1048576)
abbrev w95 : FSpec := s95 (fun _ y => eraseOK y.2.1.1 y.2.2.1.1 (List.length (α := Cell) y.1)) fun _ y => (U.blankC y.1 y.2.1.1.toNat y.2.2.1.1.toNat (y.2.2.2.1.1, y.2.2.2.1.2.1, y.2.2.2.1.2.2.1, ()), y.2.1.1, y.2.2.1.1, y.2.2.2.1.1, y.2.2.2.1.2.1, y.2.2.2.1.2.2.1)
theorem wk95 : SpecOK Tryd.prog E0 95 w95 := by
  refine k95 fun h f t a b c H => ?_
  have H : 0 ≤ f ∧ f ≤ t ∧ t ≤ (h.length : Int) ∧ h.length ≤ 1048576 := of_decide_eq_true H
  obtain ⟨h1, h2, h3, h4⟩ := H
  obtain ⟨m, rfl⟩ := Int.eq_ofNat_of_zero_le h1
  obtain ⟨n, rfl⟩ := Int.eq_ofNat_of_zero_le (show 0 ≤ t by omega)
  show _ = some (U.blankC h m n (a, b, c, ()), (m : Int), (n : Int), a, b, c)
  have e1 : vwOK (h.length : Int) (some (m : Int)) (some (n : Int)) = true := by
    show decide ((0 : Int) ≤ (m : Int) ∧ (m : Int) ≤ (n : Int) ∧ (n : Int) ≤ (h.length : Int)) = true
    exact decide_eq_true (by omega)
  have e2 : vwHi (h.length : Int) (some (n : Int)) - (m : Int) = ((n - m : Nat) : Int) := by
    show (n : Int) - (m : Int) = _
    omega
  have e3 : vwLo (some (m : Int)) = (m : Int) := rfl
  have e4 : m + (n - m) ≤ h.length := by omega
  simp only [d95, Tr.val, e1, e2, e3, Int.toNat_natCast, e4, h4, Int.natCast_nonneg, and_self, decide_true, cond_true]
  rfl
namespace Er
abbrev G91 : List (Nat × FSpec) := [(97, w97), (86, w86), (95, w95), (30, w30)]
theorem AG91 : AllFn Tryd.prog E0 G91 := .cons wk97 (.cons wk86 (.cons wk95 (.cons wk30 .nil)))
def d91 (a1 : Int) (a2 : List Line) (b : Int) (h0_0 : Int) (h1_0 : Int) (h2_0 : Int) (h2_1 : Int) (h2_2 : Int) : Tr (Int × List Line × Int × Int × Int × Int × Int × Int) :=
  let v1 : List U.Cl := (U.blankC (a2.getD b.toNat link.dflt).fst h0_0.toNat h1_0.toNat (h2_0, h2_1, h2_2, ()))
  Tr.ite (decide (a2.length ≤ (1048576 : Nat)))
    (Tr.ite (inB b a2.length)
      (Tr.ite (decide (List.length (a2.getD b.toNat link.dflt).fst ≤ (1048576 : Nat)))
        (Tr.ite (eraseOK h0_0 h1_0 (List.length (a2.getD b.toNat link.dflt).fst))
          (Tr.ite (decide (v1.length ≤ (1048576 : Nat)))
            (Tr.ite (inB b a2.length) (Tr.ret (a1, a2.set b.toNat (U.mend v1, (a2.getD b.toNat link.dflt).snd), (0 : Int), h0_0, h1_0, h2_0, h2_1, h2_2)) Tr.fail) Tr.fail)
          Tr.fail)
        Tr.fail)
      Tr.fail)
    Tr.fail
def e91 (r : Int × List Line × Int × Int × Int × Int × Int × Int) : FRes := { rs := Slot.tup [AV.agg [Leaf.dat (.int .i64) r.fst, Leaf.dat link.sl r.snd.fst], AV.one (Leaf.dat (.int .i64) r.snd.snd.fst)], upd := [Blk.box [Leaf.dat (.int .i64) r.snd.snd.snd.fst], Blk.box [Leaf.dat (.int .i64) r.snd.snd.snd.snd.fst], Blk.box [Leaf.dat (.int .i64) r.snd.snd.snd.snd.snd.fst, Leaf.dat (.int .i64) r.snd.snd.snd.snd.snd.snd.fst, Leaf.dat (.int .i64) r.snd.snd.snd.snd.snd.snd.snd]], new := [] }
@[reducible] def a91 : List AK := [AK.d gridk, AK.d (.int .i64), AK.c (Leaf.fn (95 : FuncId) [(0 : Nat), (1 : Nat), (2 : Nat)])]
@[reducible] def b91 : List BK := [BK.box [SK.d (.int .i64)], BK.box [SK.d (.int .i64)], BK.box [SK.d (.int .i64), SK.d (.int .i64), SK.d (.int .i64)]]
theorem t91 (a1 : Int) (a2 : List Line) (b : Int) (h0_0 : Int) (h1_0 : Int) (h2_0 : Int) (h2_1 : Int) (h2_2 : Int) : evFn (E0.withFns G91) Tryd.f91 [PM.data gridk, PM.data (.int .i64)] (akAV a91 ((a1, a2, ()), b, ())) (bkBs b91 ((h0_0, ()), (h1_0, ()), (h2_0, h2_1, h2_2, ()), ())) = (d91 a1 a2 b h0_0 h1_0 h2_0 h2_1 h2_2).map e91 := by kernel_rfl
def s91 (C : akT a91 → bksT b91 → Bool) (G : akT a91 → bksT b91 → Int × List Line × Int × Int × Int × Int × Int × Int) : FSpec := aspec a91 b91 e91 (C) (G)
theorem k91 {C : akT a91 → bksT b91 → Bool} {G : akT a91 → bksT b91 → Int × List Line × Int × Int × Int × Int × Int × Int} (hd : ∀ (a1 : Int) (a2 : List Line) (b : Int) (h0_0 : Int) (h1_0 : Int) (h2_0 : Int) (h2_1 : Int) (h2_2 : Int), C ((a1, a2, ()), b, ()) ((h0_0, ()), (h1_0, ()), (h2_0, h2_1, h2_2, ()), ()) = true → (d91 a1 a2 b h0_0 h1_0 h2_0 h2_1 h2_2).val = some (G ((a1, a2, ()), b, ()) ((h0_0, ()), (h1_0, ()), (h2_0, h2_1, h2_2, ()), ()))) (IO : ItOK Tryd.prog (E0.withFns G91) := by exact itOK_none rfl) (L : ∀ c, Tryd.f91.body = some c → LsOK (evI 2) ((E0.withFns G91).lend 3) c := by exact fun c _ => LsOK_none rfl c) : SpecOK Tryd.prog E0 91 (s91 C G) :=
  aspec_ok (ak := a91) (bl := b91) (e := e91) (c := C) (g := G) (E0 := E0) (E := E0.withFns G91) tab AG91 rfl rfl hm Tryd.func91 (by kernel_rfl) [PM.data gridk, PM.data (.int .i64)] (fun X Y H => by obtain ⟨⟨a1, ⟨a2, _⟩⟩, ⟨b, _⟩⟩ := X; obtain ⟨⟨h0_0, _⟩, ⟨⟨h1_0, _⟩, ⟨⟨h2_0, ⟨h2_1, ⟨h2_2, _⟩⟩⟩, _⟩⟩⟩ := Y; exact val_of (t91 a1 a2 b h0_0 h1_0 h2_0 h2_1 h2_2) (hd a1 a2 b h0_0 h1_0 h2_0 h2_1 h2_2 H)) IO L
abbrev w91 : FSpec := s91 (fun x y => decide (0 ≤ (x.2.1 : Int) ∧ (x.2.1 : Int) < (List.length (α := Line) x.1.2.1 : Int) ∧ List.length (α := Line) x.1.2.1 ≤ 1048576) && eraseOK y.1.1 y.2.1.1 (List.length (α := Cell) (List.getD (α := Line) x.1.2.1 x.2.1.toNat U.dL).1))
  fun x y => (x.1.1, U.setL x.1.2.1 x.2.1.toNat fun l => U.blankC l y.1.1.toNat y.2.1.1.toNat (y.2.2.1.1, y.2.2.1.2.1, y.2.2.1.2.2.1, ()), 0, y.1.1, y.2.1.1, y.2.2.1.1, y.2.2.1.2.1, y.2.2.1.2.2.1)
theorem wk91 : SpecOK Tryd.prog E0 91 w91 := by
  refine k91 fun n l row f t a b c H => ?_
  have H : (decide (0 ≤ row ∧ row < (l.length : Int) ∧ l.length ≤ 1048576) && eraseOK f t (l.getD row.toNat U.dL).1.length) = true := H
  rw [Bool.and_eq_true] at H
  obtain ⟨H1, H2⟩ := H
  obtain ⟨h1, h2, h3⟩ := of_decide_eq_true H1
  obtain ⟨r, rfl⟩ := Int.eq_ofNat_of_zero_le h1
  have hr : r < l.length := Int.ofNat_lt.1 h2
  obtain ⟨q1, q2, q3, g4⟩ := of_decide_eq_true H2
  have e0 : l.getD r link.dflt = l.getD r U.dL := rfl
  simp only [Int.toNat_natCast] at q3 g4 H2
  have e1 : ∀ d, (U.blankC (l.getD r U.dL).1 f.toNat t.toNat d).length = (l.getD r U.dL).1.length := fun d => U.putAt_len (by rw [List.length_replicate]; omega)
  simp only [d91, Tr.val, Int.toNat_natCast, inB_nat hr, h3, e0, e1, g4, decide_true, cond_true]
  rw [H2]
  rfl
end Er
def d34 (a1 : Int) (a2 : List Line) (b : Int) (c : Int) (y : Int) (f1 : Int) (f2 : Int) (f3 : Int) : Tr (Int × List Line × Int) :=
  let v1 : Int := ((↑a2.length : Int))
  Tr.ite (U.okl a2)
    (Tr.ite (!U.place a1 a2 b (0 : Int)) (Tr.ret ((0 : Int), [], (1 : Int)))
      (Tr.ite (!U.inn c (0 : Int) y) (Tr.ret ((0 : Int), [], (1 : Int)))
        (Tr.ite (decide (a1 < y)) (Tr.ret ((0 : Int), [], (1 : Int)))
          (Tr.ite (!U.look (f1, f2, f3, ())) (Tr.ret ((0 : Int), [], (1 : Int)))
            (Tr.ite (decide ((0 : Int) ≤ b ∧ b < v1 ∧ a2.length ≤ (1048576 : Nat)) && eraseOK c y (a2.getD b.toNat U.dL).fst.length)
              (Tr.ret (a1, U.setL a2 b.toNat fun (l : List U.Cl) => U.blankC l c.toNat y.toNat (f1, f2, f3, ()), (0 : Int))) Tr.fail)))))
    Tr.fail
def e34 (r : Int × List Line × Int) : FRes := { rs := Slot.tup [AV.agg [Leaf.dat (.int .i64) r.fst, Leaf.dat link.sl r.snd.fst], AV.one (Leaf.dat (.int .i64) r.snd.snd)], upd := [], new := [] }
@[reducible] def a34 : List AK := [AK.d gridk, AK.d (.int .i64), AK.d (.int .i64), AK.d (.int .i64), AK.d attk]
@[reducible] def b34 : List BK := []
theorem t34 (a1 : Int) (a2 : List Line) (b : Int) (c : Int) (y : Int) (f1 : Int) (f2 : Int) (f3 : Int) : evFn (E0.withFns [((90 : Nat), w90), ((93 : Nat), w93), ((94 : Nat), w94), ((91 : Nat), Er.w91)]) Tryd.f34 [PM.data gridk, PM.data (.int .i64)] (akAV a34 ((a1, a2, ()), b, c, y, (f1, f2, f3, ()), ())) (bkBs b34 ()) = (d34 a1 a2 b c y f1 f2 f3).map e34 := by kernel_rfl
def s34 (C : akT a34 → Bool) (G : akT a34 → Int × List Line × Int) : FSpec := aspec a34 b34 e34 (fun x _ => C x) (fun x _ => G x)
theorem k34 {C : akT a34 → Bool} {G : akT a34 → Int × List Line × Int} (hd : ∀ (a1 : Int) (a2 : List Line) (b : Int) (c : Int) (y : Int) (f1 : Int) (f2 : Int) (f3 : Int), C ((a1, a2, ()), b, c, y, (f1, f2, f3, ()), ()) = true → (d34 a1 a2 b c y f1 f2 f3).val = some (G ((a1, a2, ()), b, c, y, (f1, f2, f3, ()), ()))) (IO : ItOK Tryd.prog (E0.withFns [((90 : Nat), w90), ((93 : Nat), w93), ((94 : Nat), w94), ((91 : Nat), Er.w91)]) := by exact itOK_none rfl) (L : ∀ c, Tryd.f34.body = some c → LsOK (evI 2) ((E0.withFns [((90 : Nat), w90), ((93 : Nat), w93), ((94 : Nat), w94), ((91 : Nat), Er.w91)]).lend 0) c := by exact fun c _ => LsOK_none rfl c) : SpecOK Tryd.prog E0 34 (s34 C G) :=
  aspec_ok (ak := a34) (bl := b34) (e := e34) (c := fun x _ => C x) (g := fun x _ => G x) (E0 := E0) (E := E0.withFns [((90 : Nat), w90), ((93 : Nat), w93), ((94 : Nat), w94), ((91 : Nat), Er.w91)]) tab (.cons wk90 (.cons wk93 (.cons wk94 (.cons Er.wk91 .nil)))) rfl rfl hm Tryd.func34 (by kernel_rfl) [PM.data gridk, PM.data (.int .i64)] (fun X Y H => by obtain ⟨⟨a1, ⟨a2, _⟩⟩, ⟨b, ⟨c, ⟨y, ⟨⟨f1, ⟨f2, ⟨f3, _⟩⟩⟩, _⟩⟩⟩⟩⟩ := X; exact val_of (t34 a1 a2 b c y f1 f2 f3) (hd a1 a2 b c y f1 f2 f3 H)) IO L
end Go.Proofs.YtmnbcnhpklejcaaDoor
namespace U
def rawErase (c : Int) (l : List Ln) (row f t : Int) (a : Int × Int × Int × Unit) : Int × List Ln × Int :=
  if place c l row 0 = true ∧ inn f 0 t = true ∧ t ≤ c ∧ look a = true then (c, setL l row.toNat fun m => blankC m f.toNat t.toNat a, 0) else (0, [], 1)
theorem place_r {c : Int} {l : List Ln} {row col : Int} (h : place c l row col = true) : gridR c l = true := by unfold place at h; rw [Bool.and_eq_true] at h; exact h.1
end U
namespace Go.Proofs.YtmnbcnhpklejcaaDoor
abbrev w34 : FSpec := s34 (fun x => U.okl x.1.2.1) fun x => U.rawErase x.1.1 x.1.2.1 x.2.1 x.2.2.1 x.2.2.2.1 x.2.2.2.2.1
theorem wk34 : SpecOK Tryd.prog E0 34 w34 := by
  refine k34 fun c l row f t a b d H => ?_
  have H : U.okl l = true := H
  show _ = some (U.rawErase c l row f t (a, b, d, ()))
  unfold U.rawErase
  cases hp : U.place c l row 0 with
  | false => simp only [d34, Tr.val, H, hp, cond_true, Bool.not_false, Bool.false_eq_true, false_and, if_false]
  | true =>
    cases hi : U.inn f 0 t with
    | false => simp only [d34, Tr.val, H, hp, hi, cond_true, cond_false, Bool.not_true, Bool.not_false, Bool.false_eq_true, false_and, and_false, if_false]
    | true =>
      by_cases ht : t ≤ c
      · cases hl : U.look (a, b, d, ()) with
        | false => simp only [d34, Tr.val, H, hp, hi, hl, ht, show ¬ c < t by omega, decide_false, cond_true, cond_false, Bool.not_true, Bool.not_false, Bool.false_eq_true, and_false, if_false]
        | true =>
          obtain ⟨p1, p2, p3, p4, p5⟩ := U.place_at hp
          obtain ⟨a1, a2, a3, a4⟩ := U.gridR_cols (U.place_r hp)
          obtain ⟨i1, i2⟩ := U.inn_iff.1 hi
          have hlen := (p5 _ (U.getD_mem (i := row.toNat) (by omega))).2
          have hput : (decide (0 ≤ row ∧ row < (l.length : Int) ∧ l.length ≤ 1048576) && eraseOK f t (l.getD row.toNat U.dL).1.length) = true := by
            unfold eraseOK
            rw [Bool.and_eq_true, decide_eq_true_eq, decide_eq_true_eq]
            omega
          simp only [d34, Tr.val, H, hp, hi, hl, hput, ht, show ¬ c < t by omega, decide_false, cond_true, cond_false, Bool.not_true, and_self, if_true]
      · simp only [d34, Tr.val, H, hp, hi, ht, show c < t by omega, decide_true, cond_true, cond_false, Bool.not_true, false_and, and_false, if_false]
end Go.Proofs.YtmnbcnhpklejcaaDoor
namespace U
def setC (l : List Ln) (r : Nat) (m : List Cl) : List Ln := l.set r (mend m, (l.getD r dL).2)
theorem getD_set {α : Type} {l : List α} {d x : α} {r i : Nat} (hi : i < l.length) : (l.set r x).getD i d = if r = i then x else l.getD i d := by
  rw [List.getD_eq_getElem?_getD, List.getD_eq_getElem?_getD, List.getElem?_set]
  by_cases h : r = i
  · subst h; simp [hi]
  · simp [h]
end U
namespace Go.Proofs.YtmnbcnhpklejcaaDoor
end Go.Proofs.YtmnbcnhpklejcaaDoor
namespace U
theorem putC_at {l : List Cl} {k i : Nat} {c : Cl} (hi : i < l.length) : (putC l k c).getD i dC = if c.2.1 = 2 ∧ i = k + 1 then (ByteArray.empty, 0, c.2.2.1, ()) else if i = k then c else l.getD i dC := by
  have key : ∀ {m : List Cl} {r j : Nat} {x : Cl}, j < m.length → (m.set r x).getD j dC = if r = j then x else m.getD j dC := fun {m r j x} hj => by
    rw [List.getD_eq_getElem?_getD, List.getD_eq_getElem?_getD, List.getElem?_set]
    by_cases h : r = j
    · subst h; simp [hj]
    · simp [h]
  unfold putC
  by_cases hw : c.2.1 = 2
  · rw [if_pos hw, key (by simpa using hi), key hi]
    by_cases h1 : k + 1 = i
    · rw [if_pos h1, if_pos ⟨hw, h1.symm⟩]
    · have q : ¬ (c.2.1 = 2 ∧ i = k + 1) := fun h => h1 h.2.symm
      rw [if_neg h1, if_neg q]
      by_cases h2 : k = i
      · rw [if_pos h2, if_pos h2.symm]
      · rw [if_neg h2, if_neg (fun h => h2 h.symm)]
  · have q : ¬ (c.2.1 = 2 ∧ i = k + 1) := fun h => hw h.1
    rw [if_neg hw, key hi, if_neg q]
    by_cases h2 : k = i
    · rw [if_pos h2, if_pos h2.symm]
    · rw [if_neg h2, if_neg (fun h => h2 h.symm)]
theorem putC_len (l : List Cl) (k : Nat) (c : Cl) : (putC l k c).length = l.length := by unfold putC; split <;> simp
end U
namespace Go.Proofs.YtmnbcnhpklejcaaDoor
end Go.Proofs.YtmnbcnhpklejcaaDoor
namespace U
def rawSoft (c : Int) (l : List Ln) (row : Int) (s : Bool) : Int × List Ln × Int := if place c l row 0 = true then (c, l.set row.toNat ((l.getD row.toNat dL).1, s, ()), 0) else (0, [], 1)
end U
namespace Go.Proofs.YtmnbcnhpklejcaaDoor
end Go.Proofs.YtmnbcnhpklejcaaDoor

end
section
set_option linter.unusedVariables false
set_option linter.unusedSimpArgs false
set_option maxRecDepth 20000
set_option maxHeartbeats 8000000
open Go Go.Ev
namespace Go.Proofs.YtmnbcnhpklejcaaDoor
open Go.RowKit
def d6 (a1 : Int) (a2 : List Line) (b : Int) (c : Int) (y : Int) (f1 : ByteArray) (f2 : Int) (f31 : Int) (f32 : Int) (f33 : Int) (g1 : Int) (g2 : Int) (g3 : Int) (m : Bool) : Tr (Bool) :=
  let v1 : List U.Ln := (U.few a2 (52 : Nat))
  let v2 : Bool := (U.okl v1)
  let v3 : Bool := (decide (c ≤ y))
  let v4 : Int := (minI (↑(ByteArray.size f1) : Int) (20 : Int))
  let v5 : Int × List U.Ln × Int := (U.rawSoft a1 v1 b m)
  let v6 : Bool := (!U.place a1 v1 b c)
  let v7 : Int := ((↑(List.length v1) : Int))
  let v8 : Bool := (U.place a1 v1 b (0 : Int))
  let v9 : Int := (IntKind.wrap IntKind.i64 (a1 - (1 : Int)))
  let v10 : Bool := (!v8)
  let v11 : Bool := (decide ((0 : Int) ≤ c))
  let v12 : Int := (v5.fst)
  let v13 : List Line × Int := (v5.snd)
  let v14 : List Cell := ((List.getD v1 (Int.toNat b) U.dL).fst)
  let v15 : ByteArray := (ByteArray.extract f1 (0 : Nat) (Int.toNat v4))
  let v16 : List Line := (v13.fst)
  let v17 : Int := (v13.snd)
  let v18 : Bool := (okls v16)
  let v19 : Bool := (Kd.eqb (.int .i64) a1 a1 && Kd.eqb (Kd.sl link) v1 v1)
  let v20 : Int × List U.Ln × Int := (U.rawErase a1 v1 b c y (g1, g2, g3, ()))
  let v21 : List Line × Int := (v20.snd)
  let v22 : Int := (v20.fst)
  let v23 : List Line := (v21.fst)
  let v24 : Int := (v21.snd)
  let v25 : Bool := (decide (v12 = a1))
  let v26 : Bool := (okls v23)
  let v27 : Bool := (decide (ByteArray.size v15 ≤ (1048576 : Nat)))
  let v28 : Bool := (decide (v17 = (0 : Int)))
  let v29 : Bool := (Kd.eqb Kd.str v15 v15 && (Kd.eqb (.int .i64) f2 f2 && (Kd.eqb (.int .i64) f31 f31 && (Kd.eqb (.int .i64) f32 f32 && Kd.eqb (.int .i64) f33 f33))))
  let v30 : Bool := (Kd.eqb (.int .i64) v17 v17 && Kd.eqb Kd.bool v8 v8)
  let v31 : Int × List U.Ln × Int := (U.rawPut a1 v1 b c (v15, f2, (f31, f32, f33, ()), ()))
  let v32 : Bool := (decide (v22 = a1))
  let v33 : Bool := (Kd.eqb (.int .i64) v12 v12 && Kd.eqb (Kd.sl link) v16 v16)
  let v34 : Bool := (!bif v8 then bif v11 then bif v3 then bif decide (y ≤ a1) then U.look (g1, g2, g3, ()) else false else false else false else false)
  let v35 : Int := (v31.fst)
  let v36 : List Line × Int := (v31.snd)
  let v37 : Int := (v36.snd)
  let v38 : List Line := (v36.fst)
  let v39 : Bool := (okls v38)
  let v40 : Bool := (decide (v24 = (0 : Int)))
  let v41 : Bool := (decide (v17 = (1 : Int)) && (decide (v12 = (0 : Int)) && U.eqLs v16 []))
  let v42 : Bool := (decide (v35 = a1))
  let v43 : Bool := (Kd.eqb (.int .i64) v37 v37)
  let v44 : Bool := (decide (v35 = (0 : Int)))
  let v45 : Bool := (decide (v37 = (9 : Int)))
  let v46 : Bool := (decide (v37 = (0 : Int)))
  let v47 : Bool := (decide (v24 = (1 : Int)) && (decide (v22 = (0 : Int)) && U.eqLs v23 []))
  let v48 : Bool := (!bif true then v28 && (v25 && U.eqLs v16 (List.set v1 (Int.toNat b) (v14, m, ()))) else v41)
  let v49 : Bool := (Kd.eqb (.int .i64) v35 v35 && Kd.eqb (Kd.sl link) v38 v38)
  let v50 : Bool := (decide (v37 = (1 : Int)) && (v44 && U.eqLs v38 []))
  let v51 : Bool := (!bif true then v40 && (v32 && U.eqLs v23 (U.setC v1 (Int.toNat b) (U.blankC v14 (Int.toNat c) (Int.toNat y) (g1, g2, g3, ())))) else v47)
  let v52 : Bool := (Kd.eqb (.int .i64) b b && (Kd.eqb (.int .i64) c c && v43) && (v19 && (v29 && v49)))
  let v53 : Bool := ((bif v10 then v18 else true) && v52)
  let v54 : Bool := (Kd.eqb (.int .i64) b b && (Kd.eqb (.int .i64) c c && (Kd.eqb Kd.bool m m && (v43 && v30))) && (v19 && (v29 && (v49 && v33))))
  let v55 : Bool := ((bif v34 then v26 else true) && v54)
  let v56 : Bool := (Kd.eqb (.int .i64) b b && (Kd.eqb (.int .i64) c c && (Kd.eqb (.int .i64) y y && (Kd.eqb Kd.bool m m && (v43 && (Kd.eqb (.int .i64) v24 v24 && v30))))) && (v19 && (v29 && (Kd.eqb (.int .i64) g1 g1 && (Kd.eqb (.int .i64) g2 g2 && Kd.eqb (.int .i64) g3 g3) && (v49 && (Kd.eqb (.int .i64) v22 v22 && Kd.eqb (Kd.sl link) v23 v23 && v33))))))
  Tr.ite (decide ((0 : Int) ≤ v4 ∧ v4 ≤ (↑(ByteArray.size f1) : Int)))
    (Tr.ite (v2 && v27)
      (Tr.ite v2
        (Tr.ite v2
          (Tr.ite v2
            (Tr.ite ((bif v8 then (bif v11 then (bif v3 then v56 else true) && v56 else true) && v56 else true) && v56)
              (Tr.ite
                ((bif false then true
                  else
                    (bif bif v8 then bif v11 then bif v3 then bif decide (y ≤ a1) then U.look (g1, g2, g3, ()) else false else false else false else false then
                        decide ((0 : Int) ≤ b ∧ b < v7 ∧ List.length v1 ≤ (1048576 : Nat)) && eraseOK c y (List.length v14) && (v26 && ((bif v51 then true else v55) && v54))
                      else v55) &&
                      v54) &&
                  v54)
                (Tr.ite
                  (bif false then true
                  else
                    bif bif v8 then bif v11 then bif v3 then bif decide (y ≤ a1) then U.look (g1, g2, g3, ()) else false else false else false else false then
                      bif v51 then true else bif v34 then !bif false then v40 && (v32 && U.eqLs v23 v1) else v47 else false
                    else bif v34 then !bif false then v40 && (v32 && U.eqLs v23 v1) else v47 else false)
                  (Tr.ret false)
                  (Tr.ite ((bif v8 then decide ((0 : Int) ≤ b ∧ List.length v1 ≤ (1048576 : Nat)) && (v18 && ((bif v48 then true else v53) && v52)) else v53) && v52)
                    (Tr.ite
                      (bif v8 then bif v48 then true else bif v10 then !bif false then v28 && (v25 && U.eqLs v16 v1) else v41 else false
                      else bif v10 then !bif false then v28 && (v25 && U.eqLs v16 v1) else v41 else false)
                      (Tr.ret false)
                      (Tr.ite v2
                        (Tr.ite ((bif v6 then true else v27 && v52) && v52)
                          (Tr.ite (bif v6 then true else bif !U.cellR (v15, f2, (f31, f32, f33, ()), ()) then true else decide (v15 = { data := #[] }))
                            (Tr.ite v39 (Tr.ret (bif false then v46 && (v42 && U.eqLs v38 v1) else v50)) Tr.fail)
                            (Tr.ite v52
                              (Tr.ite (bif decide (f2 = (2 : Int)) then decide (c = v9) else false) (Tr.ite (bif v45 then v39 else true) (Tr.ret (bif v45 then v44 && U.eqLs v38 [] else false)) Tr.fail)
                                (Tr.ite (decide ((0 : Int) ≤ b ∧ b < v7 ∧ List.length v1 ≤ (1048576 : Nat) ∧ (0 : Int) ≤ c ∧ c ≤ (1048576 : Int) ∧ List.length v14 ≤ (1048576 : Nat)))
                                  (Tr.ite v39 (Tr.ret (bif true then v46 && (v42 && U.eqLs v38 (U.setC v1 (Int.toNat b) (U.putC v14 (Int.toNat c) (v15, f2, (f31, f32, f33, ()), ())))) else v50))
                                    Tr.fail)
                                  Tr.fail))
                              Tr.fail))
                          Tr.fail)
                        Tr.fail))
                    Tr.fail))
                Tr.fail)
              Tr.fail)
            Tr.fail)
          Tr.fail)
        Tr.fail)
      Tr.fail)
    Tr.fail
def e6 (r : Bool) : FRes := { rs := Slot.av (AV.one (Leaf.dat Kd.bool r)), upd := [], new := [] }
@[reducible] def a6 : List AK := [AK.d gridk, AK.d (.int .i64), AK.d (.int .i64), AK.d (.int .i64), AK.d celk, AK.d attk, AK.d Kd.bool]
@[reducible] def b6 : List BK := []
def s6 (C : akT a6 → Bool) (G : akT a6 → Bool) : FSpec := aspec a6 b6 e6 (fun x _ => C x) (fun x _ => G x)
end Go.Proofs.YtmnbcnhpklejcaaDoor

end
section
set_option linter.unusedVariables false
set_option linter.unusedSimpArgs false
set_option maxRecDepth 20000
set_option maxHeartbeats 4000000
open Go Go.Ev
namespace U
def insC (l : List Cl) (n k : Nat) (a : Int × Int × Int × Unit) : List Cl := l.take k ++ (List.replicate (min n (l.length - k)) (blank a) ++ (l.drop k).take (l.length - k - min n (l.length - k)))
def delC (l : List Cl) (n k : Nat) (a : Int × Int × Int × Unit) : List Cl := l.take k ++ (l.drop (k + min n (l.length - k)) ++ List.replicate (min n (l.length - k)) (blank a))
theorem putAt_end {α : Type} {l y : List α} {k : Nat} (hk : k + y.length = l.length) : putAt l k y = l.take k ++ y := by
  unfold putAt
  rw [List.drop_of_length_le (by omega), List.append_nil]
theorem putAt_mid {α : Type} {a r b y : List α} {k : Nat} (hk : a.length = k) (hr : r.length = y.length) : putAt (a ++ (r ++ b)) k y = a ++ (y ++ b) := by
  unfold putAt
  subst hk
  rw [List.take_left, ← List.drop_drop, List.drop_left, ← hr, List.drop_left]
theorem insC_put {l : List Cl} {n k m : Nat} {a : Int × Int × Int × Unit} (hk : k ≤ l.length) (hm : m = min n (l.length - k)) :
    putAt (putAt l (k + m) (((l.take l.length).drop k).take (l.length - (k + m)))) k (List.replicate m (blank a)) = insC l n k a := by
  have h1 : (((l.take l.length).drop k).take (l.length - (k + m))).length = l.length - (k + m) := by
    rw [List.length_take, List.length_drop, List.length_take]; omega
  rw [List.take_length] at h1 ⊢
  have e0 : putAt l (k + m) ((l.drop k).take (l.length - (k + m))) = l.take k ++ ((l.drop k).take m ++ (l.drop k).take (l.length - (k + m))) := by
    rw [putAt_end (by rw [h1]; omega), List.take_add, List.append_assoc]
  rw [e0, putAt_mid (by rw [List.length_take]; omega) (by rw [List.length_take, List.length_drop, List.length_replicate]; omega)]
  unfold insC
  subst hm
  congr 3
  omega
theorem delC_put {l : List Cl} {n k m : Nat} {a : Int × Int × Int × Unit} (hk : k ≤ l.length) (hm : m = min n (l.length - k)) :
    putAt (putAt l k ((((l.take l.length).drop (k + m))).take (l.length - k))) (l.length - m) (List.replicate m (blank a)) = delC l n k a := by
  rw [List.take_length, List.take_of_length_le (l := l.drop (k + m)) (by rw [List.length_drop]; omega)]
  unfold putAt delC
  rw [List.length_drop, List.length_replicate, ← hm]
  have e : k + (l.length - (k + m)) = l.length - m := by omega
  rw [e]
  have h1 : (l.take k ++ l.drop (k + m)).length = l.length - m := by rw [List.length_append, List.length_take, List.length_drop]; omega
  have e2 : l.take k ++ (l.drop (k + m) ++ l.drop (l.length - m)) = (l.take k ++ l.drop (k + m)) ++ l.drop (l.length - m) := (List.append_assoc _ _ _).symm
  rw [e2, List.take_left' h1, show l.length - m + m = l.length by omega, List.drop_of_length_le (l := (l.take k ++ l.drop (k + m)) ++ l.drop (l.length - m)) (by rw [List.length_append, h1, List.length_drop]; omega)]
  rw [List.append_nil, List.append_assoc]
theorem insC_len (l : List Cl) (n k : Nat) (a : Int × Int × Int × Unit) (hk : k ≤ l.length) : (insC l n k a).length = l.length := by
  unfold insC
  simp only [List.length_append, List.length_take, List.length_replicate, List.length_drop]
  omega
theorem delC_len (l : List Cl) (n k : Nat) (a : Int × Int × Int × Unit) (hk : k ≤ l.length) : (delC l n k a).length = l.length := by
  unfold delC
  simp only [List.length_append, List.length_take, List.length_replicate, List.length_drop]
  omega
end U
namespace Go.Proofs.YtmnbcnhpklejcaaDoor
open Go.RowKit
def live118 (key : Nat) : Lv :=
  bif Nat.beq key 8888 then { ls := [16, 19, 26] } else
  { ls := [] }
def d118 (h0 : List Cell) (h1_0 : Int) (h2_0 : Int) (h3_0 : Int) (h3_1 : Int) (h3_2 : Int) : Tr (List Cell × Int × Int × Int × Int × Int) :=
  let v1 : Int := ((↑(List.length h0) : Int))
  let v2 : Int := (vwHi v1 none)
  let v3 : Int := (vwLo (some (IntKind.wrap IntKind.i64 (h2_0 + minI h1_0 (IntKind.wrap IntKind.i64 (v1 - h2_0))))))
  let v4 : List Cell := (putAt h0 (Int.toNat v3) (List.take (Int.toNat (v2 - v3)) (sub h0 (Int.toNat (vwLo (some h2_0))) (Int.toNat (vwLo (some h2_0)) + Int.toNat (v2 - vwLo (some h2_0))))))
  let v5 : Int := ((↑(List.length v4) : Int))
  let v6 : Int := (vwHi v5 (some (IntKind.wrap IntKind.i64 (h2_0 + minI h1_0 (IntKind.wrap IntKind.i64 (v1 - h2_0))))) - vwLo (some h2_0))
  Tr.ite (vwOK v1 (some (IntKind.wrap IntKind.i64 (h2_0 + minI h1_0 (IntKind.wrap IntKind.i64 (v1 - h2_0))))) none)
    (Tr.ite (vwOK v1 (some h2_0) none)
      (Tr.ite (vwOK v5 (some h2_0) (some (IntKind.wrap IntKind.i64 (h2_0 + minI h1_0 (IntKind.wrap IntKind.i64 (v1 - h2_0))))))
        (Tr.ite (decide ((0 : Int) ≤ vwLo (some h2_0) ∧ (0 : Int) ≤ v6 ∧ Int.toNat (vwLo (some h2_0)) + Int.toNat v6 ≤ List.length v4 ∧ List.length v4 ≤ (1048576 : Nat)))
          (Tr.ret (putAt v4 (Int.toNat (vwLo (some h2_0))) (List.replicate (Int.toNat v6) (U.blank (h3_0, h3_1, h3_2, ()))), h1_0, h2_0, h3_0, h3_1, h3_2)) Tr.fail)
        Tr.fail)
      Tr.fail)
    Tr.fail
def e118 (r : List Cell × Int × Int × Int × Int × Int) : FRes := { rs := Slot.tup [], upd := [Blk.row ( 48) celk r.fst, Blk.box [Leaf.dat (.int .i64) r.snd.fst], Blk.box [Leaf.dat (.int .i64) r.snd.snd.fst], Blk.box [Leaf.dat (.int .i64) r.snd.snd.snd.fst, Leaf.dat (.int .i64) r.snd.snd.snd.snd.fst, Leaf.dat (.int .i64) r.snd.snd.snd.snd.snd]], new := [] }
@[reducible] def a118 : List AK := [AK.c (Leaf.row (0 : Nat)), AK.c (Leaf.ptr (1 : Nat) (0 : Nat)), AK.c (Leaf.ptr (2 : Nat) (0 : Nat)), AK.c (Leaf.ptr (3 : Nat) (0 : Nat))]
@[reducible] def b118 : List BK := [BK.row (48 : TypeId) celk, BK.box [SK.d (.int .i64)], BK.box [SK.d (.int .i64)], BK.box [SK.d (.int .i64), SK.d (.int .i64), SK.d (.int .i64)]]
theorem t118 (h0 : List Cell) (h1_0 : Int) (h2_0 : Int) (h3_0 : Int) (h3_1 : Int) (h3_2 : Int) : evFn (Env.loops (Env.withFns E0 [((96 : Nat), w96)]) live118 fun (x : Nat) (x_1 : VS) => none) Tryd.f118 [] (akAV a118 ()) (bkBs b118 (h0, (h1_0, ()), (h2_0, ()), (h3_0, h3_1, h3_2, ()), ())) = (d118 h0 h1_0 h2_0 h3_0 h3_1 h3_2).map e118 := by kernel_rfl
def s118 (C : akT a118 → bksT b118 → Bool) (G : akT a118 → bksT b118 → List Cell × Int × Int × Int × Int × Int) : FSpec := aspec a118 b118 e118 (C) (G)
theorem k118 {C : akT a118 → bksT b118 → Bool} {G : akT a118 → bksT b118 → List Cell × Int × Int × Int × Int × Int} (hd : ∀ (h0 : List Cell) (h1_0 : Int) (h2_0 : Int) (h3_0 : Int) (h3_1 : Int) (h3_2 : Int), C () (h0, (h1_0, ()), (h2_0, ()), (h3_0, h3_1, h3_2, ()), ()) = true → (d118 h0 h1_0 h2_0 h3_0 h3_1 h3_2).val = some (G () (h0, (h1_0, ()), (h2_0, ()), (h3_0, h3_1, h3_2, ()), ()))) (IO : ItOK Tryd.prog (Env.loops (Env.withFns E0 [((96 : Nat), w96)]) live118 fun (x : Nat) (x_1 : VS) => none) := by exact itOK_none rfl) (L : ∀ c, Tryd.f118.body = some c → LsOK (evI 2) ((Env.loops (Env.withFns E0 [((96 : Nat), w96)]) live118 fun (x : Nat) (x_1 : VS) => none).lend 4) c := by exact fun c _ => LsOK_none rfl c) : SpecOK Tryd.prog E0 118 (s118 C G) :=
  aspec_ok (ak := a118) (bl := b118) (e := e118) (c := C) (g := G) (E0 := E0) (E := Env.loops (Env.withFns E0 [((96 : Nat), w96)]) live118 fun (x : Nat) (x_1 : VS) => none) tab (.cons wk96 .nil) rfl rfl hm Tryd.func118 (by kernel_rfl) [] (fun X Y H => by obtain ⟨h0, ⟨⟨h1_0, _⟩, ⟨⟨h2_0, _⟩, ⟨⟨h3_0, ⟨h3_1, ⟨h3_2, _⟩⟩⟩, _⟩⟩⟩⟩ := Y; exact val_of (t118 h0 h1_0 h2_0 h3_0 h3_1 h3_2) (hd h0 h1_0 h2_0 h3_0 h3_1 h3_2 H)) IO L
def live119 (key : Nat) : Lv :=
  bif Nat.beq key 8888 then { ls := [14, 19, 26] } else
  { ls := [] }
def d119 (h0 : List Cell) (h1_0 : Int) (h2_0 : Int) (h3_0 : Int) (h3_1 : Int) (h3_2 : Int) : Tr (List Cell × Int × Int × Int × Int × Int) :=
  let v1 : Int := ((↑(List.length h0) : Int))
  let v2 : Int := (vwHi v1 none)
  let v3 : Int := (minI h1_0 (IntKind.wrap IntKind.i64 (v1 - h2_0)))
  let v4 : Int := (vwLo (some (IntKind.wrap IntKind.i64 (h2_0 + v3))))
  let v5 : List Cell := (putAt h0 (Int.toNat (vwLo (some h2_0))) (List.take (Int.toNat (v2 - vwLo (some h2_0))) (sub h0 (Int.toNat v4) (Int.toNat v4 + Int.toNat (v2 - v4)))))
  let v6 : Int := ((↑(List.length v5) : Int))
  let v7 : Int := (vwLo (some (IntKind.wrap IntKind.i64 (v6 - v3))))
  let v8 : Int := (vwHi v6 none - v7)
  Tr.ite (vwOK v1 (some h2_0) none)
    (Tr.ite (vwOK v1 (some (IntKind.wrap IntKind.i64 (h2_0 + v3))) none)
      (Tr.ite (vwOK v6 (some (IntKind.wrap IntKind.i64 (v6 - v3))) none)
        (Tr.ite (decide ((0 : Int) ≤ v7 ∧ (0 : Int) ≤ v8 ∧ Int.toNat v7 + Int.toNat v8 ≤ List.length v5 ∧ List.length v5 ≤ (1048576 : Nat)))
          (Tr.ret (putAt v5 (Int.toNat v7) (List.replicate (Int.toNat v8) (U.blank (h3_0, h3_1, h3_2, ()))), h1_0, h2_0, h3_0, h3_1, h3_2)) Tr.fail)
        Tr.fail)
      Tr.fail)
    Tr.fail
def e119 (r : List Cell × Int × Int × Int × Int × Int) : FRes := { rs := Slot.tup [], upd := [Blk.row ( 48) celk r.fst, Blk.box [Leaf.dat (.int .i64) r.snd.fst], Blk.box [Leaf.dat (.int .i64) r.snd.snd.fst], Blk.box [Leaf.dat (.int .i64) r.snd.snd.snd.fst, Leaf.dat (.int .i64) r.snd.snd.snd.snd.fst, Leaf.dat (.int .i64) r.snd.snd.snd.snd.snd]], new := [] }
@[reducible] def a119 : List AK := [AK.c (Leaf.row (0 : Nat)), AK.c (Leaf.ptr (1 : Nat) (0 : Nat)), AK.c (Leaf.ptr (2 : Nat) (0 : Nat)), AK.c (Leaf.ptr (3 : Nat) (0 : Nat))]
@[reducible] def b119 : List BK := [BK.row (48 : TypeId) celk, BK.box [SK.d (.int .i64)], BK.box [SK.d (.int .i64)], BK.box [SK.d (.int .i64), SK.d (.int .i64), SK.d (.int .i64)]]
theorem t119 (h0 : List Cell) (h1_0 : Int) (h2_0 : Int) (h3_0 : Int) (h3_1 : Int) (h3_2 : Int) : evFn (Env.loops (Env.withFns E0 [((96 : Nat), w96)]) live119 fun (x : Nat) (x_1 : VS) => none) Tryd.f119 [] (akAV a119 ()) (bkBs b119 (h0, (h1_0, ()), (h2_0, ()), (h3_0, h3_1, h3_2, ()), ())) = (d119 h0 h1_0 h2_0 h3_0 h3_1 h3_2).map e119 := by kernel_rfl
def s119 (C : akT a119 → bksT b119 → Bool) (G : akT a119 → bksT b119 → List Cell × Int × Int × Int × Int × Int) : FSpec := aspec a119 b119 e119 (C) (G)
theorem k119 {C : akT a119 → bksT b119 → Bool} {G : akT a119 → bksT b119 → List Cell × Int × Int × Int × Int × Int} (hd : ∀ (h0 : List Cell) (h1_0 : Int) (h2_0 : Int) (h3_0 : Int) (h3_1 : Int) (h3_2 : Int), C () (h0, (h1_0, ()), (h2_0, ()), (h3_0, h3_1, h3_2, ()), ()) = true → (d119 h0 h1_0 h2_0 h3_0 h3_1 h3_2).val = some (G () (h0, (h1_0, ()), (h2_0, ()), (h3_0, h3_1, h3_2, ()), ()))) (IO : ItOK Tryd.prog (Env.loops (Env.withFns E0 [((96 : Nat), w96)]) live119 fun (x : Nat) (x_1 : VS) => none) := by exact itOK_none rfl) (L : ∀ c, Tryd.f119.body = some c → LsOK (evI 2) ((Env.loops (Env.withFns E0 [((96 : Nat), w96)]) live119 fun (x : Nat) (x_1 : VS) => none).lend 4) c := by exact fun c _ => LsOK_none rfl c) : SpecOK Tryd.prog E0 119 (s119 C G) :=
  aspec_ok (ak := a119) (bl := b119) (e := e119) (c := C) (g := G) (E0 := E0) (E := Env.loops (Env.withFns E0 [((96 : Nat), w96)]) live119 fun (x : Nat) (x_1 : VS) => none) tab (.cons wk96 .nil) rfl rfl hm Tryd.func119 (by kernel_rfl) [] (fun X Y H => by obtain ⟨h0, ⟨⟨h1_0, _⟩, ⟨⟨h2_0, _⟩, ⟨⟨h3_0, ⟨h3_1, ⟨h3_2, _⟩⟩⟩, _⟩⟩⟩⟩ := Y; exact val_of (t119 h0 h1_0 h2_0 h3_0 h3_1 h3_2) (hd h0 h1_0 h2_0 h3_0 h3_1 h3_2 H)) IO L
abbrev insOK (n k : Int) (N : Nat) : Bool := decide (0 ≤ n ∧ 0 ≤ k ∧ k ≤ (N : Int) ∧ N ≤ 1048576)
abbrev w118 : FSpec := s118 (fun _ y => insOK y.2.1.1 y.2.2.1.1 (List.length (α := Cell) y.1)) fun _ y => (U.insC y.1 y.2.1.1.toNat y.2.2.1.1.toNat (y.2.2.2.1.1, y.2.2.2.1.2.1, y.2.2.2.1.2.2.1, ()), y.2.1.1, y.2.2.1.1, y.2.2.2.1.1, y.2.2.2.1.2.1, y.2.2.2.1.2.2.1)
abbrev w119 : FSpec := s119 (fun _ y => insOK y.2.1.1 y.2.2.1.1 (List.length (α := Cell) y.1)) fun _ y => (U.delC y.1 y.2.1.1.toNat y.2.2.1.1.toNat (y.2.2.2.1.1, y.2.2.2.1.2.1, y.2.2.2.1.2.2.1, ()), y.2.1.1, y.2.2.1.1, y.2.2.2.1.1, y.2.2.2.1.2.1, y.2.2.2.1.2.2.1)
theorem vwok (n : Nat) (a : Nat) (h : a ≤ n) : vwOK (n : Int) (some (a : Int)) none = true := by
  show decide ((0 : Int) ≤ (a : Int) ∧ (a : Int) ≤ (n : Int) ∧ (n : Int) ≤ (n : Int)) = true
  exact decide_eq_true (by omega)
theorem vwok2 (n : Nat) (a b : Nat) (h : a ≤ b) (h2 : b ≤ n) : vwOK (n : Int) (some (a : Int)) (some (b : Int)) = true := by
  show decide ((0 : Int) ≤ (a : Int) ∧ (a : Int) ≤ (b : Int) ∧ (b : Int) ≤ (n : Int)) = true
  exact decide_eq_true (by omega)
theorem vlo (x : Int) : vwLo (some x) = x := rfl
theorem vhi (n x : Int) : vwHi n (some x) = x := rfl
theorem vhi0 (n : Int) : vwHi n none = n := rfl
theorem wk118 : SpecOK Tryd.prog E0 118 w118 := by
  refine k118 fun h n k a b c H => ?_
  have H : 0 ≤ n ∧ 0 ≤ k ∧ k ≤ (h.length : Int) ∧ h.length ≤ 1048576 := of_decide_eq_true H
  obtain ⟨h1, h2, h3, h4⟩ := H
  obtain ⟨n, rfl⟩ := Int.eq_ofNat_of_zero_le h1
  obtain ⟨k, rfl⟩ := Int.eq_ofNat_of_zero_le h2
  show _ = some (U.insC h n k (a, b, c, ()), (n : Int), (k : Int), a, b, c)
  have h3 : k ≤ h.length := by omega
  have e1 : IntKind.wrap IntKind.i64 ((h.length : Int) - (k : Int)) = ((h.length - k : Nat) : Int) := by rw [w64 (by omega) (by omega)]; omega
  have e2 := minI_nat n (h.length - k)
  generalize hm : min n (h.length - k) = m at e2
  have e3 : IntKind.wrap IntKind.i64 ((k : Int) + (m : Int)) = ((k + m : Nat) : Int) := by rw [w64 (by omega) (by omega)]; omega
  have e4 : ((h.length : Int) - ((k + m : Nat) : Int)).toNat = h.length - (k + m) := by omega
  have e5 : (((k + m : Nat) : Int) - (k : Int)) = ((m : Nat) : Int) := by omega
  have e6 : k + ((h.length : Int) - (k : Int)).toNat = h.length := by omega
  have hl : (putAt h (k + m) ((sub h k h.length).take (h.length - (k + m)))).length = h.length := by
    rw [U.putAt_len]
    rw [List.length_take]
    unfold sub
    rw [List.length_drop, List.length_take]
    omega
  have e7 : k + m ≤ h.length := by omega
  simp only [d118, Tr.val, vlo, vhi, vhi0, e1, e2, e3, e4, e5, e6, hl, e7, h4, vwok _ _ h3, vwok _ _ e7, vwok2 _ _ _ (Nat.le_add_right k m) e7, Int.toNat_natCast, Int.natCast_nonneg, and_self, decide_true, cond_true]
  rw [show sub h k h.length = (h.take h.length).drop k from rfl, U.insC_put h3 hm.symm]
theorem wk119 : SpecOK Tryd.prog E0 119 w119 := by
  refine k119 fun h n k a b c H => ?_
  have H : 0 ≤ n ∧ 0 ≤ k ∧ k ≤ (h.length : Int) ∧ h.length ≤ 1048576 := of_decide_eq_true H
  obtain ⟨h1, h2, h3, h4⟩ := H
  obtain ⟨n, rfl⟩ := Int.eq_ofNat_of_zero_le h1
  obtain ⟨k, rfl⟩ := Int.eq_ofNat_of_zero_le h2
  show _ = some (U.delC h n k (a, b, c, ()), (n : Int), (k : Int), a, b, c)
  have h3 : k ≤ h.length := by omega
  have e1 : IntKind.wrap IntKind.i64 ((h.length : Int) - (k : Int)) = ((h.length - k : Nat) : Int) := by rw [w64 (by omega) (by omega)]; omega
  have e2 := minI_nat n (h.length - k)
  generalize hm : min n (h.length - k) = m at e2
  have e3 : IntKind.wrap IntKind.i64 ((k : Int) + (m : Int)) = ((k + m : Nat) : Int) := by rw [w64 (by omega) (by omega)]; omega
  have e4 : ((h.length : Int) - (k : Int)).toNat = h.length - k := by omega
  have e6 : (k + m) + ((h.length : Int) - ((k + m : Nat) : Int)).toNat = h.length := by omega
  have hl : (putAt h k ((sub h (k + m) h.length).take (h.length - k))).length = h.length := by
    rw [U.putAt_len]
    rw [List.length_take]
    unfold sub
    rw [List.length_drop, List.length_take]
    omega
  have e5 : IntKind.wrap IntKind.i64 ((h.length : Int) - (m : Int)) = ((h.length - m : Nat) : Int) := by rw [w64 (by omega) (by omega)]; omega
  have e7 : k + m ≤ h.length := by omega
  have e8 : (h.length : Int) - ((h.length - m : Nat) : Int) = (m : Int) := by omega
  have e9 : h.length - m + m ≤ h.length := by omega
  simp only [d119, Tr.val, vlo, vhi, vhi0, e1, e2, e3, e4, e5, e6, e8, e9, hl, h4, vwok _ _ h3, vwok _ _ e7, vwok _ _ (Nat.sub_le h.length m), Int.toNat_natCast, Int.natCast_nonneg, and_self, decide_true, cond_true]
  rw [show sub h (k + m) h.length = (h.take h.length).drop (k + m) from rfl, U.delC_put h3 hm.symm]
namespace In
abbrev G91 : List (Nat × FSpec) := [(97, w97), (86, w86), (118, w118), (30, w30)]
theorem AG91 : AllFn Tryd.prog E0 G91 := .cons wk97 (.cons wk86 (.cons wk118 (.cons wk30 .nil)))
def d91 (a1 : Int) (a2 : List Line) (b : Int) (h0_0 : Int) (h1_0 : Int) (h2_0 : Int) (h2_1 : Int) (h2_2 : Int) : Tr (Int × List Line × Int × Int × Int × Int × Int × Int) :=
  let v1 : Bool := (inB b (List.length a2))
  let v2 : List U.Cl := (U.insC (List.getD a2 (Int.toNat b) (Kd.dflt link)).fst (Int.toNat h0_0) (Int.toNat h1_0) (h2_0, h2_1, h2_2, ()))
  Tr.ite (decide (List.length a2 ≤ (1048576 : Nat)))
    (Tr.ite v1
      (Tr.ite (decide (List.length (List.getD a2 (Int.toNat b) (Kd.dflt link)).fst ≤ (1048576 : Nat)))
        (Tr.ite (insOK h0_0 h1_0 (List.length (List.getD a2 (Int.toNat b) (Kd.dflt link)).fst))
          (Tr.ite (decide (List.length v2 ≤ (1048576 : Nat)))
            (Tr.ite v1 (Tr.ret (a1, List.set a2 (Int.toNat b) (U.mend v2, (List.getD a2 (Int.toNat b) (Kd.dflt link)).snd), (0 : Int), h0_0, h1_0, h2_0, h2_1, h2_2)) Tr.fail) Tr.fail)
          Tr.fail)
        Tr.fail)
      Tr.fail)
    Tr.fail
def e91 (r : Int × List Line × Int × Int × Int × Int × Int × Int) : FRes := { rs := Slot.tup [AV.agg [Leaf.dat (.int .i64) r.fst, Leaf.dat (Kd.sl link) r.snd.fst], AV.one (Leaf.dat (.int .i64) r.snd.snd.fst)], upd := [Blk.box [Leaf.dat (.int .i64) r.snd.snd.snd.fst], Blk.box [Leaf.dat (.int .i64) r.snd.snd.snd.snd.fst], Blk.box [Leaf.dat (.int .i64) r.snd.snd.snd.snd.snd.fst, Leaf.dat (.int .i64) r.snd.snd.snd.snd.snd.snd.fst, Leaf.dat (.int .i64) r.snd.snd.snd.snd.snd.snd.snd]], new := [] }
@[reducible] def a91 : List AK := [AK.d gridk, AK.d (.int .i64), AK.c (Leaf.fn (118 : FuncId) [(0 : Nat), (1 : Nat), (2 : Nat)])]
@[reducible] def b91 : List BK := [BK.box [SK.d (.int .i64)], BK.box [SK.d (.int .i64)], BK.box [SK.d (.int .i64), SK.d (.int .i64), SK.d (.int .i64)]]
theorem t91 (a1 : Int) (a2 : List Line) (b : Int) (h0_0 : Int) (h1_0 : Int) (h2_0 : Int) (h2_1 : Int) (h2_2 : Int) : evFn (Env.withFns E0 G91) Tryd.f91 [PM.data gridk, PM.data (.int .i64)] (akAV a91 ((a1, a2, ()), b, ())) (bkBs b91 ((h0_0, ()), (h1_0, ()), (h2_0, h2_1, h2_2, ()), ())) = (d91 a1 a2 b h0_0 h1_0 h2_0 h2_1 h2_2).map e91 := by kernel_rfl
def s91 (C : akT a91 → bksT b91 → Bool) (G : akT a91 → bksT b91 → Int × List Line × Int × Int × Int × Int × Int × Int) : FSpec := aspec a91 b91 e91 (C) (G)
theorem k91 {C : akT a91 → bksT b91 → Bool} {G : akT a91 → bksT b91 → Int × List Line × Int × Int × Int × Int × Int × Int} (hd : ∀ (a1 : Int) (a2 : List Line) (b : Int) (h0_0 : Int) (h1_0 : Int) (h2_0 : Int) (h2_1 : Int) (h2_2 : Int), C ((a1, a2, ()), b, ()) ((h0_0, ()), (h1_0, ()), (h2_0, h2_1, h2_2, ()), ()) = true → (d91 a1 a2 b h0_0 h1_0 h2_0 h2_1 h2_2).val = some (G ((a1, a2, ()), b, ()) ((h0_0, ()), (h1_0, ()), (h2_0, h2_1, h2_2, ()), ()))) (IO : ItOK Tryd.prog (Env.withFns E0 G91) := by exact itOK_none rfl) (L : ∀ c, Tryd.f91.body = some c → LsOK (evI 2) ((Env.withFns E0 G91).lend 3) c := by exact fun c _ => LsOK_none rfl c) : SpecOK Tryd.prog E0 91 (s91 C G) :=
  aspec_ok (ak := a91) (bl := b91) (e := e91) (c := C) (g := G) (E0 := E0) (E := Env.withFns E0 G91) tab AG91 rfl rfl hm Tryd.func91 (by kernel_rfl) [PM.data gridk, PM.data (.int .i64)] (fun X Y H => by obtain ⟨⟨a1, ⟨a2, _⟩⟩, ⟨b, _⟩⟩ := X; obtain ⟨⟨h0_0, _⟩, ⟨⟨h1_0, _⟩, ⟨⟨h2_0, ⟨h2_1, ⟨h2_2, _⟩⟩⟩, _⟩⟩⟩ := Y; exact val_of (t91 a1 a2 b h0_0 h1_0 h2_0 h2_1 h2_2) (hd a1 a2 b h0_0 h1_0 h2_0 h2_1 h2_2 H)) IO L
abbrev w91 : FSpec := s91 (fun x y => decide (0 ≤ (x.2.1 : Int) ∧ (x.2.1 : Int) < (List.length (α := Line) x.1.2.1 : Int) ∧ List.length (α := Line) x.1.2.1 ≤ 1048576) && insOK y.1.1 y.2.1.1 (List.length (α := Cell) (List.getD (α := Line) x.1.2.1 x.2.1.toNat U.dL).1))
  fun x y => (x.1.1, U.setL x.1.2.1 x.2.1.toNat fun l => U.insC l y.1.1.toNat y.2.1.1.toNat (y.2.2.1.1, y.2.2.1.2.1, y.2.2.1.2.2.1, ()), 0, y.1.1, y.2.1.1, y.2.2.1.1, y.2.2.1.2.1, y.2.2.1.2.2.1)
theorem wk91 : SpecOK Tryd.prog E0 91 w91 := by
  refine k91 fun n l row f t a b c H => ?_
  have H : (decide (0 ≤ row ∧ row < (l.length : Int) ∧ l.length ≤ 1048576) && insOK f t (l.getD row.toNat U.dL).1.length) = true := H
  rw [Bool.and_eq_true] at H
  obtain ⟨H1, H2⟩ := H
  obtain ⟨h1, h2, h3⟩ := of_decide_eq_true H1
  obtain ⟨r, rfl⟩ := Int.eq_ofNat_of_zero_le h1
  have hr : r < l.length := Int.ofNat_lt.1 h2
  obtain ⟨q1, q2, q3, g4⟩ := of_decide_eq_true H2
  have e0 : l.getD r link.dflt = l.getD r U.dL := rfl
  simp only [Int.toNat_natCast] at q3 g4 H2
  have e1 : ∀ d, (U.insC (l.getD r U.dL).1 f.toNat t.toNat d).length = (l.getD r U.dL).1.length := fun d => U.insC_len _ _ _ _ (by omega)
  simp only [d91, Tr.val, Int.toNat_natCast, inB_nat hr, h3, e0, e1, g4, decide_true, cond_true]
  rw [H2]
  rfl
end In
namespace De
abbrev G91 : List (Nat × FSpec) := [(97, w97), (86, w86), (119, w119), (30, w30)]
theorem AG91 : AllFn Tryd.prog E0 G91 := .cons wk97 (.cons wk86 (.cons wk119 (.cons wk30 .nil)))
def d91 (a1 : Int) (a2 : List Line) (b : Int) (h0_0 : Int) (h1_0 : Int) (h2_0 : Int) (h2_1 : Int) (h2_2 : Int) : Tr (Int × List Line × Int × Int × Int × Int × Int × Int) :=
  let v1 : Bool := (inB b (List.length a2))
  let v2 : List U.Cl := (U.delC (List.getD a2 (Int.toNat b) (Kd.dflt link)).fst (Int.toNat h0_0) (Int.toNat h1_0) (h2_0, h2_1, h2_2, ()))
  Tr.ite (decide (List.length a2 ≤ (1048576 : Nat)))
    (Tr.ite v1
      (Tr.ite (decide (List.length (List.getD a2 (Int.toNat b) (Kd.dflt link)).fst ≤ (1048576 : Nat)))
        (Tr.ite (insOK h0_0 h1_0 (List.length (List.getD a2 (Int.toNat b) (Kd.dflt link)).fst))
          (Tr.ite (decide (List.length v2 ≤ (1048576 : Nat)))
            (Tr.ite v1 (Tr.ret (a1, List.set a2 (Int.toNat b) (U.mend v2, (List.getD a2 (Int.toNat b) (Kd.dflt link)).snd), (0 : Int), h0_0, h1_0, h2_0, h2_1, h2_2)) Tr.fail) Tr.fail)
          Tr.fail)
        Tr.fail)
      Tr.fail)
    Tr.fail
def e91 (r : Int × List Line × Int × Int × Int × Int × Int × Int) : FRes := { rs := Slot.tup [AV.agg [Leaf.dat (.int .i64) r.fst, Leaf.dat (Kd.sl link) r.snd.fst], AV.one (Leaf.dat (.int .i64) r.snd.snd.fst)], upd := [Blk.box [Leaf.dat (.int .i64) r.snd.snd.snd.fst], Blk.box [Leaf.dat (.int .i64) r.snd.snd.snd.snd.fst], Blk.box [Leaf.dat (.int .i64) r.snd.snd.snd.snd.snd.fst, Leaf.dat (.int .i64) r.snd.snd.snd.snd.snd.snd.fst, Leaf.dat (.int .i64) r.snd.snd.snd.snd.snd.snd.snd]], new := [] }
@[reducible] def a91 : List AK := [AK.d gridk, AK.d (.int .i64), AK.c (Leaf.fn (119 : FuncId) [(0 : Nat), (1 : Nat), (2 : Nat)])]
@[reducible] def b91 : List BK := [BK.box [SK.d (.int .i64)], BK.box [SK.d (.int .i64)], BK.box [SK.d (.int .i64), SK.d (.int .i64), SK.d (.int .i64)]]
theorem t91 (a1 : Int) (a2 : List Line) (b : Int) (h0_0 : Int) (h1_0 : Int) (h2_0 : Int) (h2_1 : Int) (h2_2 : Int) : evFn (Env.withFns E0 G91) Tryd.f91 [PM.data gridk, PM.data (.int .i64)] (akAV a91 ((a1, a2, ()), b, ())) (bkBs b91 ((h0_0, ()), (h1_0, ()), (h2_0, h2_1, h2_2, ()), ())) = (d91 a1 a2 b h0_0 h1_0 h2_0 h2_1 h2_2).map e91 := by kernel_rfl
def s91 (C : akT a91 → bksT b91 → Bool) (G : akT a91 → bksT b91 → Int × List Line × Int × Int × Int × Int × Int × Int) : FSpec := aspec a91 b91 e91 (C) (G)
theorem k91 {C : akT a91 → bksT b91 → Bool} {G : akT a91 → bksT b91 → Int × List Line × Int × Int × Int × Int × Int × Int} (hd : ∀ (a1 : Int) (a2 : List Line) (b : Int) (h0_0 : Int) (h1_0 : Int) (h2_0 : Int) (h2_1 : Int) (h2_2 : Int), C ((a1, a2, ()), b, ()) ((h0_0, ()), (h1_0, ()), (h2_0, h2_1, h2_2, ()), ()) = true → (d91 a1 a2 b h0_0 h1_0 h2_0 h2_1 h2_2).val = some (G ((a1, a2, ()), b, ()) ((h0_0, ()), (h1_0, ()), (h2_0, h2_1, h2_2, ()), ()))) (IO : ItOK Tryd.prog (Env.withFns E0 G91) := by exact itOK_none rfl) (L : ∀ c, Tryd.f91.body = some c → LsOK (evI 2) ((Env.withFns E0 G91).lend 3) c := by exact fun c _ => LsOK_none rfl c) : SpecOK Tryd.prog E0 91 (s91 C G) :=
  aspec_ok (ak := a91) (bl := b91) (e := e91) (c := C) (g := G) (E0 := E0) (E := Env.withFns E0 G91) tab AG91 rfl rfl hm Tryd.func91 (by kernel_rfl) [PM.data gridk, PM.data (.int .i64)] (fun X Y H => by obtain ⟨⟨a1, ⟨a2, _⟩⟩, ⟨b, _⟩⟩ := X; obtain ⟨⟨h0_0, _⟩, ⟨⟨h1_0, _⟩, ⟨⟨h2_0, ⟨h2_1, ⟨h2_2, _⟩⟩⟩, _⟩⟩⟩ := Y; exact val_of (t91 a1 a2 b h0_0 h1_0 h2_0 h2_1 h2_2) (hd a1 a2 b h0_0 h1_0 h2_0 h2_1 h2_2 H)) IO L
abbrev w91 : FSpec := s91 (fun x y => decide (0 ≤ (x.2.1 : Int) ∧ (x.2.1 : Int) < (List.length (α := Line) x.1.2.1 : Int) ∧ List.length (α := Line) x.1.2.1 ≤ 1048576) && insOK y.1.1 y.2.1.1 (List.length (α := Cell) (List.getD (α := Line) x.1.2.1 x.2.1.toNat U.dL).1))
  fun x y => (x.1.1, U.setL x.1.2.1 x.2.1.toNat fun l => U.delC l y.1.1.toNat y.2.1.1.toNat (y.2.2.1.1, y.2.2.1.2.1, y.2.2.1.2.2.1, ()), 0, y.1.1, y.2.1.1, y.2.2.1.1, y.2.2.1.2.1, y.2.2.1.2.2.1)
theorem wk91 : SpecOK Tryd.prog E0 91 w91 := by
  refine k91 fun n l row f t a b c H => ?_
  have H : (decide (0 ≤ row ∧ row < (l.length : Int) ∧ l.length ≤ 1048576) && insOK f t (l.getD row.toNat U.dL).1.length) = true := H
  rw [Bool.and_eq_true] at H
  obtain ⟨H1, H2⟩ := H
  obtain ⟨h1, h2, h3⟩ := of_decide_eq_true H1
  obtain ⟨r, rfl⟩ := Int.eq_ofNat_of_zero_le h1
  have hr : r < l.length := Int.ofNat_lt.1 h2
  obtain ⟨q1, q2, q3, g4⟩ := of_decide_eq_true H2
  have e0 : l.getD r link.dflt = l.getD r U.dL := rfl
  simp only [Int.toNat_natCast] at q3 g4 H2
  have e1 : ∀ d, (U.delC (l.getD r U.dL).1 f.toNat t.toNat d).length = (l.getD r U.dL).1.length := fun d => U.delC_len _ _ _ _ (by omega)
  simp only [d91, Tr.val, Int.toNat_natCast, inB_nat hr, h3, e0, e1, g4, decide_true, cond_true]
  rw [H2]
  rfl
end De
def live60 (key : Nat) : Lv :=
  bif Nat.beq key 20025 then { ls := [9999, 1, 5, 7, 8, 9, 10] } else bif Nat.beq key 40025 then { ls := [11, 26] } else
  bif Nat.beq key 25001 then { ls := [9999, 1, 5, 7, 8, 9, 10, 25] } else bif Nat.beq key 45001 then { ls := [12, 13, 14, 15, 16, 17, 18, 19, 20, 21, 22, 23, 24, 25] } else
  { ls := [] }
def d60 (a1 : Int) (a2 : List Line) (b : Int) (c : Int) (y : Int) (f1 : Int) (f2 : Int) (f3 : Int) : Tr (Int × List Line × Int) :=
  let v1 : Bool := (!U.place a1 a2 b c)
  let v2 : Int := ((↑(List.length a2) : Int))
  let v3 : Bool := (Kd.eqb (.int .i64) b b && (Kd.eqb (.int .i64) a1 a1 && Kd.eqb (Kd.sl link) a2 a2 && (Kd.eqb (.int .i64) c c && (Kd.eqb (.int .i64) y y && (Kd.eqb (.int .i64) f1 f1 && (Kd.eqb (.int .i64) f2 f2 && Kd.eqb (.int .i64) f3 f3) && true)))))
  Tr.ite (U.okl a2)
    (Tr.ite ((bif v1 then true else v3) && v3)
      (Tr.ite (bif v1 then true else bif decide (y < (0 : Int)) then true else !U.look (f1, f2, f3, ())) (Tr.ret ((0 : Int), [], (1 : Int)))
        (Tr.ite (decide ((0 : Int) ≤ b ∧ b < v2 ∧ List.length a2 ≤ (1048576 : Nat)) && insOK y c (List.length (List.getD a2 (Int.toNat b) U.dL).fst))
          (Tr.ret (a1, U.setL a2 (Int.toNat b) fun (l : List U.Cl) => U.insC l (Int.toNat y) (Int.toNat c) (f1, f2, f3, ()), (0 : Int))) Tr.fail))
      Tr.fail)
    Tr.fail
def e60 (r : Int × List Line × Int) : FRes := { rs := Slot.tup [AV.agg [Leaf.dat (.int .i64) r.fst, Leaf.dat (Kd.sl link) r.snd.fst], AV.one (Leaf.dat (.int .i64) r.snd.snd)], upd := [], new := [] }
@[reducible] def a60 : List AK := [AK.d gridk, AK.d (.int .i64), AK.d (.int .i64), AK.d (.int .i64), AK.d attk]
@[reducible] def b60 : List BK := []
theorem t60 (a1 : Int) (a2 : List Line) (b : Int) (c : Int) (y : Int) (f1 : Int) (f2 : Int) (f3 : Int) : evFn (Env.loops (Env.withFns E0 [((90 : Nat), w90), ((94 : Nat), w94), ((91 : Nat), In.w91)]) live60 fun (x : Nat) (x_1 : VS) => none) Tryd.f60 [PM.data gridk, PM.data (.int .i64)] (akAV a60 ((a1, a2, ()), b, c, y, (f1, f2, f3, ()), ())) (bkBs b60 ()) = (d60 a1 a2 b c y f1 f2 f3).map e60 := by kernel_rfl
def s60 (C : akT a60 → Bool) (G : akT a60 → Int × List Line × Int) : FSpec := aspec a60 b60 e60 (fun x _ => C x) (fun x _ => G x)
theorem k60 {C : akT a60 → Bool} {G : akT a60 → Int × List Line × Int} (hd : ∀ (a1 : Int) (a2 : List Line) (b : Int) (c : Int) (y : Int) (f1 : Int) (f2 : Int) (f3 : Int), C ((a1, a2, ()), b, c, y, (f1, f2, f3, ()), ()) = true → (d60 a1 a2 b c y f1 f2 f3).val = some (G ((a1, a2, ()), b, c, y, (f1, f2, f3, ()), ()))) (IO : ItOK Tryd.prog (Env.loops (Env.withFns E0 [((90 : Nat), w90), ((94 : Nat), w94), ((91 : Nat), In.w91)]) live60 fun (x : Nat) (x_1 : VS) => none) := by exact itOK_none rfl) (L : ∀ c, Tryd.f60.body = some c → LsOK (evI 2) ((Env.loops (Env.withFns E0 [((90 : Nat), w90), ((94 : Nat), w94), ((91 : Nat), In.w91)]) live60 fun (x : Nat) (x_1 : VS) => none).lend 0) c := by exact fun c _ => LsOK_none rfl c) : SpecOK Tryd.prog E0 60 (s60 C G) :=
  aspec_ok (ak := a60) (bl := b60) (e := e60) (c := fun x _ => C x) (g := fun x _ => G x) (E0 := E0) (E := Env.loops (Env.withFns E0 [((90 : Nat), w90), ((94 : Nat), w94), ((91 : Nat), In.w91)]) live60 fun (x : Nat) (x_1 : VS) => none) tab (.cons wk90 (.cons wk94 (.cons In.wk91 .nil))) rfl rfl hm Tryd.func60 (by kernel_rfl) [PM.data gridk, PM.data (.int .i64)] (fun X Y H => by obtain ⟨⟨a1, ⟨a2, _⟩⟩, ⟨b, ⟨c, ⟨y, ⟨⟨f1, ⟨f2, ⟨f3, _⟩⟩⟩, _⟩⟩⟩⟩⟩ := X; exact val_of (t60 a1 a2 b c y f1 f2 f3) (hd a1 a2 b c y f1 f2 f3 H)) IO L
def live61 (key : Nat) : Lv :=
  bif Nat.beq key 20025 then { ls := [9999, 1, 5, 7, 8, 9, 10] } else bif Nat.beq key 40025 then { ls := [11, 26] } else
  bif Nat.beq key 25001 then { ls := [9999, 1, 5, 7, 8, 9, 10, 25] } else bif Nat.beq key 45001 then { ls := [12, 13, 14, 15, 16, 17, 18, 19, 20, 21, 22, 23, 24, 25] } else
  { ls := [] }
def d61 (a1 : Int) (a2 : List Line) (b : Int) (c : Int) (y : Int) (f1 : Int) (f2 : Int) (f3 : Int) : Tr (Int × List Line × Int) :=
  let v1 : Bool := (!U.place a1 a2 b c)
  let v2 : Int := ((↑(List.length a2) : Int))
  let v3 : Bool := (Kd.eqb (.int .i64) b b && (Kd.eqb (.int .i64) a1 a1 && Kd.eqb (Kd.sl link) a2 a2 && (Kd.eqb (.int .i64) c c && (Kd.eqb (.int .i64) y y && (Kd.eqb (.int .i64) f1 f1 && (Kd.eqb (.int .i64) f2 f2 && Kd.eqb (.int .i64) f3 f3) && true)))))
  Tr.ite (U.okl a2)
    (Tr.ite ((bif v1 then true else v3) && v3)
      (Tr.ite (bif v1 then true else bif decide (y < (0 : Int)) then true else !U.look (f1, f2, f3, ())) (Tr.ret ((0 : Int), [], (1 : Int)))
        (Tr.ite (decide ((0 : Int) ≤ b ∧ b < v2 ∧ List.length a2 ≤ (1048576 : Nat)) && insOK y c (List.length (List.getD a2 (Int.toNat b) U.dL).fst))
          (Tr.ret (a1, U.setL a2 (Int.toNat b) fun (l : List U.Cl) => U.delC l (Int.toNat y) (Int.toNat c) (f1, f2, f3, ()), (0 : Int))) Tr.fail))
      Tr.fail)
    Tr.fail
def e61 (r : Int × List Line × Int) : FRes := { rs := Slot.tup [AV.agg [Leaf.dat (.int .i64) r.fst, Leaf.dat (Kd.sl link) r.snd.fst], AV.one (Leaf.dat (.int .i64) r.snd.snd)], upd := [], new := [] }
@[reducible] def a61 : List AK := [AK.d gridk, AK.d (.int .i64), AK.d (.int .i64), AK.d (.int .i64), AK.d attk]
@[reducible] def b61 : List BK := []
theorem t61 (a1 : Int) (a2 : List Line) (b : Int) (c : Int) (y : Int) (f1 : Int) (f2 : Int) (f3 : Int) : evFn (Env.loops (Env.withFns E0 [((90 : Nat), w90), ((94 : Nat), w94), ((91 : Nat), De.w91)]) live61 fun (x : Nat) (x_1 : VS) => none) Tryd.f61 [PM.data gridk, PM.data (.int .i64)] (akAV a61 ((a1, a2, ()), b, c, y, (f1, f2, f3, ()), ())) (bkBs b61 ()) = (d61 a1 a2 b c y f1 f2 f3).map e61 := by kernel_rfl
def s61 (C : akT a61 → Bool) (G : akT a61 → Int × List Line × Int) : FSpec := aspec a61 b61 e61 (fun x _ => C x) (fun x _ => G x)
theorem k61 {C : akT a61 → Bool} {G : akT a61 → Int × List Line × Int} (hd : ∀ (a1 : Int) (a2 : List Line) (b : Int) (c : Int) (y : Int) (f1 : Int) (f2 : Int) (f3 : Int), C ((a1, a2, ()), b, c, y, (f1, f2, f3, ()), ()) = true → (d61 a1 a2 b c y f1 f2 f3).val = some (G ((a1, a2, ()), b, c, y, (f1, f2, f3, ()), ()))) (IO : ItOK Tryd.prog (Env.loops (Env.withFns E0 [((90 : Nat), w90), ((94 : Nat), w94), ((91 : Nat), De.w91)]) live61 fun (x : Nat) (x_1 : VS) => none) := by exact itOK_none rfl) (L : ∀ c, Tryd.f61.body = some c → LsOK (evI 2) ((Env.loops (Env.withFns E0 [((90 : Nat), w90), ((94 : Nat), w94), ((91 : Nat), De.w91)]) live61 fun (x : Nat) (x_1 : VS) => none).lend 0) c := by exact fun c _ => LsOK_none rfl c) : SpecOK Tryd.prog E0 61 (s61 C G) :=
  aspec_ok (ak := a61) (bl := b61) (e := e61) (c := fun x _ => C x) (g := fun x _ => G x) (E0 := E0) (E := Env.loops (Env.withFns E0 [((90 : Nat), w90), ((94 : Nat), w94), ((91 : Nat), De.w91)]) live61 fun (x : Nat) (x_1 : VS) => none) tab (.cons wk90 (.cons wk94 (.cons De.wk91 .nil))) rfl rfl hm Tryd.func61 (by kernel_rfl) [PM.data gridk, PM.data (.int .i64)] (fun X Y H => by obtain ⟨⟨a1, ⟨a2, _⟩⟩, ⟨b, ⟨c, ⟨y, ⟨⟨f1, ⟨f2, ⟨f3, _⟩⟩⟩, _⟩⟩⟩⟩⟩ := X; exact val_of (t61 a1 a2 b c y f1 f2 f3) (hd a1 a2 b c y f1 f2 f3 H)) IO L
end Go.Proofs.YtmnbcnhpklejcaaDoor
namespace U
def rawIns (c : Int) (l : List Ln) (row col n : Int) (a : Int × Int × Int × Unit) : Int × List Ln × Int := bif place c l row col && (decide (0 ≤ n) && look a) then (c, setC l row.toNat (insC (l.getD row.toNat dL).1 n.toNat col.toNat a), 0) else (0, [], 1)
def rawDel (c : Int) (l : List Ln) (row col n : Int) (a : Int × Int × Int × Unit) : Int × List Ln × Int := bif place c l row col && (decide (0 ≤ n) && look a) then (c, setC l row.toNat (delC (l.getD row.toNat dL).1 n.toNat col.toNat a), 0) else (0, [], 1)
def region (c : Int) (l : List Ln) (t b n : Int) (a : Int × Int × Int × Unit) : Bool := place c l t 0 && (place c l b 0 && (decide (t ≤ b) && (decide (0 ≤ n) && look a)))
def upL (l : List Ln) (t b m : Nat) (x : Ln) : List Ln := l.take t ++ ((l.take (b + 1)).drop (t + m) ++ (List.replicate m x ++ l.drop (b + 1)))
def downL (l : List Ln) (t b m : Nat) (x : Ln) : List Ln := l.take t ++ (List.replicate m x ++ ((l.take (b + 1 - m)).drop t ++ l.drop (b + 1)))
def bareL (c : Int) (a : Int × Int × Int × Unit) : Ln := (List.replicate c.toNat (blank a), false, ())
def cnt (t b n : Int) : Nat := min n.toNat (b.toNat + 1 - t.toNat)
def rawUp (c : Int) (l : List Ln) (t b n : Int) (a : Int × Int × Int × Unit) : Int × List Ln × List Ln × Int := bif region c l t b n a then (c, upL l t.toNat b.toNat (cnt t b n) (bareL c a), (l.take (t.toNat + cnt t b n)).drop t.toNat, 0) else (0, [], [], 1)
def rawDown (c : Int) (l : List Ln) (t b n : Int) (a : Int × Int × Int × Unit) : Int × List Ln × Int := bif region c l t b n a then (c, downL l t.toNat b.toNat (cnt t b n) (bareL c a), 0) else (0, [], 1)
theorem region_at {c : Int} {l : List Ln} {t b n : Int} {a : Int × Int × Int × Unit} (h : region c l t b n a = true) : ∃ t' b' n' : Nat, t = t' ∧ b = b' ∧ n = n' ∧ t' ≤ b' ∧ b' < l.length ∧ 1 ≤ c ∧ c ≤ 80 ∧ l.length ≤ 50 ∧ ∀ y ∈ l, fitC y.1 = true ∧ (y.1.length : Int) = c := by
  unfold region at h
  simp only [Bool.and_eq_true, decide_eq_true_eq] at h
  obtain ⟨h1, h2, h3, h4, _⟩ := h
  obtain ⟨p1, p2, p3, p4, p5⟩ := place_at h1
  obtain ⟨q1, q2, _, _, _⟩ := place_at h2
  obtain ⟨r1, r2, r3, r4⟩ := gridR_cols (place_r h1)
  exact ⟨t.toNat, b.toNat, n.toNat, by omega, by omega, by omega, by omega, by omega, r1, r2, r4, p5⟩
theorem upL_len {l : List Ln} {t b m : Nat} {x : Ln} (h : t ≤ b) (hb : b < l.length) (hm : m ≤ b + 1 - t) : (upL l t b m x).length = l.length := by
  unfold upL
  simp only [List.length_append, List.length_take, List.length_drop, List.length_replicate]
  omega
theorem downL_len {l : List Ln} {t b m : Nat} {x : Ln} (h : t ≤ b) (hb : b < l.length) (hm : m ≤ b + 1 - t) : (downL l t b m x).length = l.length := by
  unfold downL
  simp only [List.length_append, List.length_take, List.length_drop, List.length_replicate]
  omega
end U
namespace Go.Proofs.YtmnbcnhpklejcaaDoor
theorem neg_le {n : Int} : decide (n < 0) = !decide (0 ≤ n) := by
  rw [Bool.eq_iff_iff]; simp
abbrev w60 : FSpec := s60 (fun x => U.okl x.1.2.1) fun x => U.rawIns x.1.1 x.1.2.1 x.2.1 x.2.2.1 x.2.2.2.1 x.2.2.2.2.1
theorem wk60 : SpecOK Tryd.prog E0 60 w60 := by
  refine k60 fun c l row col n a b d H => ?_
  have H : U.okl l = true := H
  show _ = some (U.rawIns c l row col n (a, b, d, ()))
  unfold U.rawIns
  have hk : U.place c l row col = true → (decide ((0 : Int) ≤ row ∧ row < (l.length : Int) ∧ l.length ≤ 1048576) && insOK n col (l.getD row.toNat U.dL).1.length) = decide (0 ≤ n) := fun h => by
    obtain ⟨p1, p2, p3, p4, p5⟩ := U.place_at h
    have := p5 _ (U.getD_mem (show row.toNat < l.length by omega))
    have := U.okl_len H
    obtain ⟨_, q2, _, _⟩ := U.gridR_cols (U.place_r h)
    rw [Bool.eq_iff_iff]
    simp only [Bool.and_eq_true, decide_eq_true_eq]
    omega
  simp only [d60, Tr.val, eqb_self, H, neg_le, cond_true, Bool.and_self, Bool.and_true, Bool.cond_self]
  cases hp : U.place c l row col with
  | false => rfl
  | true =>
    rw [hk hp]
    cases decide (0 ≤ n) <;> cases U.look (a, b, d, ()) <;> rfl
abbrev w61 : FSpec := s61 (fun x => U.okl x.1.2.1) fun x => U.rawDel x.1.1 x.1.2.1 x.2.1 x.2.2.1 x.2.2.2.1 x.2.2.2.2.1
theorem wk61 : SpecOK Tryd.prog E0 61 w61 := by
  refine k61 fun c l row col n a b d H => ?_
  have H : U.okl l = true := H
  show _ = some (U.rawDel c l row col n (a, b, d, ()))
  unfold U.rawDel
  have hk : U.place c l row col = true → (decide ((0 : Int) ≤ row ∧ row < (l.length : Int) ∧ l.length ≤ 1048576) && insOK n col (l.getD row.toNat U.dL).1.length) = decide (0 ≤ n) := fun h => by
    obtain ⟨p1, p2, p3, p4, p5⟩ := U.place_at h
    have := p5 _ (U.getD_mem (show row.toNat < l.length by omega))
    have := U.okl_len H
    obtain ⟨_, q2, _, _⟩ := U.gridR_cols (U.place_r h)
    rw [Bool.eq_iff_iff]
    simp only [Bool.and_eq_true, decide_eq_true_eq]
    omega
  simp only [d61, Tr.val, eqb_self, H, neg_le, cond_true, Bool.and_self, Bool.and_true, Bool.cond_self]
  cases hp : U.place c l row col with
  | false => rfl
  | true =>
    rw [hk hp]
    cases decide (0 ≤ n) <;> cases U.look (a, b, d, ()) <;> rfl
def live116 (key : Nat) : Lv :=
  bif Nat.beq key 25001 then { ls := [9999, 10] } else bif Nat.beq key 45001 then { ls := [10, 11, 12, 13, 14, 15, 16, 17, 18, 19, 20, 21, 22, 23, 24, 25, 26, 27, 28, 29, 30, 31] } else
  { ls := [] }
def d116 (a1 : Int) (a2 : List Line) (b : Int) (c : Int) (y : Int) (f1 : Int) (f2 : Int) (f3 : Int) : Tr (Bool) :=
  let v1 : Bool := (U.place a1 a2 b (0 : Int))
  Tr.ite (U.okl a2)
    (Tr.ite (bif v1 then U.okl a2 else true)
      (Tr.ret (bif v1 then bif U.place a1 a2 c (0 : Int) then bif decide (b ≤ c) then bif decide ((0 : Int) ≤ y) then U.look (f1, f2, f3, ()) else false else false else false else false)) Tr.fail)
    Tr.fail
def e116 (r : Bool) : FRes := { rs := Slot.av (AV.one (Leaf.dat Kd.bool r)), upd := [], new := [] }
@[reducible] def a116 : List AK := [AK.d gridk, AK.d (.int .i64), AK.d (.int .i64), AK.d (.int .i64), AK.d attk]
@[reducible] def b116 : List BK := []
theorem t116 (a1 : Int) (a2 : List Line) (b : Int) (c : Int) (y : Int) (f1 : Int) (f2 : Int) (f3 : Int) : evFn (Env.loops (Env.withFns E0 [((90 : Nat), w90), ((94 : Nat), w94)]) live116 fun (x : Nat) (x_1 : VS) => none) Tryd.f116 [PM.data Kd.bool] (akAV a116 ((a1, a2, ()), b, c, y, (f1, f2, f3, ()), ())) (bkBs b116 ()) = (d116 a1 a2 b c y f1 f2 f3).map e116 := by kernel_rfl
def s116 (C : akT a116 → Bool) (G : akT a116 → Bool) : FSpec := aspec a116 b116 e116 (fun x _ => C x) (fun x _ => G x)
theorem k116 {C : akT a116 → Bool} {G : akT a116 → Bool} (hd : ∀ (a1 : Int) (a2 : List Line) (b : Int) (c : Int) (y : Int) (f1 : Int) (f2 : Int) (f3 : Int), C ((a1, a2, ()), b, c, y, (f1, f2, f3, ()), ()) = true → (d116 a1 a2 b c y f1 f2 f3).val = some (G ((a1, a2, ()), b, c, y, (f1, f2, f3, ()), ()))) (IO : ItOK Tryd.prog (Env.loops (Env.withFns E0 [((90 : Nat), w90), ((94 : Nat), w94)]) live116 fun (x : Nat) (x_1 : VS) => none) := by exact itOK_none rfl) (L : ∀ c, Tryd.f116.body = some c → LsOK (evI 2) ((Env.loops (Env.withFns E0 [((90 : Nat), w90), ((94 : Nat), w94)]) live116 fun (x : Nat) (x_1 : VS) => none).lend 0) c := by exact fun c _ => LsOK_none rfl c) : SpecOK Tryd.prog E0 116 (s116 C G) :=
  aspec_ok (ak := a116) (bl := b116) (e := e116) (c := fun x _ => C x) (g := fun x _ => G x) (E0 := E0) (E := Env.loops (Env.withFns E0 [((90 : Nat), w90), ((94 : Nat), w94)]) live116 fun (x : Nat) (x_1 : VS) => none) tab (.cons wk90 (.cons wk94 .nil)) rfl rfl hm Tryd.func116 (by kernel_rfl) [PM.data Kd.bool] (fun X Y H => by obtain ⟨⟨a1, ⟨a2, _⟩⟩, ⟨b, ⟨c, ⟨y, ⟨⟨f1, ⟨f2, ⟨f3, _⟩⟩⟩, _⟩⟩⟩⟩⟩ := X; exact val_of (t116 a1 a2 b c y f1 f2 f3) (hd a1 a2 b c y f1 f2 f3 H)) IO L
theorem bifs (a b c d e : Bool) : (bif a then bif b then bif c then bif d then e else false else false else false else false) = (a && (b && (c && (d && e)))) := by cases a <;> cases b <;> cases c <;> cases d <;> rfl
abbrev w116 : FSpec := s116 (fun x => U.okl x.1.2.1) fun x => U.region x.1.1 x.1.2.1 x.2.1 x.2.2.1 x.2.2.2.1 x.2.2.2.2.1
theorem wk116 : SpecOK Tryd.prog E0 116 w116 := by
  refine k116 fun c l t b n a e d H => ?_
  have H : U.okl l = true := H
  show _ = some (U.region c l t b n (a, e, d, ()))
  unfold U.region
  simp only [d116, Tr.val, H, bifs, cond_true, Bool.cond_self]
def live58 (key : Nat) : Lv :=
  bif Nat.beq key 20020 then { ls := [9999, 1, 2, 3, 5, 9, 10] } else bif Nat.beq key 40020 then { ls := [11, 12, 21] } else
  { ls := [] }
def d58 (a1 : Int) (a2 : List Line) (b : Int) (c : Int) (y : Int) (f1 : Int) (f2 : Int) (f3 : Int) : Tr (Int × List Line × List Line × Int) :=
  let v1 : Int := ((↑(List.length a2) : Int))
  let v2 : Int := (IntKind.wrap IntKind.i64 (c + (1 : Int)))
  let v3 : Int := (minI y (IntKind.wrap IntKind.i64 (v2 - b)))
  let v4 : Int := (IntKind.wrap IntKind.i64 (b + v3))
  let v5 : List Line := (List.flatten [sub a2 (0 : Nat) (Int.toNat b), sub a2 (Int.toNat v4) (Int.toNat v2), List.replicate (Int.toNat v3) (List.replicate (Int.toNat a1) (U.blank (f1, f2, f3, ())), false, ()), sub a2 (Int.toNat v2) (List.length a2)])
  Tr.ite (U.okl a2)
    (Tr.ite (!U.region a1 a2 b c y (f1, f2, f3, ())) (Tr.ret ((0 : Int), [], [], (1 : Int)))
      (Tr.ite (decide ((0 : Int) ≤ b ∧ b ≤ v1) && decide (b = b))
        (Tr.ite (decide ((0 : Int) ≤ v4 ∧ v4 ≤ v2 ∧ v2 ≤ v1))
          (Tr.ite (decide ((1 : Int) ≤ a1 ∧ a1 < (128 : Int) ∧ (0 : Int) ≤ v3 ∧ v3 ≤ (1000 : Int)))
            (Tr.ite (decide ((0 : Int) ≤ v2 ∧ v2 ≤ v1))
              (Tr.ite (decide ((4 : Nat) ≤ (1048576 : Nat) ∧ List.length v5 ≤ (1048576 : Nat)))
                (Tr.ite (decide ((0 : Int) ≤ b ∧ b ≤ v4 ∧ v4 ≤ v1) && decide (v4 = v4)) (Tr.ret (a1, v5, sub a2 (Int.toNat b) (Int.toNat v4), (0 : Int))) Tr.fail) Tr.fail)
              Tr.fail)
            Tr.fail)
          Tr.fail)
        Tr.fail))
    Tr.fail
def e58 (r : Int × List Line × List Line × Int) : FRes := { rs := Slot.tup [AV.agg [Leaf.dat (.int .i64) r.fst, Leaf.dat (Kd.sl link) r.snd.fst], AV.one (Leaf.dat (Kd.sl link) r.snd.snd.fst), AV.one (Leaf.dat (.int .i64) r.snd.snd.snd)], upd := [], new := [] }
@[reducible] def a58 : List AK := [AK.d gridk, AK.d (.int .i64), AK.d (.int .i64), AK.d (.int .i64), AK.d attk]
@[reducible] def b58 : List BK := []
theorem t58 (a1 : Int) (a2 : List Line) (b : Int) (c : Int) (y : Int) (f1 : Int) (f2 : Int) (f3 : Int) : evFn (Env.loops (Env.withFns E0 [((116 : Nat), w116), ((117 : Nat), w117), ((81 : Nat), w81)]) live58 fun (x : Nat) (x_1 : VS) => none) Tryd.f58 [PM.data gridk, PM.data (Kd.sl link), PM.data (.int .i64)] (akAV a58 ((a1, a2, ()), b, c, y, (f1, f2, f3, ()), ())) (bkBs b58 ()) = (d58 a1 a2 b c y f1 f2 f3).map e58 := by kernel_rfl
def s58 (C : akT a58 → Bool) (G : akT a58 → Int × List Line × List Line × Int) : FSpec := aspec a58 b58 e58 (fun x _ => C x) (fun x _ => G x)
theorem k58 {C : akT a58 → Bool} {G : akT a58 → Int × List Line × List Line × Int} (hd : ∀ (a1 : Int) (a2 : List Line) (b : Int) (c : Int) (y : Int) (f1 : Int) (f2 : Int) (f3 : Int), C ((a1, a2, ()), b, c, y, (f1, f2, f3, ()), ()) = true → (d58 a1 a2 b c y f1 f2 f3).val = some (G ((a1, a2, ()), b, c, y, (f1, f2, f3, ()), ()))) (IO : ItOK Tryd.prog (Env.loops (Env.withFns E0 [((116 : Nat), w116), ((117 : Nat), w117), ((81 : Nat), w81)]) live58 fun (x : Nat) (x_1 : VS) => none) := by exact itOK_none rfl) (L : ∀ c, Tryd.f58.body = some c → LsOK (evI 2) ((Env.loops (Env.withFns E0 [((116 : Nat), w116), ((117 : Nat), w117), ((81 : Nat), w81)]) live58 fun (x : Nat) (x_1 : VS) => none).lend 0) c := by exact fun c _ => LsOK_none rfl c) : SpecOK Tryd.prog E0 58 (s58 C G) :=
  aspec_ok (ak := a58) (bl := b58) (e := e58) (c := fun x _ => C x) (g := fun x _ => G x) (E0 := E0) (E := Env.loops (Env.withFns E0 [((116 : Nat), w116), ((117 : Nat), w117), ((81 : Nat), w81)]) live58 fun (x : Nat) (x_1 : VS) => none) tab (.cons wk116 (.cons wk117 (.cons wk81 .nil))) rfl rfl hm Tryd.func58 (by kernel_rfl) [PM.data gridk, PM.data (Kd.sl link), PM.data (.int .i64)] (fun X Y H => by obtain ⟨⟨a1, ⟨a2, _⟩⟩, ⟨b, ⟨c, ⟨y, ⟨⟨f1, ⟨f2, ⟨f3, _⟩⟩⟩, _⟩⟩⟩⟩⟩ := X; exact val_of (t58 a1 a2 b c y f1 f2 f3) (hd a1 a2 b c y f1 f2 f3 H)) IO L
def live59 (key : Nat) : Lv :=
  bif Nat.beq key 20019 then { ls := [9999, 1, 2, 3, 5, 9, 10] } else bif Nat.beq key 40019 then { ls := [11, 20] } else
  { ls := [] }
def d59 (a1 : Int) (a2 : List Line) (b : Int) (c : Int) (y : Int) (f1 : Int) (f2 : Int) (f3 : Int) : Tr (Int × List Line × Int) :=
  let v1 : Int := ((↑(List.length a2) : Int))
  let v2 : Int := (IntKind.wrap IntKind.i64 (c + (1 : Int)))
  let v3 : Int := (minI y (IntKind.wrap IntKind.i64 (v2 - b)))
  let v4 : Int := (IntKind.wrap IntKind.i64 (v2 - v3))
  let v5 : List Line := (List.flatten [sub a2 (0 : Nat) (Int.toNat b), List.replicate (Int.toNat v3) (List.replicate (Int.toNat a1) (U.blank (f1, f2, f3, ())), false, ()), sub a2 (Int.toNat b) (Int.toNat v4), sub a2 (Int.toNat v2) (List.length a2)])
  Tr.ite (U.okl a2)
    (Tr.ite (!U.region a1 a2 b c y (f1, f2, f3, ())) (Tr.ret ((0 : Int), [], (1 : Int)))
      (Tr.ite (decide ((0 : Int) ≤ b ∧ b ≤ v1))
        (Tr.ite (decide ((1 : Int) ≤ a1 ∧ a1 < (128 : Int) ∧ (0 : Int) ≤ v3 ∧ v3 ≤ (1000 : Int)))
          (Tr.ite (decide ((0 : Int) ≤ b ∧ b ≤ v4 ∧ v4 ≤ v1))
            (Tr.ite (decide ((0 : Int) ≤ v2 ∧ v2 ≤ v1)) (Tr.ite (decide ((4 : Nat) ≤ (1048576 : Nat) ∧ List.length v5 ≤ (1048576 : Nat))) (Tr.ret (a1, v5, (0 : Int))) Tr.fail) Tr.fail) Tr.fail)
          Tr.fail)
        Tr.fail))
    Tr.fail
def e59 (r : Int × List Line × Int) : FRes := { rs := Slot.tup [AV.agg [Leaf.dat (.int .i64) r.fst, Leaf.dat (Kd.sl link) r.snd.fst], AV.one (Leaf.dat (.int .i64) r.snd.snd)], upd := [], new := [] }
@[reducible] def a59 : List AK := [AK.d gridk, AK.d (.int .i64), AK.d (.int .i64), AK.d (.int .i64), AK.d attk]
@[reducible] def b59 : List BK := []
theorem t59 (a1 : Int) (a2 : List Line) (b : Int) (c : Int) (y : Int) (f1 : Int) (f2 : Int) (f3 : Int) : evFn (Env.loops (Env.withFns E0 [((116 : Nat), w116), ((117 : Nat), w117), ((81 : Nat), w81)]) live59 fun (x : Nat) (x_1 : VS) => none) Tryd.f59 [PM.data gridk, PM.data (.int .i64)] (akAV a59 ((a1, a2, ()), b, c, y, (f1, f2, f3, ()), ())) (bkBs b59 ()) = (d59 a1 a2 b c y f1 f2 f3).map e59 := by kernel_rfl
def s59 (C : akT a59 → Bool) (G : akT a59 → Int × List Line × Int) : FSpec := aspec a59 b59 e59 (fun x _ => C x) (fun x _ => G x)
theorem k59 {C : akT a59 → Bool} {G : akT a59 → Int × List Line × Int} (hd : ∀ (a1 : Int) (a2 : List Line) (b : Int) (c : Int) (y : Int) (f1 : Int) (f2 : Int) (f3 : Int), C ((a1, a2, ()), b, c, y, (f1, f2, f3, ()), ()) = true → (d59 a1 a2 b c y f1 f2 f3).val = some (G ((a1, a2, ()), b, c, y, (f1, f2, f3, ()), ()))) (IO : ItOK Tryd.prog (Env.loops (Env.withFns E0 [((116 : Nat), w116), ((117 : Nat), w117), ((81 : Nat), w81)]) live59 fun (x : Nat) (x_1 : VS) => none) := by exact itOK_none rfl) (L : ∀ c, Tryd.f59.body = some c → LsOK (evI 2) ((Env.loops (Env.withFns E0 [((116 : Nat), w116), ((117 : Nat), w117), ((81 : Nat), w81)]) live59 fun (x : Nat) (x_1 : VS) => none).lend 0) c := by exact fun c _ => LsOK_none rfl c) : SpecOK Tryd.prog E0 59 (s59 C G) :=
  aspec_ok (ak := a59) (bl := b59) (e := e59) (c := fun x _ => C x) (g := fun x _ => G x) (E0 := E0) (E := Env.loops (Env.withFns E0 [((116 : Nat), w116), ((117 : Nat), w117), ((81 : Nat), w81)]) live59 fun (x : Nat) (x_1 : VS) => none) tab (.cons wk116 (.cons wk117 (.cons wk81 .nil))) rfl rfl hm Tryd.func59 (by kernel_rfl) [PM.data gridk, PM.data (.int .i64)] (fun X Y H => by obtain ⟨⟨a1, ⟨a2, _⟩⟩, ⟨b, ⟨c, ⟨y, ⟨⟨f1, ⟨f2, ⟨f3, _⟩⟩⟩, _⟩⟩⟩⟩⟩ := X; exact val_of (t59 a1 a2 b c y f1 f2 f3) (hd a1 a2 b c y f1 f2 f3 H)) IO L
abbrev w58 : FSpec := s58 (fun x => U.okl x.1.2.1) fun x => U.rawUp x.1.1 x.1.2.1 x.2.1 x.2.2.1 x.2.2.2.1 x.2.2.2.2.1
theorem wk58 : SpecOK Tryd.prog E0 58 w58 := by
  refine k58 fun c l t b n a e d H => ?_
  have H : U.okl l = true := H
  show _ = some (U.rawUp c l t b n (a, e, d, ()))
  unfold U.rawUp
  cases hR : U.region c l t b n (a, e, d, ()) with
  | false => simp only [d58, Tr.val, H, hR, cond_true, cond_false, Bool.not_false]
  | true =>
    obtain ⟨t, b, n, rfl, rfl, rfl, h1, h2, h3, h4, h5, _⟩ := U.region_at hR
    have e1 : IntKind.wrap IntKind.i64 ((b : Int) + 1) = ((b + 1 : Nat) : Int) := by rw [w64 (by omega) (by omega)]; omega
    have e2 : IntKind.wrap IntKind.i64 (((b + 1 : Nat) : Int) - (t : Int)) = ((b + 1 - t : Nat) : Int) := by rw [w64 (by omega) (by omega)]; omega
    have e3 := minI_nat n (b + 1 - t)
    have ec : U.cnt (t : Int) (b : Int) (n : Int) = min n (b + 1 - t) := rfl
    generalize min n (b + 1 - t) = m at e3 ec
    have hm : m ≤ b + 1 - t := by
      rw [← ec]; unfold U.cnt; omega
    have e4 : IntKind.wrap IntKind.i64 ((t : Int) + (m : Int)) = ((t + m : Nat) : Int) := by rw [w64 (by omega) (by omega)]; omega
    have ev : List.flatten [sub l 0 t, sub l (t + m) (b + 1), List.replicate m (List.replicate c.toNat (U.blank (a, e, d, ())), false, ()), sub l (b + 1) l.length] = U.upL l t b m (U.bareL c (a, e, d, ())) := by
      simp only [List.flatten_cons, List.flatten_nil, List.append_nil, sub, List.drop_zero, List.take_length]
      rfl
    have el : (U.upL l t b m (U.bareL c (a, e, d, ()))).length ≤ 1048576 := by rw [U.upL_len h1 h2 hm]; omega
    have g1 : (0 : Int) ≤ (t : Int) ∧ (t : Int) ≤ (l.length : Int) := by omega
    have g2 : (0 : Int) ≤ ((t + m : Nat) : Int) ∧ ((t + m : Nat) : Int) ≤ ((b + 1 : Nat) : Int) ∧ ((b + 1 : Nat) : Int) ≤ (l.length : Int) := by omega
    have g3 : (1 : Int) ≤ c ∧ c < 128 ∧ (0 : Int) ≤ (m : Int) ∧ (m : Int) ≤ 1000 := by omega
    have g4 : (0 : Int) ≤ ((b + 1 : Nat) : Int) ∧ ((b + 1 : Nat) : Int) ≤ (l.length : Int) := by omega
    have g5 : (4 : Nat) ≤ 1048576 := by omega
    have g6 : (0 : Int) ≤ (t : Int) ∧ (t : Int) ≤ ((t + m : Nat) : Int) ∧ ((t + m : Nat) : Int) ≤ (l.length : Int) := by omega
    simp only [d58, Tr.val, H, hR, e1, e2, e3, e4, Int.toNat_natCast, ev, el, decide_eq_true g1, decide_eq_true g2, decide_eq_true g3, decide_eq_true g4, decide_eq_true g6, g5, and_self, decide_true, Bool.and_self, cond_true, cond_false, Bool.not_true, ec]
    rfl
abbrev w59 : FSpec := s59 (fun x => U.okl x.1.2.1) fun x => U.rawDown x.1.1 x.1.2.1 x.2.1 x.2.2.1 x.2.2.2.1 x.2.2.2.2.1
theorem wk59 : SpecOK Tryd.prog E0 59 w59 := by
  refine k59 fun c l t b n a e d H => ?_
  have H : U.okl l = true := H
  show _ = some (U.rawDown c l t b n (a, e, d, ()))
  unfold U.rawDown
  cases hR : U.region c l t b n (a, e, d, ()) with
  | false => simp only [d59, Tr.val, H, hR, cond_true, cond_false, Bool.not_false]
  | true =>
    obtain ⟨t, b, n, rfl, rfl, rfl, h1, h2, h3, h4, h5, _⟩ := U.region_at hR
    have e1 : IntKind.wrap IntKind.i64 ((b : Int) + 1) = ((b + 1 : Nat) : Int) := by rw [w64 (by omega) (by omega)]; omega
    have e2 : IntKind.wrap IntKind.i64 (((b + 1 : Nat) : Int) - (t : Int)) = ((b + 1 - t : Nat) : Int) := by rw [w64 (by omega) (by omega)]; omega
    have e3 := minI_nat n (b + 1 - t)
    have ec : U.cnt (t : Int) (b : Int) (n : Int) = min n (b + 1 - t) := rfl
    generalize min n (b + 1 - t) = m at e3 ec
    have hm : m ≤ b + 1 - t := by
      rw [← ec]; unfold U.cnt; omega
    have e4 : IntKind.wrap IntKind.i64 (((b + 1 : Nat) : Int) - (m : Int)) = ((b + 1 - m : Nat) : Int) := by rw [w64 (by omega) (by omega)]; omega
    have ev : List.flatten [sub l 0 t, List.replicate m (List.replicate c.toNat (U.blank (a, e, d, ())), false, ()), sub l t (b + 1 - m), sub l (b + 1) l.length] = U.downL l t b m (U.bareL c (a, e, d, ())) := by
      simp only [List.flatten_cons, List.flatten_nil, List.append_nil, sub, List.drop_zero, List.take_length]
      rfl
    have el : (U.downL l t b m (U.bareL c (a, e, d, ()))).length ≤ 1048576 := by rw [U.downL_len h1 h2 hm]; omega
    have g1 : (0 : Int) ≤ (t : Int) ∧ (t : Int) ≤ (l.length : Int) := by omega
    have g2 : (0 : Int) ≤ (t : Int) ∧ (t : Int) ≤ ((b + 1 - m : Nat) : Int) ∧ ((b + 1 - m : Nat) : Int) ≤ (l.length : Int) := by omega
    have g3 : (1 : Int) ≤ c ∧ c < 128 ∧ (0 : Int) ≤ (m : Int) ∧ (m : Int) ≤ 1000 := by omega
    have g4 : (0 : Int) ≤ ((b + 1 : Nat) : Int) ∧ ((b + 1 : Nat) : Int) ≤ (l.length : Int) := by omega
    have g5 : (4 : Nat) ≤ 1048576 := by omega
    simp only [d59, Tr.val, H, hR, e1, e2, e3, e4, Int.toNat_natCast, ev, el, decide_eq_true g1, decide_eq_true g2, decide_eq_true g3, decide_eq_true g4, g5, and_self, decide_true, Bool.and_self, cond_true, cond_false, Bool.not_true, ec]
end Go.Proofs.YtmnbcnhpklejcaaDoor

end
section
set_option linter.unusedVariables false
set_option linter.unusedSimpArgs false
set_option maxRecDepth 20000
set_option maxHeartbeats 4000000
open Go Go.Ev
namespace U
end U
namespace Go.Proofs.YtmnbcnhpklejcaaDoor
open Go.RowKit
abbrev goOK (t b c : Int) (N : Nat) : Bool := decide (0 ≤ t ∧ t ≤ b ∧ b < (N : Int) ∧ N ≤ 1000 ∧ 0 ≤ c ∧ c ≤ 1000)
def e64 (r : Int × List U.Ln) : FRes := { rs := Slot.av (AV.agg [Leaf.dat (.int .i64) r.fst, Leaf.dat (Kd.sl link) r.snd]), upd := [], new := [] }
@[reducible] def a64 : List AK := [AK.d gridk, AK.d (.int .i64), AK.d (.int .i64), AK.d (.int .i64), AK.d attk]
@[reducible] def b64 : List BK := []
def s64 (C : akT a64 → Bool) (G : akT a64 → Int × List U.Ln) : FSpec := aspec a64 b64 e64 (fun x _ => C x) (fun x _ => G x)
abbrev w64 : FSpec := s64 (fun x => decide (0 ≤ (x.2.2.2.1 : Int)) && goOK x.2.1 x.2.2.1 x.1.1 (List.length (α := Line) x.1.2.1)) fun x => (x.1.1, U.downL x.1.2.1 x.2.1.toNat x.2.2.1.toNat (U.cnt x.2.1 x.2.2.1 x.2.2.2.1) (U.bareL x.1.1 x.2.2.2.2.1))
end Go.Proofs.YtmnbcnhpklejcaaDoor

end
section
set_option linter.unusedVariables false
set_option linter.unusedSimpArgs false
set_option maxRecDepth 20000
set_option maxHeartbeats 4000000
open Go Go.Ev
namespace U
theorem upL_mem {l : List Ln} {t b m : Nat} {x y : Ln} (h : y ∈ upL l t b m x) : y ∈ l ∨ y = x := by
  unfold upL at h
  simp only [List.mem_append] at h
  rcases h with h | h | h | h
  · exact .inl (List.mem_of_mem_take h)
  · exact .inl (List.mem_of_mem_take (List.mem_of_mem_drop h))
  · exact .inr (List.eq_of_mem_replicate h)
  · exact .inl (List.mem_of_mem_drop h)
theorem downL_mem {l : List Ln} {t b m : Nat} {x y : Ln} (h : y ∈ downL l t b m x) : y ∈ l ∨ y = x := by
  unfold downL at h
  simp only [List.mem_append] at h
  rcases h with h | h | h | h
  · exact .inl (List.mem_of_mem_take h)
  · exact .inr (List.eq_of_mem_replicate h)
  · exact .inl (List.mem_of_mem_take (List.mem_of_mem_drop h))
  · exact .inl (List.mem_of_mem_drop h)
end U
namespace Go.Proofs.YtmnbcnhpklejcaaDoor
open Go.RowKit
theorem okls_iff {l : List Line} : okls l = true ↔ l.length ≤ 1048576 ∧ ∀ y ∈ l, y.1.length ≤ 1048576 := by
  unfold okls
  simp only [Bool.and_eq_true, decide_eq_true_eq, List.all_eq_true]
end Go.Proofs.YtmnbcnhpklejcaaDoor

end
section
set_option linter.unusedVariables false
set_option linter.unusedSimpArgs false
set_option maxRecDepth 20000
set_option maxHeartbeats 4000000
open Go Go.Ev
namespace U
def stays (row : Int) (x l : List Ln) : Bool := decide (x.length = l.length) && allN (fun i => (decide ((i : Int) = row) || eqL (x.getD i dL) (l.getD i dL)) && ((x.getD i dL).2.1 == (l.getD i dL).2.1)) x.length 0
def good (row : Int) (c : Int) (l : List Ln) (e : Int) (g : Int × List Ln × Unit) : Bool := !decide (e = 0) || (okl g.2.1 && (gridR g.1 g.2.1 && (decide (g.1 = c) && stays row g.2.1 l)))
end U
namespace Go.Proofs.YtmnbcnhpklejcaaDoor
open Go.RowKit
abbrev G11 : List (Nat × FSpec) := [(25, w25), (29, w29), (32, w32), (33, w33), (34, w34), (58, w58), (59, w59), (60, w60), (61, w61), (67, w67)]
theorem AG11 : AllFn Tryd.prog E0 G11 := .cons wk25 (.cons wk29 (.cons wk32 (.cons wk33 (.cons wk34 (.cons wk58 (.cons wk59 (.cons wk60 (.cons wk61 (.cons wk67 .nil)))))))))
def live11 (key : Nat) : Lv :=
  bif Nat.beq key 25029 then { ls := [9999, 12] } else bif Nat.beq key 45029 then { ls := [12, 214, 215, 216, 217, 218, 219, 220, 221, 222, 223, 224, 225, 226, 227, 228, 229, 230, 231, 232, 233, 234, 235, 236, 237, 238, 239, 240, 241, 242, 243, 244, 245, 246, 247, 248, 249] } else
  bif Nat.beq key 20210 then { ls := [9999, 1, 3, 6, 25, 26, 28] } else bif Nat.beq key 40210 then { ls := [12, 211, 212, 213] } else
  bif Nat.beq key 25027 then { ls := [9999, 1, 3, 6, 25, 26, 27, 28, 29, 210] } else bif Nat.beq key 45027 then { ls := [205, 206, 207, 208, 209, 210] } else
  bif Nat.beq key 20179 then { ls := [9999, 1, 3, 6, 11] } else bif Nat.beq key 40179 then { ls := [12] } else
  bif Nat.beq key 25023 then { ls := [9999, 1, 3, 6, 11, 179] } else bif Nat.beq key 45023 then { ls := [161, 162, 163, 164, 165, 166, 167, 168, 169, 170, 171, 172, 173, 174, 175, 176, 177, 178, 179] } else
  bif Nat.beq key 20158 then { ls := [9999, 1, 2, 3, 6, 10, 11, 13, 14, 16, 18, 20, 92, 93, 94, 128, 129, 130] } else bif Nat.beq key 40158 then { ls := [12] } else
  bif Nat.beq key 25019 then { ls := [9999, 1, 2, 3, 6, 10, 11, 13, 14, 16, 18, 20, 92, 93, 94, 128, 129, 130, 158] } else bif Nat.beq key 45019 then { ls := [135, 136, 137, 138, 139, 140, 141, 142, 143, 144, 145, 146, 147, 148, 149, 150, 151, 152, 153, 154, 155, 156, 157, 158] } else
  bif Nat.beq key 20131 then { ls := [9999, 1, 2, 3, 6, 10, 11, 13, 14, 16, 18, 20, 92, 93, 94, 128, 129, 130] } else bif Nat.beq key 40131 then { ls := [] } else
  bif Nat.beq key 17 then { ls := [1, 2, 3, 6, 10, 11, 13, 14, 16, 18, 20, 92, 93, 94, 128, 129, 130] } else bif Nat.beq key 1017 then { ls := [1, 2, 3, 6, 10, 11, 12, 13, 14, 16, 18, 20, 92, 93, 94] } else
  bif Nat.beq key 20126 then { ls := [9999, 1, 2, 3, 6, 10, 11, 13, 14, 16, 18, 20, 22, 92, 93, 94] } else bif Nat.beq key 40126 then { ls := [12] } else
  bif Nat.beq key 25014 then { ls := [9999, 1, 2, 3, 6, 10, 11, 13, 14, 16, 18, 20, 22, 92, 93, 94, 126] } else bif Nat.beq key 45014 then { ls := [108, 109, 110, 111, 112, 113, 114, 115, 116, 117, 118, 119, 120, 121, 122, 123, 124, 125, 126] } else
  bif Nat.beq key 20107 then { ls := [9999, 1, 2, 3, 6, 10, 11, 13, 14, 16, 18, 20, 22, 92, 93, 94] } else bif Nat.beq key 40107 then { ls := [] } else
  bif Nat.beq key 20095 then { ls := [9999, 1, 2, 3, 6, 10, 11, 13, 14, 16, 18, 20, 92, 93, 94] } else bif Nat.beq key 40095 then { ls := [] } else
  bif Nat.beq key 11 then { ls := [1, 2, 3, 6, 10, 11, 13, 14, 16, 18, 20, 92, 93, 94] } else bif Nat.beq key 1011 then { ls := [1, 2, 3, 6, 10, 11, 12, 13, 14] } else
  bif Nat.beq key 20042 then { ls := [9999, 1, 2, 3, 6, 10, 11] } else bif Nat.beq key 40042 then { ls := [12, 43] } else
  { ls := [] }
abbrev M11 (ls : Nat → VS → Option (Tr (Ex × VS))) : Env := (E0.withFns G11).loops live11 ls
@[reducible] def p11_0 : LP := { n := 250, sl := [.d (.int .i64), .d (.int .i64), .d (.int .i64), .c (Leaf.ptr ( 0) ( 0)), .c (Leaf.ptr ( 1) ( 0)), .c (Leaf.ptr ( 2) ( 0)), .c (Leaf.ptr ( 3) ( 0)), .d (.int .i64), .d (.int .i64), .d (.int .i64), .d (.int .i64), .c (Leaf.row ( 4)), .d (.int .i64), .d (.int .i64)], bl := [(0, .box [.d (.int .i64), .d (Kd.sl link)]), (1, .box [.d (Kd.str), .d (.int .i64), .d (.int .i64), .d (.int .i64), .d (.int .i64)]), (2, .box [.d (.int .i64), .d (.int .i64), .d (.int .i64)]), (3, .box [.d (.int .i64), .d (Kd.sl link)]), (4, .row 53 (gridk))] }
@[reducible] def p11_1 : LP := { n := 250, sl := [.d (.int .i64), .d (.int .i64), .d (.int .i64), .c (Leaf.ptr ( 0) ( 0)), .c (Leaf.ptr ( 1) ( 0)), .c (Leaf.ptr ( 2) ( 0)), .c (Leaf.ptr ( 3) ( 0)), .d (.int .i64), .d (.int .i64), .d (.int .i64), .d (.int .i64), .c (Leaf.row ( 4)), .d (.int .i64), .d (.int .i64), .d (Kd.sl link), .d (.int .i64), .d (.int .i64)], bl := [(0, .box [.d (.int .i64), .d (Kd.sl link)]), (1, .box [.d (Kd.str), .d (.int .i64), .d (.int .i64), .d (.int .i64), .d (.int .i64)]), (2, .box [.d (.int .i64), .d (.int .i64), .d (.int .i64)]), (3, .box [.d (.int .i64), .d (Kd.sl link)]), (4, .row 53 (gridk))] }
def B11_1 (x0 : Int) (x1 : Int) (x2 : Int) (x7 : Int) (x8 : Int) (x9 : Int) (x10 : Int) (x12 : Int) (x13 : Int) (x14 : List Line) (x15 : Int) (x16 : Int) (h0_0 : Int) (h0_1 : List Line) (h1_0 : ByteArray) (h1_1 : Int) (h1_2 : Int) (h1_3 : Int) (h1_4 : Int) (h2_0 : Int) (h2_1 : Int) (h2_2 : Int) (h3_0 : Int) (h3_1 : List Line) (h4 : List (Int × List Line × Unit)) : Tr (p11_1.T ⊕ (Int × Int × Int × Int × Int × Int × Int × Int × Int × Int × List Line × ByteArray × Int × Int × Int × Int × Int × Int × Int × Int × List Line × List (Int × List Line × Unit) ⊕ Int × Int × Int × Int × Int × Int × Int × Int × Int × Int × List Line × ByteArray × Int × Int × Int × Int × Int × Int × Int × Int × List Line × List (Int × List Line × Unit))) :=
  let v1 : Bool := (inB x16 (List.length h0_1))
  let v2 : Bool := (!decide (x16 = x0))
  let v3 : Bool := (!U.eqL (rget link x14 x16) (rget link h0_1 x16))
  let v4 : Bool := (!(rget link x14 x16).snd.fst == (rget link h0_1 x16).snd.fst)
  let v5 : Bool := (Kd.eqb (.int .i64) x0 x0 && (Kd.eqb (.int .i64) x1 x1 && (Kd.eqb (.int .i64) x2 x2 && (Kd.eqb (.int .i64) x7 x7 && (Kd.eqb (.int .i64) x8 x8 && (Kd.eqb (.int .i64) x9 x9 && (Kd.eqb (.int .i64) x10 x10 && (Kd.eqb (.int .i64) x12 x12 && (Kd.eqb (.int .i64) x13 x13 && (Kd.eqb (Kd.sl link) x14 x14 && (Kd.eqb (.int .i64) x15 x15 && Kd.eqb (.int .i64) x16 x16)))))))))) && (Kd.eqb (.int .i64) h0_0 h0_0 && Kd.eqb (Kd.sl link) h0_1 h0_1 && (Kd.eqb Kd.str h1_0 h1_0 && (Kd.eqb (.int .i64) h1_1 h1_1 && (Kd.eqb (.int .i64) h1_2 h1_2 && (Kd.eqb (.int .i64) h1_3 h1_3 && Kd.eqb (.int .i64) h1_4 h1_4))) && (Kd.eqb (.int .i64) h2_0 h2_0 && (Kd.eqb (.int .i64) h2_1 h2_1 && Kd.eqb (.int .i64) h2_2 h2_2) && (Kd.eqb (.int .i64) h3_0 h3_0 && Kd.eqb (Kd.sl link) h3_1 h3_1 && Kd.eqb (Kd.sl gridk) h4 h4)))))
  Tr.ite (decide (x16 < x15))
    (Tr.ite (inB x16 (List.length x14))
      (Tr.ite ((bif v2 then v1 && (decide (List.length (rget link x14 x16).fst ≤ (1048576 : Nat)) && ((bif v3 then true else v1) && v5)) else v1) && v5)
        (Tr.ite (bif v2 then bif v3 then true else v4 else v4)
          (Tr.ret (Sum.inr (Sum.inl (x0, x1, x2, x7, x8, x9, x10, x12, x13, h0_0, h0_1, h1_0, h1_1, h1_2, h1_3, h1_4, h2_0, h2_1, h2_2, h3_0, h3_1, h4))))
          (Tr.ret
            (Sum.inl
              ((x0, x1, x2, x7, x8, x9, x10, x12, x13, x14, x15, IntKind.wrap IntKind.i64 (x16 + (1 : Int)), ()), (h0_0, h0_1, ()), (h1_0, h1_1, h1_2, h1_3, h1_4, ()), (h2_0, h2_1, h2_2, ()),
                (h3_0, h3_1, ()), h4, ()))))
        Tr.fail)
      Tr.fail)
    (Tr.ret (Sum.inr (Sum.inr (x0, x1, x2, x7, x8, x9, x10, x12, x13, h0_0, h0_1, h1_0, h1_1, h1_2, h1_3, h1_4, h2_0, h2_1, h2_2, h3_0, h3_1, h4))))
def X11_1 : (Int × Int × Int × Int × Int × Int × Int × Int × Int × Int × List Line × ByteArray × Int × Int × Int × Int × Int × Int × Int × Int × List Line × List (Int × List Line × Unit) ⊕ Int × Int × Int × Int × Int × Int × Int × Int × Int × Int × List Line × ByteArray × Int × Int × Int × Int × Int × Int × Int × Int × List Line × List (Int × List Line × Unit)) → Ex × VS
  | (.inl r) => Prod.mk Ex.ret { n := 250, v := [Slot.av (AV.one (Leaf.dat (.int .i64) r.fst)), Slot.av (AV.one (Leaf.dat (.int .i64) r.snd.fst)), Slot.av (AV.one (Leaf.dat (.int .i64) r.snd.snd.fst)), Slot.av (AV.one (Leaf.ptr ( 0) ( 0))), Slot.av (AV.one (Leaf.ptr ( 1) ( 0))), Slot.av (AV.one (Leaf.ptr ( 2) ( 0))), Slot.av (AV.one (Leaf.kb false)), Slot.av (AV.one (Leaf.ptr ( 3) ( 0))), Slot.av (AV.one (Leaf.dat (.int .i64) r.snd.snd.snd.fst)), Slot.av (AV.one (Leaf.dat (.int .i64) r.snd.snd.snd.snd.fst)), Slot.av (AV.one (Leaf.dat (.int .i64) r.snd.snd.snd.snd.snd.fst)), Slot.av (AV.one (Leaf.dat (.int .i64) r.snd.snd.snd.snd.snd.snd.fst)), Slot.av (AV.one (Leaf.row ( 4))), Slot.av (AV.one (Leaf.dat (.int .i64) r.snd.snd.snd.snd.snd.snd.snd.fst)), Slot.av (AV.one (Leaf.dat (.int .i64) r.snd.snd.snd.snd.snd.snd.snd.snd.fst))], h := [( 0, Blk.box [Leaf.dat (.int .i64) r.snd.snd.snd.snd.snd.snd.snd.snd.snd.fst, Leaf.dat (Kd.sl link) r.snd.snd.snd.snd.snd.snd.snd.snd.snd.snd.fst]), ( 1, Blk.box [Leaf.dat Kd.str r.snd.snd.snd.snd.snd.snd.snd.snd.snd.snd.snd.fst, Leaf.dat (.int .i64) r.snd.snd.snd.snd.snd.snd.snd.snd.snd.snd.snd.snd.fst, Leaf.dat (.int .i64) r.snd.snd.snd.snd.snd.snd.snd.snd.snd.snd.snd.snd.snd.fst, Leaf.dat (.int .i64) r.snd.snd.snd.snd.snd.snd.snd.snd.snd.snd.snd.snd.snd.snd.fst, Leaf.dat (.int .i64) r.snd.snd.snd.snd.snd.snd.snd.snd.snd.snd.snd.snd.snd.snd.snd.fst]), ( 2, Blk.box [Leaf.dat (.int .i64) r.snd.snd.snd.snd.snd.snd.snd.snd.snd.snd.snd.snd.snd.snd.snd.snd.fst, Leaf.dat (.int .i64) r.snd.snd.snd.snd.snd.snd.snd.snd.snd.snd.snd.snd.snd.snd.snd.snd.snd.fst, Leaf.dat (.int .i64) r.snd.snd.snd.snd.snd.snd.snd.snd.snd.snd.snd.snd.snd.snd.snd.snd.snd.snd.fst]), ( 3, Blk.box [Leaf.dat (.int .i64) r.snd.snd.snd.snd.snd.snd.snd.snd.snd.snd.snd.snd.snd.snd.snd.snd.snd.snd.snd.fst, Leaf.dat (Kd.sl link) r.snd.snd.snd.snd.snd.snd.snd.snd.snd.snd.snd.snd.snd.snd.snd.snd.snd.snd.snd.snd.fst]), ( 4, Blk.row ( 53) gridk r.snd.snd.snd.snd.snd.snd.snd.snd.snd.snd.snd.snd.snd.snd.snd.snd.snd.snd.snd.snd.snd)] }
  | (.inr r) => Prod.mk (Ex.exit ( 2)) { n := 250, v := [Slot.av (AV.one (Leaf.dat (.int .i64) r.fst)), Slot.av (AV.one (Leaf.dat (.int .i64) r.snd.fst)), Slot.av (AV.one (Leaf.dat (.int .i64) r.snd.snd.fst)), Slot.av (AV.one (Leaf.ptr ( 0) ( 0))), Slot.av (AV.one (Leaf.ptr ( 1) ( 0))), Slot.av (AV.one (Leaf.ptr ( 2) ( 0))), Slot.av (AV.one Leaf.undef), Slot.av (AV.one (Leaf.ptr ( 3) ( 0))), Slot.av (AV.one (Leaf.dat (.int .i64) r.snd.snd.snd.fst)), Slot.av (AV.one (Leaf.dat (.int .i64) r.snd.snd.snd.snd.fst)), Slot.av (AV.one (Leaf.dat (.int .i64) r.snd.snd.snd.snd.snd.fst)), Slot.av (AV.one (Leaf.dat (.int .i64) r.snd.snd.snd.snd.snd.snd.fst)), Slot.av (AV.one (Leaf.row ( 4))), Slot.av (AV.one (Leaf.dat (.int .i64) r.snd.snd.snd.snd.snd.snd.snd.fst)), Slot.av (AV.one (Leaf.dat (.int .i64) r.snd.snd.snd.snd.snd.snd.snd.snd.fst))], h := [( 0, Blk.box [Leaf.dat (.int .i64) r.snd.snd.snd.snd.snd.snd.snd.snd.snd.fst, Leaf.dat (Kd.sl link) r.snd.snd.snd.snd.snd.snd.snd.snd.snd.snd.fst]), ( 1, Blk.box [Leaf.dat Kd.str r.snd.snd.snd.snd.snd.snd.snd.snd.snd.snd.snd.fst, Leaf.dat (.int .i64) r.snd.snd.snd.snd.snd.snd.snd.snd.snd.snd.snd.snd.fst, Leaf.dat (.int .i64) r.snd.snd.snd.snd.snd.snd.snd.snd.snd.snd.snd.snd.snd.fst, Leaf.dat (.int .i64) r.snd.snd.snd.snd.snd.snd.snd.snd.snd.snd.snd.snd.snd.snd.fst, Leaf.dat (.int .i64) r.snd.snd.snd.snd.snd.snd.snd.snd.snd.snd.snd.snd.snd.snd.snd.fst]), ( 2, Blk.box [Leaf.dat (.int .i64) r.snd.snd.snd.snd.snd.snd.snd.snd.snd.snd.snd.snd.snd.snd.snd.snd.fst, Leaf.dat (.int .i64) r.snd.snd.snd.snd.snd.snd.snd.snd.snd.snd.snd.snd.snd.snd.snd.snd.snd.fst, Leaf.dat (.int .i64) r.snd.snd.snd.snd.snd.snd.snd.snd.snd.snd.snd.snd.snd.snd.snd.snd.snd.snd.fst]), ( 3, Blk.box [Leaf.dat (.int .i64) r.snd.snd.snd.snd.snd.snd.snd.snd.snd.snd.snd.snd.snd.snd.snd.snd.snd.snd.snd.fst, Leaf.dat (Kd.sl link) r.snd.snd.snd.snd.snd.snd.snd.snd.snd.snd.snd.snd.snd.snd.snd.snd.snd.snd.snd.snd.fst]), ( 4, Blk.row ( 53) gridk r.snd.snd.snd.snd.snd.snd.snd.snd.snd.snd.snd.snd.snd.snd.snd.snd.snd.snd.snd.snd.snd)] }
def b11_1 : p11_1.T → Tr (p11_1.T ⊕ (Int × Int × Int × Int × Int × Int × Int × Int × Int × Int × List Line × ByteArray × Int × Int × Int × Int × Int × Int × Int × Int × List Line × List (Int × List Line × Unit) ⊕ Int × Int × Int × Int × Int × Int × Int × Int × Int × Int × List Line × ByteArray × Int × Int × Int × Int × Int × Int × Int × Int × List Line × List (Int × List Line × Unit))) := fun ⟨⟨x0, ⟨x1, ⟨x2, ⟨x7, ⟨x8, ⟨x9, ⟨x10, ⟨x12, ⟨x13, ⟨x14, ⟨x15, ⟨x16, _⟩⟩⟩⟩⟩⟩⟩⟩⟩⟩⟩⟩, ⟨⟨h0_0, ⟨h0_1, _⟩⟩, ⟨⟨h1_0, ⟨h1_1, ⟨h1_2, ⟨h1_3, ⟨h1_4, _⟩⟩⟩⟩⟩, ⟨⟨h2_0, ⟨h2_1, ⟨h2_2, _⟩⟩⟩, ⟨⟨h3_0, ⟨h3_1, _⟩⟩, ⟨h4, _⟩⟩⟩⟩⟩⟩ => B11_1 x0 x1 x2 x7 x8 x9 x10 x12 x13 x14 x15 x16 h0_0 h0_1 h1_0 h1_1 h1_2 h1_3 h1_4 h2_0 h2_1 h2_2 h3_0 h3_1 h4
theorem h11_1 (ls : Nat → VS → Option (Tr (Ex × VS))) (x : p11_1.T) : (evC (evI 2) (lc Tryd.f11 1) (Env.lend (M11 ls) 0) (unV (live11 17) (p11_1.V x))).map (decL 0 (live11 17) (live11 1017)) = (b11_1 x).map (encR p11_1.V X11_1) := by
  obtain ⟨⟨x0, ⟨x1, ⟨x2, ⟨x7, ⟨x8, ⟨x9, ⟨x10, ⟨x12, ⟨x13, ⟨x14, ⟨x15, ⟨x16, _⟩⟩⟩⟩⟩⟩⟩⟩⟩⟩⟩⟩, ⟨⟨h0_0, ⟨h0_1, _⟩⟩, ⟨⟨h1_0, ⟨h1_1, ⟨h1_2, ⟨h1_3, ⟨h1_4, _⟩⟩⟩⟩⟩, ⟨⟨h2_0, ⟨h2_1, ⟨h2_2, _⟩⟩⟩, ⟨⟨h3_0, ⟨h3_1, _⟩⟩, ⟨h4, _⟩⟩⟩⟩⟩⟩ := x; kernel_rfl
theorem c11_1 (x : p11_1.T) : canV 0 (live11 17) (unV (live11 17) (p11_1.V x)) = p11_1.V x := by
  obtain ⟨⟨x0, ⟨x1, ⟨x2, ⟨x7, ⟨x8, ⟨x9, ⟨x10, ⟨x12, ⟨x13, ⟨x14, ⟨x15, ⟨x16, _⟩⟩⟩⟩⟩⟩⟩⟩⟩⟩⟩⟩, ⟨⟨h0_0, ⟨h0_1, _⟩⟩, ⟨⟨h1_0, ⟨h1_1, ⟨h1_2, ⟨h1_3, ⟨h1_4, _⟩⟩⟩⟩⟩, ⟨⟨h2_0, ⟨h2_1, ⟨h2_2, _⟩⟩⟩, ⟨⟨h3_0, ⟨h3_1, _⟩⟩, ⟨h4, _⟩⟩⟩⟩⟩⟩ := x; kernel_rfl
theorem l11_1 {T : p11_1.T → Tr (Int × Int × Int × Int × Int × Int × Int × Int × Int × Int × List Line × ByteArray × Int × Int × Int × Int × Int × Int × Int × Int × List Line × List (Int × List Line × Unit) ⊕ Int × Int × Int × Int × Int × Int × Int × Int × Int × Int × List Line × ByteArray × Int × Int × Int × Int × Int × Int × Int × Int × List Line × List (Int × List Line × Unit))} {ls : Nat → VS → Option (Tr (Ex × VS))} (hls : ∀ x, (Env.lend (M11 ls) 0).ls 17 x = p11_1.ls (fun a => (T a).map X11_1) x) (hS : ∀ x r, (T x).val = some r → Rounds b11_1 x r) : LoopOK (evI 2) (Env.lend (M11 ls) 0) (lc Tryd.f11 1) :=
  loopA 17 (live11 17) (live11 1017) p11_1 b11_1 X11_1 T (by kernel_rfl) rfl rfl hls (h11_1 ls) c11_1 hS
def T11_1 (x : p11_1.T) : Tr (Int × Int × Int × Int × Int × Int × Int × Int × Int × Int × List Line × ByteArray × Int × Int × Int × Int × Int × Int × Int × Int × List Line × List (Int × List Line × Unit) ⊕ Int × Int × Int × Int × Int × Int × Int × Int × Int × Int × List Line × ByteArray × Int × Int × Int × Int × Int × Int × Int × Int × List Line × List (Int × List Line × Unit)) :=
  match x with
  | ⟨⟨x0, x1, x2, x7, x8, x9, x10, x12, x13, x14, x15, x16, _⟩, ⟨h0_0, h0_1, _⟩, ⟨h1_0, h1_1, h1_2, h1_3, h1_4, _⟩, ⟨h2_0, h2_1, h2_2, _⟩, ⟨h3_0, h3_1, _⟩, h4, _⟩ =>
    .ite (decide ((x15 : Int) = (List.length (α := Line) x14 : Int) ∧ (x16 : Int) = 0) && (okls x14 && U.stays x0 x14 h0_1)) (.ret (.inr (x0, x1, x2, x7, x8, x9, x10, x12, x13, h0_0, h0_1, h1_0, h1_1, h1_2, h1_3, h1_4, h2_0, h2_1, h2_2, h3_0, h3_1, h4))) .fail
abbrev N11 (ls : Nat → VS → Option (Tr (Ex × VS))) : Env := M11 fun key x => bif Nat.beq key 17 then p11_1.ls (fun a => (T11_1 a).map X11_1) x else ls key x
theorem L11_1 {ls : Nat → VS → Option (Tr (Ex × VS))} : LoopOK (evI 2) ((N11 ls).lend 0) (lc Tryd.f11 1) := by
  refine l11_1 (T := T11_1) (fun x => rfl) ?_
  rintro ⟨⟨x0, x1, x2, x7, x8, x9, x10, x12, x13, l, n, i, z0⟩, ⟨c, g, z1⟩, ⟨h1_0, h1_1, h1_2, h1_3, h1_4, z2⟩, ⟨h2_0, h2_1, h2_2, z3⟩, ⟨h3_0, h3_1, z4⟩, h4, z5⟩ r hh
  obtain ⟨g1, g2⟩ := pre_val hh
  rw [Bool.and_eq_true, Bool.and_eq_true] at g1
  obtain ⟨g1, gk, gs⟩ := g1
  have g0 : ((n : Int) = (l.length : Int) ∧ (i : Int) = 0) := of_decide_eq_true g1
  clear g1
  obtain ⟨rfl, rfl⟩ := g0
  unfold U.stays at gs
  rw [Bool.and_eq_true, all0] at gs
  obtain ⟨gl, gs⟩ := gs
  have gl : l.length = g.length := of_decide_eq_true gl
  obtain ⟨k1, k2⟩ := okls_iff.1 gk
  cases g2
  have := Rounds.uptoA (B := b11_1) (σ := Unit) (N := l.length) (fun i _ => ((x0, x1, x2, x7, x8, x9, x10, x12, x13, l, (l.length : Int), (i : Int), ()), (c, g, ()), (h1_0, h1_1, h1_2, h1_3, h1_4, ()), (h2_0, h2_1, h2_2, ()), (h3_0, h3_1, ()), h4, ())) (fun _ s => s) (fun _ => (.inr (x0, x1, x2, x7, x8, x9, x10, x12, x13, c, g, h1_0, h1_1, h1_2, h1_3, h1_4, h2_0, h2_1, h2_2, h3_0, h3_1, h4))) (fun _ _ => True) (fun i s hi hv => ?_) (fun s hv => ?_) l.length 0 () (by omega) trivial
  · exact this
  · refine ⟨?_, trivial⟩
    have hs := gs i hi
    have hg : i < g.length := by omega
    have e1 : rget link l (i : Int) = l.getD i U.dL := rgetL l i
    have e2 : rget link g (i : Int) = g.getD i U.dL := rgetL g i
    have e3 : (l.getD i U.dL).1.length ≤ 1048576 := k2 _ (by rw [getD_el hi]; exact List.getElem_mem hi)
    have d0 : (i : Int) < (l.length : Int) := by omega
    rw [Bool.and_eq_true] at hs
    obtain ⟨s1, s2⟩ := hs
    simp only [b11_1, B11_1, Tr.val, e1, e2, e3, s2, eqb_self, inB_nat hi, inB_nat hg, decide_eq_true d0, decide_true, Bool.and_self, Bool.and_true, Bool.true_and, Bool.cond_self, Bool.not_true, cond_true, wrap64_nat (show i ≤ 1048576 by omega)]
    rcases Bool.or_eq_true_iff.1 s1 with h | h
    · simp only [h, Bool.not_true, cond_false]
    · simp only [h, Bool.not_true, cond_false, Bool.cond_self]
  · simp only [b11_1, B11_1, Tr.val, show ¬ ((l.length : Int) < (l.length : Int)) by omega, decide_false, cond_false]
def B11_0 (x0 : Int) (x1 : Int) (x2 : Int) (x7 : Int) (x8 : Int) (x9 : Int) (x10 : Int) (x12 : Int) (x13 : Int) (h0_0 : Int) (h0_1 : List Line) (h1_0 : ByteArray) (h1_1 : Int) (h1_2 : Int) (h1_3 : Int) (h1_4 : Int) (h2_0 : Int) (h2_1 : Int) (h2_2 : Int) (h3_0 : Int) (h3_1 : List Line) (h4 : List (Int × List Line × Unit)) : Tr (p11_0.T ⊕ (Int × Int × Int × Int × Int × List Line × ByteArray × Int × Int × Int × Int × Int × Int × Int × Int × List Line ⊕ Int × Int × Int × Int × Int × List Line × ByteArray × Int × Int × Int × Int × Int × Int × Int × Int × List Line)) :=
  let v1 : Int := ((↑(List.length h0_1) : Int))
  let v2 : Int := ((↑(List.length (List.getD h4 (Int.toNat x13) (Kd.dflt gridk)).snd.fst) : Int))
  let v3 : Int := ((↑(List.length (List.getD h4 (Int.toNat x13) (Kd.dflt gridk)).snd.fst) : Int))
  let v4 : Bool := (!U.gridR (List.getD h4 (Int.toNat x13) (Kd.dflt gridk)).fst (List.getD h4 (Int.toNat x13) (Kd.dflt gridk)).snd.fst)
  let v5 : Bool := (Kd.eqb (.int .i64) x0 x0 && (Kd.eqb (.int .i64) x1 x1 && (Kd.eqb (.int .i64) x2 x2 && (Kd.eqb (.int .i64) x7 x7 && (Kd.eqb (.int .i64) x8 x8 && (Kd.eqb (.int .i64) x9 x9 && (Kd.eqb (.int .i64) x10 x10 && (Kd.eqb (.int .i64) x12 x12 && Kd.eqb (.int .i64) x13 x13))))))) && (Kd.eqb (.int .i64) h0_0 h0_0 && Kd.eqb (Kd.sl link) h0_1 h0_1 && (Kd.eqb Kd.str h1_0 h1_0 && (Kd.eqb (.int .i64) h1_1 h1_1 && (Kd.eqb (.int .i64) h1_2 h1_2 && (Kd.eqb (.int .i64) h1_3 h1_3 && Kd.eqb (.int .i64) h1_4 h1_4))) && (Kd.eqb (.int .i64) h2_0 h2_0 && (Kd.eqb (.int .i64) h2_1 h2_1 && Kd.eqb (.int .i64) h2_2 h2_2) && (Kd.eqb (.int .i64) h3_0 h3_0 && Kd.eqb (Kd.sl link) h3_1 h3_1 && (Kd.eqb (.int .i64) (List.getD h4 (Int.toNat x13) (Kd.dflt gridk)).fst (List.getD h4 (Int.toNat x13) (Kd.dflt gridk)).fst && Kd.eqb (Kd.sl link) (List.getD h4 (Int.toNat x13) (Kd.dflt gridk)).snd.fst (List.getD h4 (Int.toNat x13) (Kd.dflt gridk)).snd.fst && Kd.eqb (Kd.sl gridk) h4 h4))))))
  Tr.ite (decide (x13 < x12))
    (Tr.ite (inB x13 (List.length h4))
      (Tr.ite (inB x13 (4 : Nat))
        (Tr.ite (!decide (List.getD [x7, x8, x9, x10] (Int.toNat x13) (0 : Int) = (0 : Int)))
          (Tr.ret
            (Sum.inl
              ((x0, x1, x2, x7, x8, x9, x10, x12, IntKind.wrap IntKind.i64 (x13 + (1 : Int)), ()), (h0_0, h0_1, ()), (h1_0, h1_1, h1_2, h1_3, h1_4, ()), (h2_0, h2_1, h2_2, ()), (h3_0, h3_1, ()), h4,
                ())))
          (Tr.ite (U.okl (List.getD h4 (Int.toNat x13) (Kd.dflt gridk)).snd.fst)
            (Tr.ite ((bif v4 then true else v5) && v5)
              (Tr.ite (bif v4 then true else bif !decide ((List.getD h4 (Int.toNat x13) (Kd.dflt gridk)).fst = h0_0) then true else !decide (v3 = v1))
                (Tr.ret (Sum.inr (Sum.inl (x0, x1, x2, x7, h0_0, h0_1, h1_0, h1_1, h1_2, h1_3, h1_4, h2_0, h2_1, h2_2, h3_0, h3_1))))
                (Tr.ite
                  (decide (v3 = v2 ∧ (0 : Int) = (0 : Int)) && (okls (List.getD h4 (Int.toNat x13) (Kd.dflt gridk)).snd.fst && U.stays x0 (List.getD h4 (Int.toNat x13) (Kd.dflt gridk)).snd.fst h0_1))
                  (Tr.ret
                    (Sum.inl
                      ((x0, x1, x2, x7, x8, x9, x10, x12, IntKind.wrap IntKind.i64 (x13 + (1 : Int)), ()), (h0_0, h0_1, ()), (h1_0, h1_1, h1_2, h1_3, h1_4, ()), (h2_0, h2_1, h2_2, ()), (h3_0, h3_1, ()),
                        h4, ())))
                  Tr.fail))
              Tr.fail)
            Tr.fail))
        Tr.fail)
      Tr.fail)
    (Tr.ret (Sum.inr (Sum.inr (x0, x1, x2, x7, h0_0, h0_1, h1_0, h1_1, h1_2, h1_3, h1_4, h2_0, h2_1, h2_2, h3_0, h3_1))))
def X11_0 : (Int × Int × Int × Int × Int × List Line × ByteArray × Int × Int × Int × Int × Int × Int × Int × Int × List Line ⊕ Int × Int × Int × Int × Int × List Line × ByteArray × Int × Int × Int × Int × Int × Int × Int × Int × List Line) → Ex × VS
  | (.inl r) => Prod.mk Ex.ret { n := 250, v := [Slot.av (AV.one (Leaf.dat (.int .i64) r.fst)), Slot.av (AV.one (Leaf.dat (.int .i64) r.snd.fst)), Slot.av (AV.one (Leaf.dat (.int .i64) r.snd.snd.fst)), Slot.av (AV.one (Leaf.ptr ( 0) ( 0))), Slot.av (AV.one (Leaf.ptr ( 1) ( 0))), Slot.av (AV.one (Leaf.ptr ( 2) ( 0))), Slot.av (AV.one (Leaf.kb false)), Slot.av (AV.one (Leaf.ptr ( 3) ( 0))), Slot.av (AV.one (Leaf.dat (.int .i64) r.snd.snd.snd.fst))], h := [( 0, Blk.box [Leaf.dat (.int .i64) r.snd.snd.snd.snd.fst, Leaf.dat (Kd.sl link) r.snd.snd.snd.snd.snd.fst]), ( 1, Blk.box [Leaf.dat Kd.str r.snd.snd.snd.snd.snd.snd.fst, Leaf.dat (.int .i64) r.snd.snd.snd.snd.snd.snd.snd.fst, Leaf.dat (.int .i64) r.snd.snd.snd.snd.snd.snd.snd.snd.fst, Leaf.dat (.int .i64) r.snd.snd.snd.snd.snd.snd.snd.snd.snd.fst, Leaf.dat (.int .i64) r.snd.snd.snd.snd.snd.snd.snd.snd.snd.snd.fst]), ( 2, Blk.box [Leaf.dat (.int .i64) r.snd.snd.snd.snd.snd.snd.snd.snd.snd.snd.snd.fst, Leaf.dat (.int .i64) r.snd.snd.snd.snd.snd.snd.snd.snd.snd.snd.snd.snd.fst, Leaf.dat (.int .i64) r.snd.snd.snd.snd.snd.snd.snd.snd.snd.snd.snd.snd.snd.fst]), ( 3, Blk.box [Leaf.dat (.int .i64) r.snd.snd.snd.snd.snd.snd.snd.snd.snd.snd.snd.snd.snd.snd.fst, Leaf.dat (Kd.sl link) r.snd.snd.snd.snd.snd.snd.snd.snd.snd.snd.snd.snd.snd.snd.snd])] }
  | (.inr r) => Prod.mk (Ex.exit ( 0)) { n := 250, v := [Slot.av (AV.one (Leaf.dat (.int .i64) r.fst)), Slot.av (AV.one (Leaf.dat (.int .i64) r.snd.fst)), Slot.av (AV.one (Leaf.dat (.int .i64) r.snd.snd.fst)), Slot.av (AV.one (Leaf.ptr ( 0) ( 0))), Slot.av (AV.one (Leaf.ptr ( 1) ( 0))), Slot.av (AV.one (Leaf.ptr ( 2) ( 0))), Slot.av (AV.one Leaf.undef), Slot.av (AV.one (Leaf.ptr ( 3) ( 0))), Slot.av (AV.one (Leaf.dat (.int .i64) r.snd.snd.snd.fst))], h := [( 0, Blk.box [Leaf.dat (.int .i64) r.snd.snd.snd.snd.fst, Leaf.dat (Kd.sl link) r.snd.snd.snd.snd.snd.fst]), ( 1, Blk.box [Leaf.dat Kd.str r.snd.snd.snd.snd.snd.snd.fst, Leaf.dat (.int .i64) r.snd.snd.snd.snd.snd.snd.snd.fst, Leaf.dat (.int .i64) r.snd.snd.snd.snd.snd.snd.snd.snd.fst, Leaf.dat (.int .i64) r.snd.snd.snd.snd.snd.snd.snd.snd.snd.fst, Leaf.dat (.int .i64) r.snd.snd.snd.snd.snd.snd.snd.snd.snd.snd.fst]), ( 2, Blk.box [Leaf.dat (.int .i64) r.snd.snd.snd.snd.snd.snd.snd.snd.snd.snd.snd.fst, Leaf.dat (.int .i64) r.snd.snd.snd.snd.snd.snd.snd.snd.snd.snd.snd.snd.fst, Leaf.dat (.int .i64) r.snd.snd.snd.snd.snd.snd.snd.snd.snd.snd.snd.snd.snd.fst]), ( 3, Blk.box [Leaf.dat (.int .i64) r.snd.snd.snd.snd.snd.snd.snd.snd.snd.snd.snd.snd.snd.snd.fst, Leaf.dat (Kd.sl link) r.snd.snd.snd.snd.snd.snd.snd.snd.snd.snd.snd.snd.snd.snd.snd])] }
def b11_0 : p11_0.T → Tr (p11_0.T ⊕ (Int × Int × Int × Int × Int × List Line × ByteArray × Int × Int × Int × Int × Int × Int × Int × Int × List Line ⊕ Int × Int × Int × Int × Int × List Line × ByteArray × Int × Int × Int × Int × Int × Int × Int × Int × List Line)) := fun ⟨⟨x0, ⟨x1, ⟨x2, ⟨x7, ⟨x8, ⟨x9, ⟨x10, ⟨x12, ⟨x13, _⟩⟩⟩⟩⟩⟩⟩⟩⟩, ⟨⟨h0_0, ⟨h0_1, _⟩⟩, ⟨⟨h1_0, ⟨h1_1, ⟨h1_2, ⟨h1_3, ⟨h1_4, _⟩⟩⟩⟩⟩, ⟨⟨h2_0, ⟨h2_1, ⟨h2_2, _⟩⟩⟩, ⟨⟨h3_0, ⟨h3_1, _⟩⟩, ⟨h4, _⟩⟩⟩⟩⟩⟩ => B11_0 x0 x1 x2 x7 x8 x9 x10 x12 x13 h0_0 h0_1 h1_0 h1_1 h1_2 h1_3 h1_4 h2_0 h2_1 h2_2 h3_0 h3_1 h4
theorem h11_0 (ls : Nat → VS → Option (Tr (Ex × VS))) (x : p11_0.T) : (evC (evI 2) (lc Tryd.f11 0) (Env.lend (N11 ls) 0) (unV (live11 11) (p11_0.V x))).map (decL 0 (live11 11) (live11 1011)) = (b11_0 x).map (encR p11_0.V X11_0) := by
  obtain ⟨⟨x0, ⟨x1, ⟨x2, ⟨x7, ⟨x8, ⟨x9, ⟨x10, ⟨x12, ⟨x13, _⟩⟩⟩⟩⟩⟩⟩⟩⟩, ⟨⟨h0_0, ⟨h0_1, _⟩⟩, ⟨⟨h1_0, ⟨h1_1, ⟨h1_2, ⟨h1_3, ⟨h1_4, _⟩⟩⟩⟩⟩, ⟨⟨h2_0, ⟨h2_1, ⟨h2_2, _⟩⟩⟩, ⟨⟨h3_0, ⟨h3_1, _⟩⟩, ⟨h4, _⟩⟩⟩⟩⟩⟩ := x; kernel_rfl
theorem c11_0 (x : p11_0.T) : canV 0 (live11 11) (unV (live11 11) (p11_0.V x)) = p11_0.V x := by
  obtain ⟨⟨x0, ⟨x1, ⟨x2, ⟨x7, ⟨x8, ⟨x9, ⟨x10, ⟨x12, ⟨x13, _⟩⟩⟩⟩⟩⟩⟩⟩⟩, ⟨⟨h0_0, ⟨h0_1, _⟩⟩, ⟨⟨h1_0, ⟨h1_1, ⟨h1_2, ⟨h1_3, ⟨h1_4, _⟩⟩⟩⟩⟩, ⟨⟨h2_0, ⟨h2_1, ⟨h2_2, _⟩⟩⟩, ⟨⟨h3_0, ⟨h3_1, _⟩⟩, ⟨h4, _⟩⟩⟩⟩⟩⟩ := x; kernel_rfl
theorem l11_0 {T : p11_0.T → Tr (Int × Int × Int × Int × Int × List Line × ByteArray × Int × Int × Int × Int × Int × Int × Int × Int × List Line ⊕ Int × Int × Int × Int × Int × List Line × ByteArray × Int × Int × Int × Int × Int × Int × Int × Int × List Line)} {ls : Nat → VS → Option (Tr (Ex × VS))} (hls : ∀ x, (Env.lend (N11 ls) 0).ls 11 x = p11_0.ls (fun a => (T a).map X11_0) x) (hS : ∀ x r, (T x).val = some r → Rounds b11_0 x r) : LoopOK (evI 2) (Env.lend (N11 ls) 0) (lc Tryd.f11 0) :=
  loopA 11 (live11 11) (live11 1011) p11_0 b11_0 X11_0 T (by kernel_rfl) rfl rfl hls (h11_0 ls) c11_0 hS
def T11_0 (x : p11_0.T) : Tr (Int × Int × Int × Int × Int × List Line × ByteArray × Int × Int × Int × Int × Int × Int × Int × Int × List Line ⊕ Int × Int × Int × Int × Int × List Line × ByteArray × Int × Int × Int × Int × Int × Int × Int × Int × List Line) :=
  match x with
  | ⟨⟨x0, x1, x2, x7, x8, x9, x10, x12, x13, _⟩, ⟨h0_0, h0_1, _⟩, ⟨h1_0, h1_1, h1_2, h1_3, h1_4, _⟩, ⟨h2_0, h2_1, h2_2, _⟩, ⟨h3_0, h3_1, _⟩, h4, _⟩ =>
    .ite (decide ((x12 : Int) = 4 ∧ (x13 : Int) = 0 ∧ List.length (α := gridk.T) h4 = 4) && allN (fun k => U.good x0 h0_0 h0_1 (List.getD (α := Int) [x7, x8, x9, x10] k 0) (List.getD (α := gridk.T) h4 k (Kd.dflt gridk))) 4 0) (.ret (.inr (x0, x1, x2, x7, h0_0, h0_1, h1_0, h1_1, h1_2, h1_3, h1_4, h2_0, h2_1, h2_2, h3_0, h3_1))) .fail
abbrev E11 : Env := N11 fun key x => bif Nat.beq key 11 then p11_0.ls (fun a => (T11_0 a).map X11_0) x else none
theorem L11_0 : LoopOK (evI 2) (E11.lend 0) (lc Tryd.f11 0) := by
  refine l11_0 (T := T11_0) (fun x => rfl) ?_
  rintro ⟨⟨x0, x1, x2, x7, x8, x9, x10, n, i, z0⟩, ⟨c, g, z1⟩, ⟨h1_0, h1_1, h1_2, h1_3, h1_4, z2⟩, ⟨h2_0, h2_1, h2_2, z3⟩, ⟨h3_0, h3_1, z4⟩, h4, z5⟩ r hh
  obtain ⟨g1, g2⟩ := pre_val hh
  rw [Bool.and_eq_true, all0] at g1
  obtain ⟨g1, gs⟩ := g1
  have g0 : ((n : Int) = 4 ∧ (i : Int) = 0 ∧ h4.length = 4) := of_decide_eq_true g1
  clear g1
  obtain ⟨rfl, rfl, hl⟩ := g0
  cases g2
  have := Rounds.uptoA (B := b11_0) (σ := Unit) (N := 4) (fun i _ => ((x0, x1, x2, x7, x8, x9, x10, (4 : Int), (i : Int), ()), (c, g, ()), (h1_0, h1_1, h1_2, h1_3, h1_4, ()), (h2_0, h2_1, h2_2, ()), (h3_0, h3_1, ()), h4, ())) (fun _ s => s) (fun _ => (.inr (x0, x1, x2, x7, c, g, h1_0, h1_1, h1_2, h1_3, h1_4, h2_0, h2_1, h2_2, h3_0, h3_1))) (fun _ _ => True) (fun i s hi hv => ?_) (fun s hv => ?_) 4 0 () (by omega) trivial
  · exact this
  · refine ⟨?_, trivial⟩
    have hs := gs i hi
    have hg : i < h4.length := by omega
    have d0 : (i : Int) < (4 : Int) := by omega
    simp only [b11_0, B11_0, Tr.val, eqb_self, Int.toNat_natCast, inB_nat hi, inB_nat hg, decide_eq_true d0, Bool.and_self, Bool.and_true, cond_true, wrap64_nat (show i ≤ 1048576 by omega)]
    unfold U.good at hs
    cases he : decide (List.getD [x7, x8, x9, x10] i 0 = 0) with
    | false => simp only [Bool.not_false, cond_true]
    | true =>
      rw [he] at hs
      simp only [Bool.not_true, Bool.false_or, Bool.and_eq_true] at hs
      obtain ⟨s1, s2, s3, s4⟩ := hs
      have s5 : okls (List.getD h4 i (Kd.dflt gridk)).2.1 = true := U.okl_s s1
      have s6 : (List.getD h4 i (Kd.dflt gridk)).2.1.length = g.length := by
        unfold U.stays at s4
        rw [Bool.and_eq_true] at s4
        exact of_decide_eq_true s4.1
      have s7 : decide (((List.getD h4 i (Kd.dflt gridk)).2.1.length : Int) = (g.length : Int)) = true := decide_eq_true (by omega)
      simp only [s1, s2, s3, s4, s5, s7, Bool.not_true, Bool.cond_self, Bool.and_self, and_self, decide_true, cond_true, cond_false]
  · simp only [b11_0, B11_0, Tr.val, show ¬ (((4 : Nat) : Int) < (4 : Int)) by omega, decide_false, cond_false]
def d11 (a1 : Int) (a2 : List Line) (b : Int) (c : Int) (y : Int) (f1 : ByteArray) (f2 : Int) (f31 : Int) (f32 : Int) (f33 : Int) (g1 : Int) (g2 : Int) (g3 : Int) : Tr (Bool) :=
  let v1 : List U.Ln := (U.few a2 (52 : Nat))
  let v2 : Bool := (U.okl v1)
  let v3 : Int := (minI (↑(ByteArray.size f1) : Int) (20 : Int))
  let v4 : Int := ((↑(List.length v1) : Int))
  let v5 : ByteArray := (ByteArray.extract f1 (0 : Nat) (Int.toNat v3))
  let v6 : Bool := (Kd.eqb (.int .i64) a1 a1 && Kd.eqb (Kd.sl link) v1 v1)
  let v7 : Int := (IntKind.wrap IntKind.i64 (v4 - (1 : Int)))
  let v8 : Int := (Int.tmod (IntKind.wrap IntKind.i64 (Int.tmod y (100 : Int) + (100 : Int))) (100 : Int))
  let v9 : Int := (minI v8 (IntKind.wrap IntKind.i64 (v4 - b)))
  let v10 : Bool := (Kd.eqb (.int .i64) v8 v8)
  let v11 : List Line × Int := ((U.rawPut a1 v1 b c (v5, f2, (f31, f32, f33, ()), ())).snd)
  let v12 : List Line := (v11.fst)
  let v13 : Int := (v11.snd)
  let v14 : Int × List U.Ln × Int := (U.rawDown a1 v1 b v7 v8 (g1, g2, g3, ()))
  let v15 : Int × List U.Ln × List U.Ln × Int := (U.rawUp a1 v1 b v7 v8 (g1, g2, g3, ()))
  let v16 : List Line × Int := (v14.snd)
  let v17 : Int := (v14.fst)
  let v18 : Int := (v15.fst)
  let v19 : List Line × List Line × Int := (v15.snd)
  let v20 : Int := (v16.snd)
  let v21 : List Line := (v16.fst)
  let v22 : Bool := (Kd.eqb (.int .i64) b b && v10 && (v6 && (Kd.eqb (.int .i64) g1 g1 && (Kd.eqb (.int .i64) g2 g2 && Kd.eqb (.int .i64) g3 g3))))
  let v23 : List Line × Int := (v19.snd)
  let v24 : List Line := (v19.fst)
  let v25 : Int := ((↑(List.length v21) : Int))
  let v26 : Int := (v23.snd)
  let v27 : List Line := (v23.fst)
  let v28 : Int := ((↑(List.length v24) : Int))
  let v29 : Int := ((↑(List.length v27) : Int))
  let v30 : Bool := (decide (v13 = (0 : Int)))
  let v31 : Bool := (U.gridR v18 v24)
  Tr.ite (decide ((0 : Int) ≤ v3 ∧ v3 ≤ (↑(ByteArray.size f1) : Int)))
    (Tr.ite v2
      (Tr.ite (!U.gridR a1 v1) (Tr.ret true)
        (Tr.ite true
          (Tr.ite true
            (Tr.ite (v2 && decide (ByteArray.size v5 ≤ (1048576 : Nat)))
              (Tr.ite v2
                (Tr.ite v2
                  (Tr.ite v2
                    (Tr.ite
                      (true &&
                        allN
                          (fun (k : Nat) =>
                            U.good b a1 v1
                              (List.getD
                                [v13, (U.rawErase a1 v1 b c (minI (IntKind.wrap IntKind.i64 (c + v8)) a1) (g1, g2, g3, ())).snd.snd, (U.rawIns a1 v1 b c v8 (g1, g2, g3, ())).snd.snd,
                                  (U.rawDel a1 v1 b c v8 (g1, g2, g3, ())).snd.snd]
                                k (0 : Int))
                              (List.getD
                                [((U.rawPut a1 v1 b c (v5, f2, (f31, f32, f33, ()), ())).fst, v12, ()),
                                  ((U.rawErase a1 v1 b c (minI (IntKind.wrap IntKind.i64 (c + v8)) a1) (g1, g2, g3, ())).fst,
                                    (U.rawErase a1 v1 b c (minI (IntKind.wrap IntKind.i64 (c + v8)) a1) (g1, g2, g3, ())).snd.fst, ()),
                                  ((U.rawIns a1 v1 b c v8 (g1, g2, g3, ())).fst, (U.rawIns a1 v1 b c v8 (g1, g2, g3, ())).snd.fst, ()),
                                  ((U.rawDel a1 v1 b c v8 (g1, g2, g3, ())).fst, (U.rawDel a1 v1 b c v8 (g1, g2, g3, ())).snd.fst, ())]
                                k (Kd.dflt gridk)))
                          (4 : Nat) (0 : Nat))
                      (Tr.ite ((bif v30 then inB b (List.length v12) && (inB c (List.length (rget link v12 b).fst) && v22) else true) && v22)
                        (Tr.ite
                          (bif v30 then
                            bif
                                !(decide ((rget celk (rget link v12 b).fst c).fst = v5) &&
                                    (decide ((rget celk (rget link v12 b).fst c).snd.fst = f2) &&
                                      (decide ((rget celk (rget link v12 b).fst c).snd.snd.fst.fst = f31) &&
                                        (decide ((rget celk (rget link v12 b).fst c).snd.snd.fst.snd.fst = f32) && decide ((rget celk (rget link v12 b).fst c).snd.snd.fst.snd.snd.fst = f33))))) then
                              true
                            else false
                          else false)
                          (Tr.ret false)
                          (Tr.ite v2
                            (Tr.ite v2
                              (Tr.ite
                                (Kd.eqb (.int .i64) b b && (v10 && (Kd.eqb (Kd.sl link) v27 v27 && (Kd.eqb (.int .i64) v26 v26 && Kd.eqb (.int .i64) v20 v20))) &&
                                  (v6 && (Kd.eqb (.int .i64) v18 v18 && Kd.eqb (Kd.sl link) v24 v24 && (Kd.eqb (.int .i64) v17 v17 && Kd.eqb (Kd.sl link) v21 v21))))
                                (Tr.ite (bif !decide (v26 = (0 : Int)) then true else !decide (v20 = (0 : Int))) (Tr.ret (decide (v26 = v20)))
                                  (Tr.ite (U.okl v24)
                                    (Tr.ite (bif v31 then U.okl v21 else true)
                                      (Tr.ret (bif v31 then bif U.gridR v17 v21 then bif decide (v28 = v4) then bif decide (v25 = v4) then decide (v29 = v9) else false else false else false else false))
                                      Tr.fail)
                                    Tr.fail))
                                Tr.fail)
                              Tr.fail)
                            Tr.fail))
                        Tr.fail)
                      Tr.fail)
                    Tr.fail)
                  Tr.fail)
                Tr.fail)
              Tr.fail)
            Tr.fail)
          Tr.fail))
      Tr.fail)
    Tr.fail
def e11 (r : Bool) : FRes := { rs := Slot.av (AV.one (Leaf.dat Kd.bool r)), upd := [], new := [] }
@[reducible] def a11 : List AK := [AK.d gridk, AK.d (.int .i64), AK.d (.int .i64), AK.d (.int .i64), AK.d celk, AK.d attk]
@[reducible] def b11 : List BK := []
theorem t11 (a1 : Int) (a2 : List Line) (b : Int) (c : Int) (y : Int) (f1 : ByteArray) (f2 : Int) (f31 : Int) (f32 : Int) (f33 : Int) (g1 : Int) (g2 : Int) (g3 : Int) : evFn (E11) Tryd.f11 [PM.data Kd.bool] (akAV a11 ((a1, a2, ()), b, c, y, (f1, f2, (f31, f32, f33, ()), ()), (g1, g2, g3, ()), ())) (bkBs b11 ()) = (d11 a1 a2 b c y f1 f2 f31 f32 f33 g1 g2 g3).map e11 := by kernel_rfl
def s11' (G : akT a11 → Bool) : FSpec := aspec0 a11 b11 e11 (fun x _ => G x)
theorem k11' {G : akT a11 → Bool} (hd : ∀ (a1 : Int) (a2 : List Line) (b : Int) (c : Int) (y : Int) (f1 : ByteArray) (f2 : Int) (f31 : Int) (f32 : Int) (f33 : Int) (g1 : Int) (g2 : Int) (g3 : Int), (d11 a1 a2 b c y f1 f2 f31 f32 f33 g1 g2 g3).val = some (G ((a1, a2, ()), b, c, y, (f1, f2, (f31, f32, f33, ()), ()), (g1, g2, g3, ()), ()))) (IO : ItOK Tryd.prog (E11) := by exact itOK_none rfl) (L : ∀ c, Tryd.f11.body = some c → LsOK (evI 2) ((E11).lend 0) c := by exact fun c _ => LsOK_none rfl c) : SpecOK Tryd.prog E0 11 (s11' G) :=
  aspec0_ok (ak := a11) (bl := b11) (e := e11) (g := fun x _ => G x) (E0 := E0) (E := E11) tab AG11 rfl rfl hm Tryd.func11 (by kernel_rfl) [PM.data Kd.bool] (fun X Y => by obtain ⟨⟨a1, ⟨a2, _⟩⟩, ⟨b, ⟨c, ⟨y, ⟨⟨f1, ⟨f2, ⟨⟨f31, ⟨f32, ⟨f33, _⟩⟩⟩, _⟩⟩⟩, ⟨⟨g1, ⟨g2, ⟨g3, _⟩⟩⟩, _⟩⟩⟩⟩⟩⟩ := X; exact val_of (t11 a1 a2 b c y f1 f2 f31 f32 f33 g1 g2 g3) (hd a1 a2 b c y f1 f2 f31 f32 f33 g1 g2 g3)) IO L
end Go.Proofs.YtmnbcnhpklejcaaDoor

end
section
set_option linter.unusedVariables false
set_option linter.unusedSimpArgs false
set_option maxRecDepth 20000
set_option maxHeartbeats 4000000
open Go Go.Ev
namespace U
theorem look_blank {a : Int × Int × Int × Unit} (h : look a = true) : cellR (blank a) = true := by
  have hi : inn a.2.1 0 256 = true := by
    unfold look at h
    simp only [Bool.and_eq_true] at h
    exact h.2.1
  unfold cellR
  rw [if_pos (show (blank a).1.size = 0 from rfl)]
  unfold look
  simp only [blank, hi, Bool.and_eq_true]
  decide
theorem cell_look {c : Cl} (h : cellR c = true) : look c.2.2.1 = true := by
  unfold cellR at h
  split at h
  · rw [Bool.and_eq_true] at h; exact h.1
  · split at h
    · rw [Bool.and_eq_true] at h; exact h.1
    · cases h
theorem look_half {a : Int × Int × Int × Unit} (h : look a = true) : cellR (ByteArray.empty, 0, a, ()) = true := by
  unfold cellR
  rw [if_pos (show (ByteArray.empty, (0 : Int), a, ()).1.size = 0 from rfl)]
  rw [Bool.and_eq_true]
  exact ⟨h, show inn 0 0 1 = true by decide⟩
theorem cell_wide {c : Cl} (h : cellR c = true) (h0 : c.1.size ≠ 0) : c.2.1 = 1 ∨ c.2.1 = 2 := by
  unfold cellR at h
  rw [if_neg h0] at h
  split at h
  · rename_i hw
    have := inn_iff.1 hw.2.1
    omega
  · cases h
theorem gridR_iff {c : Int} {l : List Ln} : gridR c l = true ↔ 1 ≤ c ∧ c ≤ 80 ∧ 1 ≤ l.length ∧ l.length ≤ 50 ∧ ∀ y ∈ l, fitC y.1 = true ∧ (y.1.length : Int) = c := by
  unfold gridR
  simp only [Bool.and_eq_true, inn_iff, Bool.not_eq_true', List.any_eq_false]
  constructor
  · rintro ⟨h1, h2, h3⟩
    refine ⟨by omega, by omega, by omega, by omega, fun y hy => ?_⟩
    have := h3 y hy
    unfold misfit at this
    simpa using this
  · rintro ⟨h1, h2, h3, h4, h5⟩
    refine ⟨by omega, by omega, fun y hy => ?_⟩
    have := h5 y hy
    unfold misfit
    simp [this.1, this.2]
theorem lines_ok {c : Int} {l X : List Ln} (hR : gridR c l = true) (hk : okl l = true) (hl : X.length = l.length) (h : ∀ y ∈ X, y ∈ l ∨ (fitC y.1 = true ∧ (y.1.length : Int) = c ∧ okc y.1 = true)) : okl X = true ∧ gridR c X = true := by
  obtain ⟨r1, r2, r3, r4, r5⟩ := gridR_iff.1 hR
  obtain ⟨k1, k2⟩ := okl_iff.1 hk
  refine ⟨okl_iff.2 ⟨by omega, fun y hy => ?_⟩, gridR_iff.2 ⟨r1, r2, by omega, by omega, fun y hy => ?_⟩⟩
  · rcases h y hy with h | h
    · exact k2 y h
    · exact h.2.2
  · rcases h y hy with h | h
    · exact r5 y h
    · exact ⟨h.1, h.2.1⟩
theorem good_set {c : Int} {l : List Ln} {r : Nat} {m : List Cl} (hR : gridR c l = true) (hk : okl l = true) (hr : r < l.length) (hm : (m.length : Int) = c) (hc : ∀ x ∈ m, cellR x = true) (ho : ∀ x ∈ m, x.1.size ≤ 1048576) :
    good (r : Int) c l 0 (c, setC l r m, ()) = true := by
  obtain ⟨r1, r2, r3, r4, r5⟩ := gridR_iff.1 hR
  have hX := lines_ok (X := setC l r m) hR hk (by unfold setC; rw [List.length_set]) fun y hy => by
    unfold setC at hy
    rcases List.mem_or_eq_of_mem_set hy with h | h
    · exact .inl h
    · right
      rw [h]
      exact ⟨mend_fit hc, by show ((mend m).length : Int) = c; rw [mend_len]; exact hm, mend_ok (okc_iff.2 ⟨by omega, ho⟩)⟩
  unfold good
  simp only [hX.1, hX.2, decide_true, Bool.not_true, Bool.false_or, Bool.true_and]
  unfold stays
  rw [Bool.and_eq_true, all0]
  refine ⟨decide_eq_true (by unfold setC; rw [List.length_set]), fun i hi => ?_⟩
  have hi' : i < l.length := by unfold setC at hi; rwa [List.length_set] at hi
  have e : (setC l r m).getD i dL = if r = i then (mend m, (l.getD r dL).2) else l.getD i dL := getD_set hi'
  rw [e]
  by_cases h : r = i
  · subst h
    simp
  · have h2 : ¬ (i : Int) = (r : Int) := fun h' => h (Int.ofNat.inj h').symm
    simp [h, h2, eqL_refl]
theorem mem_putC {l : List Cl} {i : Nat} {c x : Cl} (h : x ∈ putC l i c) : x ∈ l ∨ x = c ∨ x = (ByteArray.empty, 0, c.2.2.1, ()) := by
  unfold putC at h
  split at h
  · rcases List.mem_or_eq_of_mem_set h with h | h
    · rcases List.mem_or_eq_of_mem_set h with h | h
      · exact .inl h
      · exact .inr (.inl h)
    · exact .inr (.inr h)
  · rcases List.mem_or_eq_of_mem_set h with h | h
    · exact .inl h
    · exact .inr (.inl h)
theorem mem_blankC {l : List Cl} {f t : Nat} {a : Int × Int × Int × Unit} {x : Cl} (h : x ∈ blankC l f t a) : x ∈ l ∨ x = blank a := by
  unfold blankC putAt at h
  simp only [List.mem_append] at h
  rcases h with h | h | h
  · exact .inl (List.mem_of_mem_take h)
  · exact .inr (List.eq_of_mem_replicate h)
  · exact .inl (List.mem_of_mem_drop h)
theorem mem_insC {l : List Cl} {n k : Nat} {a : Int × Int × Int × Unit} {x : Cl} (h : x ∈ insC l n k a) : x ∈ l ∨ x = blank a := by
  unfold insC at h
  simp only [List.mem_append] at h
  rcases h with h | h | h
  · exact .inl (List.mem_of_mem_take h)
  · exact .inr (List.eq_of_mem_replicate h)
  · exact .inl (List.mem_of_mem_drop (List.mem_of_mem_take h))
theorem mem_delC {l : List Cl} {n k : Nat} {a : Int × Int × Int × Unit} {x : Cl} (h : x ∈ delC l n k a) : x ∈ l ∨ x = blank a := by
  unfold delC at h
  simp only [List.mem_append] at h
  rcases h with h | h | h
  · exact .inl (List.mem_of_mem_take h)
  · exact .inl (List.mem_of_mem_drop h)
  · exact .inr (List.eq_of_mem_replicate h)
theorem mend_keep {l : List Cl} {j : Nat} (hj : j < l.length) (h : cw l j = 1 ∨ (cw l j = 2 ∧ j + 1 < l.length ∧ cw l (j + 1) = 0)) : (mend l).getD j dC = l.getD j dC := by
  have one : ∀ (m : List Cl) (i : Nat), m.length = l.length → m.getD j dC = l.getD j dC → (i ≤ j → j + 1 < l.length → m.getD (j + 1) dC = l.getD (j + 1) dC) → i < l.length →
      (mendAt i m).getD j dC = l.getD j dC ∧ (i + 1 ≤ j → j + 1 < l.length → (mendAt i m).getD (j + 1) dC = l.getD (j + 1) dC) := by
    intro m i hl h1 h2 hi
    by_cases e : i = j
    · subst e
      have hw : whole m i = true := by
        unfold whole cw
        rw [h1]
        rcases h with h | ⟨h, h3, h4⟩
        · have : (l.getD i dC).2.1 = 1 := h
          rw [this, if_neg (by decide), if_neg (by decide)]
        · have e2 : (l.getD i dC).2.1 = 2 := h
          have e3 : (m.getD (i + 1) dC).2.1 = 0 := by rw [h2 (Nat.le_refl i) h3]; exact h4
          rw [if_pos e2, e3]
          simp [hl, h3]
      rw [mendAt_eq hw]
      exact ⟨h1, fun h => by omega⟩
    · have ne : ∀ q, q ≠ i → (mendAt i m).getD q dC = m.getD q dC := by
        intro q hq
        unfold mendAt
        split
        · rfl
        · rw [List.getD_eq_getElem?_getD, List.getElem?_set_ne (fun h => hq h.symm), ← List.getD_eq_getElem?_getD]
      exact ⟨by rw [ne j (fun h => e h.symm)]; exact h1, fun h3 h4 => by rw [ne (j + 1) (by omega)]; exact h2 (by omega) h4⟩
  have all : ∀ (k i : Nat) (m : List Cl), i + k = l.length → m.length = l.length → m.getD j dC = l.getD j dC → (i ≤ j → j + 1 < l.length → m.getD (j + 1) dC = l.getD (j + 1) dC) →
      ((List.range' i k).foldl (fun m i => mendAt i m) m).getD j dC = l.getD j dC := by
    intro k
    induction k with
    | zero => intro i m _ _ h1 _; exact h1
    | succ k ih =>
      intro i m hi hl h1 h2
      obtain ⟨a, b⟩ := one m i hl h1 h2 (by omega)
      rw [List.range'_succ, List.foldl_cons]
      exact ih (i + 1) _ (by omega) (by rw [mendAt_len]; exact hl) a b
  exact all l.length 0 l (by omega) rfl rfl fun _ _ => rfl
theorem bare_fit {n : Nat} {a : Int × Int × Int × Unit} (h : look a = true) : fitC (List.replicate n (blank a)) = true := by
  refine fitC_iff.2 ⟨fun c hc => by rw [List.eq_of_mem_replicate hc]; exact look_blank h, fun j hj => ?_⟩
  rw [List.length_replicate] at hj
  unfold whole cw
  rw [getD_el (by rw [List.length_replicate]; exact hj), List.getElem_replicate, if_neg (show ¬ (blank a).2.1 = 2 from by show ¬ (1 : Int) = 2; decide), if_neg (show ¬ (blank a).2.1 = 0 from by show ¬ (1 : Int) = 0; decide)]
theorem bareL_ok {c : Int} {a : Int × Int × Int × Unit} (h : look a = true) (h1 : 1 ≤ c) (h2 : c ≤ 80) : fitC (bareL c a).1 = true ∧ ((bareL c a).1.length : Int) = c ∧ okc (bareL c a).1 = true := by
  refine ⟨bare_fit h, ?_, okc_iff.2 ⟨?_, fun x hx => ?_⟩⟩
  · show ((List.replicate c.toNat (blank a)).length : Int) = c
    rw [List.length_replicate]; omega
  · show (List.replicate c.toNat (blank a)).length ≤ _
    rw [List.length_replicate]; omega
  · have hx : x = blank a := List.eq_of_mem_replicate hx
    rw [hx]
    exact Nat.zero_le _
theorem tmod_nat {x : Int} (h : 0 ≤ x) : 0 ≤ x.tmod 100 ∧ x.tmod 100 < 100 := by
  rw [Int.tmod_eq_emod_of_nonneg h]
  omega
theorem cnt100 (y : Int) : 0 ≤ Int.tmod (IntKind.wrap IntKind.i64 (Int.tmod y 100 + 100)) 100 ∧ Int.tmod (IntKind.wrap IntKind.i64 (Int.tmod y 100 + 100)) 100 < 100 := by
  have h1 : -100 < Int.tmod y 100 ∧ Int.tmod y 100 < 100 := by
    have := Int.tmod_lt_of_pos y (show (0 : Int) < 100 by omega)
    have h2 := Int.lt_tmod_of_pos y (show (0 : Int) < 100 by omega)
    omega
  rw [w64 (by omega) (by omega)]
  exact tmod_nat (by omega)
end U
namespace U
theorem good_bad {row c : Int} {l : List Ln} {e : Int} {g : Int × List Ln × Unit} (h : e ≠ 0) : good row c l e g = true := by
  unfold good
  simp [h]
theorem good_put {c : Int} {l : List Ln} {row col : Int} {x : Cl} (hR : gridR c l = true) (hk : okl l = true) (ht : x.1.size ≤ 1048576) : good row c l (rawPut c l row col x).2.2 ((rawPut c l row col x).1, (rawPut c l row col x).2.1, ()) = true := by
  unfold rawPut
  split
  · rename_i h
    obtain ⟨h1, h2, h3⟩ := h
    split
    · exact good_bad (by decide)
    · obtain ⟨p1, p2, p3, p4, p5⟩ := place_at h1
      obtain ⟨r, rfl⟩ := Int.eq_ofNat_of_zero_le p1
      have hr : r < l.length := Int.ofNat_lt.1 p2
      have hy := p5 _ (getD_mem hr)
      have hf := (fitC_iff.1 hy.1).1
      have hz := (okc_iff.1 ((okl_iff.1 hk).2 _ (getD_mem hr))).2
      refine good_set hR hk hr (m := putC (l.getD r dL).1 col.toNat x) (by rw [putC_len]; exact hy.2) (fun y hy' => ?_) (fun y hy' => ?_)
      · rcases mem_putC hy' with h | rfl | rfl
        · exact hf y h
        · exact h2
        · exact look_half (cell_look h2)
      · rcases mem_putC hy' with h | rfl | rfl
        · exact hz y h
        · exact ht
        · exact Nat.zero_le _
  · exact good_bad (by decide)
theorem good_erase {c : Int} {l : List Ln} {row f t : Int} {a : Int × Int × Int × Unit} (hR : gridR c l = true) (hk : okl l = true) : good row c l (rawErase c l row f t a).2.2 ((rawErase c l row f t a).1, (rawErase c l row f t a).2.1, ()) = true := by
  unfold rawErase
  split
  · rename_i h
    obtain ⟨h1, h2, h3, h4⟩ := h
    have h2 := inn_iff.1 h2
    obtain ⟨p1, p2, p3, p4, p5⟩ := place_at h1
    obtain ⟨r, rfl⟩ := Int.eq_ofNat_of_zero_le p1
    have hr : r < l.length := Int.ofNat_lt.1 p2
    have hy := p5 _ (getD_mem hr)
    have hf := (fitC_iff.1 hy.1).1
    have hz := (okc_iff.1 ((okl_iff.1 hk).2 _ (getD_mem hr))).2
    have hl : (blankC (l.getD r dL).1 f.toNat t.toNat a).length = (l.getD r dL).1.length := putAt_len (by rw [List.length_replicate]; omega)
    refine good_set hR hk hr (m := blankC (l.getD r dL).1 f.toNat t.toNat a) (by rw [hl]; exact hy.2) (fun y hy' => ?_) (fun y hy' => ?_)
    · rcases mem_blankC hy' with h | rfl
      · exact hf y h
      · exact look_blank h4
    · rcases mem_blankC hy' with h | rfl
      · exact hz y h
      · exact Nat.zero_le _
  · exact good_bad (by decide)
theorem good_ins {c : Int} {l : List Ln} {row col n : Int} {a : Int × Int × Int × Unit} (hR : gridR c l = true) (hk : okl l = true) : good row c l (rawIns c l row col n a).2.2 ((rawIns c l row col n a).1, (rawIns c l row col n a).2.1, ()) = true := by
  unfold rawIns
  cases hM : (place c l row col && (decide (0 ≤ n) && look a)) with
  | false => exact good_bad (show (1 : Int) ≠ 0 by decide)
  | true =>
    simp only [Bool.and_eq_true, decide_eq_true_eq] at hM
    obtain ⟨h1, h2, h4⟩ := hM
    obtain ⟨p1, p2, p3, p4, p5⟩ := place_at h1
    obtain ⟨r, rfl⟩ := Int.eq_ofNat_of_zero_le p1
    have hr : r < l.length := Int.ofNat_lt.1 p2
    have hy := p5 _ (getD_mem hr)
    have hf := (fitC_iff.1 hy.1).1
    have hz := (okc_iff.1 ((okl_iff.1 hk).2 _ (getD_mem hr))).2
    refine good_set hR hk hr (m := insC (l.getD r dL).1 n.toNat col.toNat a) (by rw [insC_len _ _ _ _ (by omega)]; exact hy.2) (fun y hy' => ?_) (fun y hy' => ?_)
    · rcases mem_insC hy' with h | rfl
      · exact hf y h
      · exact look_blank h4
    · rcases mem_insC hy' with h | rfl
      · exact hz y h
      · exact Nat.zero_le _
theorem good_del {c : Int} {l : List Ln} {row col n : Int} {a : Int × Int × Int × Unit} (hR : gridR c l = true) (hk : okl l = true) : good row c l (rawDel c l row col n a).2.2 ((rawDel c l row col n a).1, (rawDel c l row col n a).2.1, ()) = true := by
  unfold rawDel
  cases hM : (place c l row col && (decide (0 ≤ n) && look a)) with
  | false => exact good_bad (show (1 : Int) ≠ 0 by decide)
  | true =>
    simp only [Bool.and_eq_true, decide_eq_true_eq] at hM
    obtain ⟨h1, h2, h4⟩ := hM
    obtain ⟨p1, p2, p3, p4, p5⟩ := place_at h1
    obtain ⟨r, rfl⟩ := Int.eq_ofNat_of_zero_le p1
    have hr : r < l.length := Int.ofNat_lt.1 p2
    have hy := p5 _ (getD_mem hr)
    have hf := (fitC_iff.1 hy.1).1
    have hz := (okc_iff.1 ((okl_iff.1 hk).2 _ (getD_mem hr))).2
    refine good_set hR hk hr (m := delC (l.getD r dL).1 n.toNat col.toNat a) (by rw [delC_len _ _ _ _ (by omega)]; exact hy.2) (fun y hy' => ?_) (fun y hy' => ?_)
    · rcases mem_delC hy' with h | rfl
      · exact hf y h
      · exact look_blank h4
    · rcases mem_delC hy' with h | rfl
      · exact hz y h
      · exact Nat.zero_le _
theorem put_there {c : Int} {l : List Ln} {row col : Int} {x : Cl} (h : (rawPut c l row col x).2.2 = 0) :
    inB row (rawPut c l row col x).2.1.length = true ∧ inB col ((rawPut c l row col x).2.1.getD row.toNat dL).1.length = true ∧ ((rawPut c l row col x).2.1.getD row.toNat dL).1.getD col.toNat dC = x := by
  unfold rawPut at h ⊢
  split
  · rename_i h0
    obtain ⟨h1, h2, h3⟩ := h0
    rw [if_pos ⟨h1, h2, h3⟩] at h
    split
    · rename_i h4
      rw [if_pos h4] at h
      cases h
    · rename_i h4
      obtain ⟨p1, p2, p3, p4, p5⟩ := place_at h1
      obtain ⟨r, rfl⟩ := Int.eq_ofNat_of_zero_le p1
      obtain ⟨k, rfl⟩ := Int.eq_ofNat_of_zero_le p3
      have hr : r < l.length := Int.ofNat_lt.1 p2
      have hy := p5 _ (getD_mem hr)
      have hk : k < (l.getD r dL).1.length := by omega
      simp only [Int.toNat_natCast]
      have e : (setL l r fun m => putC m k x).getD r dL = (mend (putC (l.getD r dL).1 k x), (l.getD r dL).2) := by
        unfold setL
        rw [getD_set hr, if_pos rfl]
      rw [e]
      have hl : (mend (putC (l.getD r dL).1 k x)).length = (l.getD r dL).1.length := by rw [mend_len, putC_len]
      refine ⟨by unfold setL; rw [List.length_set]; exact inB_nat hr, by rw [hl]; exact inB_nat hk, ?_⟩
      have hw := cell_wide h2 h3
      have c0 : (putC (l.getD r dL).1 k x).getD k dC = x := by
        rw [putC_at hk, if_neg (by omega), if_pos rfl]
      rw [mend_keep (by rw [putC_len]; exact hk) ?_]
      · exact c0
      · have c1 : cw (putC (l.getD r dL).1 k x) k = x.2.1 := by unfold cw; rw [c0]
        rw [c1, putC_len]
        rcases hw with hw | hw
        · exact .inl hw
        · right
          have hk2 : k + 1 < (l.getD r dL).1.length := by
            have : ¬ ((k : Int) = c - 1) := fun h => h4 ⟨hw, h⟩
            omega
          refine ⟨hw, hk2, ?_⟩
          unfold cw
          rw [putC_at hk2, if_pos ⟨hw, rfl⟩]
  · rename_i h0
    rw [if_neg h0] at h
    cases h
end U
namespace Go.Proofs.YtmnbcnhpklejcaaDoor
open Go.RowKit
theorem law11 (a1 : Int) (a2 : List Line) (b : Int) (c : Int) (y : Int) (f1 : ByteArray) (f2 : Int) (f31 : Int) (f32 : Int) (f33 : Int) (g1 : Int) (g2 : Int) (g3 : Int) : (d11 a1 a2 b c y f1 f2 f31 f32 f33 g1 g2 g3).val = some true := by
  have k1 := U.few_ok a2 (n := 52) (by omega)
  have hm : minI (f1.size : Int) 20 = ((min f1.size 20 : Nat) : Int) := minI_nat _ 20
  have hs : (f1.extract 0 (min f1.size 20)).size ≤ 1048576 := by rw [ByteArray.size_extract]; omega
  have e0 : (0 : Int) ≤ ((min f1.size 20 : Nat) : Int) ∧ ((min f1.size 20 : Nat) : Int) ≤ (f1.size : Int) := by omega
  have hn := U.cnt100 y
  unfold d11
  simp only [hm, Int.toNat_natCast, eqb_self, Bool.and_self, Bool.and_true, k1, hs, e0, decide_true, Bool.true_and, Tr.val, cond_true, cond_false, and_self, Bool.cond_self]
  generalize U.few a2 52 = l at k1 ⊢
  generalize f1.extract 0 (min f1.size 20) = t at hs ⊢
  generalize Int.tmod (IntKind.wrap IntKind.i64 (Int.tmod y 100 + 100)) 100 = n at hn ⊢
  generalize hA : ((g1, g2, g3, ()) : Attr) = A
  generalize hX : ((t, f2, (f31, f32, f33, ()), ()) : Cell) = x
  cases hR : U.gridR a1 l with
  | false => rfl
  | true =>
    have ht : x.1.size ≤ 1048576 := by rw [← hX]; exact hs
    have hall : allN (fun (k : Nat) => U.good b a1 l
        (List.getD [(U.rawPut a1 l b c x).2.2, (U.rawErase a1 l b c (minI (IntKind.wrap IntKind.i64 (c + n)) a1) A).2.2, (U.rawIns a1 l b c n A).2.2, (U.rawDel a1 l b c n A).2.2] k 0)
        (List.getD [((U.rawPut a1 l b c x).1, (U.rawPut a1 l b c x).2.1, ()), ((U.rawErase a1 l b c (minI (IntKind.wrap IntKind.i64 (c + n)) a1) A).1, (U.rawErase a1 l b c (minI (IntKind.wrap IntKind.i64 (c + n)) a1) A).2.1, ()), ((U.rawIns a1 l b c n A).1, (U.rawIns a1 l b c n A).2.1, ()), ((U.rawDel a1 l b c n A).1, (U.rawDel a1 l b c n A).2.1, ())] k (Kd.dflt gridk))) 4 0 = true := by
      rw [all0]
      intro j hj
      match j, hj with
      | 0, _ => exact U.good_put hR k1 ht
      | 1, _ => exact U.good_erase hR k1
      | 2, _ => exact U.good_ins hR k1
      | 3, _ => exact U.good_del hR k1
    have tail : (bif (bif !decide ((U.rawUp a1 l b (IntKind.wrap IntKind.i64 ((l.length : Int) - 1)) n A).2.2.2 = 0) then true else !decide ((U.rawDown a1 l b (IntKind.wrap IntKind.i64 ((l.length : Int) - 1)) n A).2.2 = 0)) then
          some (decide ((U.rawUp a1 l b (IntKind.wrap IntKind.i64 ((l.length : Int) - 1)) n A).2.2.2 = (U.rawDown a1 l b (IntKind.wrap IntKind.i64 ((l.length : Int) - 1)) n A).2.2)) else
        bif U.okl (U.rawUp a1 l b (IntKind.wrap IntKind.i64 ((l.length : Int) - 1)) n A).2.1 then
          bif bif U.gridR (U.rawUp a1 l b (IntKind.wrap IntKind.i64 ((l.length : Int) - 1)) n A).1 (U.rawUp a1 l b (IntKind.wrap IntKind.i64 ((l.length : Int) - 1)) n A).2.1 then U.okl (U.rawDown a1 l b (IntKind.wrap IntKind.i64 ((l.length : Int) - 1)) n A).2.1 else true then
            some (bif U.gridR (U.rawUp a1 l b (IntKind.wrap IntKind.i64 ((l.length : Int) - 1)) n A).1 (U.rawUp a1 l b (IntKind.wrap IntKind.i64 ((l.length : Int) - 1)) n A).2.1 then bif U.gridR (U.rawDown a1 l b (IntKind.wrap IntKind.i64 ((l.length : Int) - 1)) n A).1 (U.rawDown a1 l b (IntKind.wrap IntKind.i64 ((l.length : Int) - 1)) n A).2.1 then
              bif decide (((U.rawUp a1 l b (IntKind.wrap IntKind.i64 ((l.length : Int) - 1)) n A).2.1.length : Int) = (l.length : Int)) then bif decide (((U.rawDown a1 l b (IntKind.wrap IntKind.i64 ((l.length : Int) - 1)) n A).2.1.length : Int) = (l.length : Int)) then decide (((U.rawUp a1 l b (IntKind.wrap IntKind.i64 ((l.length : Int) - 1)) n A).2.2.1.length : Int) = minI n (IntKind.wrap IntKind.i64 ((l.length : Int) - b))) else false else false else false else false) else none
        else none) = some true := by
      unfold U.rawUp U.rawDown
      obtain ⟨r1, r2, r3, r4, r5⟩ := U.gridR_iff.1 hR
      have ew : IntKind.wrap IntKind.i64 ((l.length : Int) - 1) = ((l.length - 1 : Nat) : Int) := by rw [Go.Ev.w64 (by omega) (by omega)]; omega
      rw [ew]
      cases hG : U.region a1 l b ((l.length - 1 : Nat) : Int) n A with
      | false => rfl
      | true =>
        have hl : U.look A = true := by
          unfold U.region at hG
          simp only [Bool.and_eq_true] at hG
          exact hG.2.2.2.2
        obtain ⟨b0, b', n', rfl, e1, rfl, h1, h2, h3, h4, h5, h6⟩ := U.region_at hG
        have e1 : l.length - 1 = b' := by omega
        rw [e1]
        have hm : U.cnt (b0 : Int) (b' : Int) (n' : Int) ≤ b' + 1 - b0 := by unfold U.cnt; omega
        have ok1 := U.lines_ok (X := U.upL l b0 b' (U.cnt (b0 : Int) (b' : Int) (n' : Int)) (U.bareL a1 A)) hR k1 (U.upL_len h1 h2 hm) fun y hy => by
          rcases U.upL_mem hy with h | rfl
          · exact .inl h
          · exact .inr (U.bareL_ok hl r1 r2)
        have ok2 := U.lines_ok (X := U.downL l b0 b' (U.cnt (b0 : Int) (b' : Int) (n' : Int)) (U.bareL a1 A)) hR k1 (U.downL_len h1 h2 hm) fun y hy => by
          rcases U.downL_mem hy with h | rfl
          · exact .inl h
          · exact .inr (U.bareL_ok hl r1 r2)
        have l1 := U.upL_len (x := U.bareL a1 A) h1 h2 hm
        have l2 := U.downL_len (x := U.bareL a1 A) h1 h2 hm
        have e2 : IntKind.wrap IntKind.i64 ((l.length : Int) - (b0 : Int)) = ((l.length - b0 : Nat) : Int) := by rw [Go.Ev.w64 (by omega) (by omega)]; omega
        have l3 : ((List.drop b0 (List.take (b0 + U.cnt (b0 : Int) (b' : Int) (n' : Int)) l)).length : Int) = minI (n' : Int) (IntKind.wrap IntKind.i64 ((l.length : Int) - (b0 : Int))) := by
          rw [e2, minI_nat, List.length_drop, List.length_take]
          unfold U.cnt
          simp only [Int.toNat_natCast]
          omega
        simp only [Int.toNat_natCast, cond_true, cond_false, decide_true, ok1.1, ok1.2, ok2.1, ok2.2, l1, l2, l3, Bool.not_true]
    simp only [hall, cond_true, cond_false, Bool.not_true]
    cases hE : decide ((U.rawPut a1 l b c x).2.2 = 0) with
    | false =>
      simp only [cond_true, cond_false]
      exact tail
    | true =>
      obtain ⟨q1, q2, q3⟩ := U.put_there (of_decide_eq_true hE)
      have e1 : rget link (U.rawPut a1 l b c x).2.1 b = (U.rawPut a1 l b c x).2.1.getD b.toNat U.dL := rfl
      have e2 : ∀ m : List Cell, rget celk m c = m.getD c.toNat U.dC := fun _ => rfl
      simp only [e1, e2, q1, q2, q3, cond_true, cond_false, Bool.and_self]
      rw [← hX]
      simp only [decide_true, Bool.and_self, Bool.not_true, cond_false]
      exact tail
abbrev w11 : FSpec := s11' fun _ => true
theorem wk11 : SpecOK Tryd.prog E0 11 w11 := k11' (fun a1 a2 b c y f1 f2 f31 f32 f33 g1 g2 g3 => law11 a1 a2 b c y f1 f2 f31 f32 f33 g1 g2 g3) (L := ls_ok (lcs := [lc Tryd.f11 0, lc Tryd.f11 1]) (rgs := []) (by kernel_rfl) (by kernel_rfl) ⟨L11_0, L11_1⟩ trivial)
end Go.Proofs.YtmnbcnhpklejcaaDoor

end
