/- Part 5 of what the proof leans on: an evaluator of Go code over plain data, with its soundness; contracts of functions; laws of plain data. -/
import Derived.Test.YtmnbcnhpklejcaaDoorZk4
section
set_option linter.unusedVariables false
set_option linter.unusedSimpArgs false
set_option maxRecDepth 20000
set_option maxHeartbeats 4000000
open Go Go.Ev
namespace U
def ins1 (l : List Cl) (k : Nat) (a : Int × Int × Int × Unit) : List Cl := l.take k ++ (blank a :: (l.take (l.length - 1)).drop k)
def del1 (l : List Cl) (k : Nat) (a : Int × Int × Int × Unit) : List Cl := l.take k ++ (l.drop (k + 1) ++ [blank a])
theorem insC_zero (l : List Cl) (k : Nat) (a : Int × Int × Int × Unit) : insC l 0 k a = l := by
  unfold insC
  rw [Nat.zero_min, Nat.sub_zero, List.replicate_zero, List.nil_append, List.take_of_length_le (l := l.drop k) (by rw [List.length_drop]; omega), List.take_append_drop]
theorem delC_zero (l : List Cl) (k : Nat) (a : Int × Int × Int × Unit) : delC l 0 k a = l := by
  unfold delC
  rw [Nat.zero_min, Nat.add_zero, List.replicate_zero, List.append_nil, List.take_append_drop]
theorem ins1_C {l : List Cl} {k : Nat} {a : Int × Int × Int × Unit} (j : Nat) (hk : k < l.length) : ins1 (insC l j k a) k a = insC l (j + 1) k a := by
  have hl := insC_len l j k a (by omega)
  unfold ins1
  rw [hl]
  have ht : (insC l j k a).take k = l.take k := by
    unfold insC
    rw [List.take_left' (by rw [List.length_take]; omega)]
  have hd : ((insC l j k a).take (l.length - 1)).drop k = (List.replicate (min j (l.length - k)) (blank a) ++ (l.drop k).take (l.length - k - min j (l.length - k))).take (l.length - 1 - k) := by
    rw [List.drop_take]
    unfold insC
    rw [List.drop_left' (by rw [List.length_take]; omega)]
  rw [ht, hd]
  unfold insC
  congr 1
  rcases Nat.lt_or_ge j (l.length - k) with h | h
  · have e1 : min j (l.length - k) = j := by omega
    have e2 : min (j + 1) (l.length - k) = j + 1 := by omega
    rw [e1, e2, List.take_append, List.length_replicate, List.take_of_length_le (l := List.replicate j (blank a)) (by rw [List.length_replicate]; omega), List.take_take, List.replicate_succ, List.cons_append]
    congr 3
    omega
  · have e1 : min j (l.length - k) = l.length - k := by omega
    have e2 : min (j + 1) (l.length - k) = l.length - k := by omega
    rw [e1, e2, Nat.sub_self, List.take_zero, List.append_nil, List.take_replicate]
    have e3 : l.length - k = (l.length - 1 - k) + 1 := by omega
    have e4 : min (l.length - 1 - k) (l.length - k) = l.length - 1 - k := by omega
    rw [e4, e3, List.replicate_succ]
theorem del1_C {l : List Cl} {k : Nat} {a : Int × Int × Int × Unit} (j : Nat) (hk : k < l.length) : del1 (delC l j k a) k a = delC l (j + 1) k a := by
  unfold del1
  have ht : (delC l j k a).take k = l.take k := by
    unfold delC
    rw [List.take_left' (by rw [List.length_take]; omega)]
  have hd : (delC l j k a).drop (k + 1) = (l.drop (k + min j (l.length - k)) ++ List.replicate (min j (l.length - k)) (blank a)).drop 1 := by
    rw [← List.drop_drop]
    unfold delC
    rw [List.drop_left' (by rw [List.length_take]; omega)]
  rw [ht, hd]
  unfold delC
  congr 1
  rcases Nat.lt_or_ge j (l.length - k) with h | h
  · have e1 : min j (l.length - k) = j := by omega
    have e2 : min (j + 1) (l.length - k) = j + 1 := by omega
    rw [e1, e2, List.drop_append, List.drop_drop, List.length_drop, show 1 - (l.length - (k + j)) = 0 by omega, List.drop_zero, List.append_assoc, ← List.replicate_succ']
    rfl
  · have e1 : min j (l.length - k) = l.length - k := by omega
    have e2 : min (j + 1) (l.length - k) = l.length - k := by omega
    have e3 : k + (l.length - k) = l.length := by omega
    rw [e1, e2, e3, List.drop_length, List.nil_append, List.drop_replicate, ← List.replicate_succ']
    congr 1
    omega
end U
namespace Go.Proofs.YtmnbcnhpklejcaaDoor
open Go.RowKit
def live120 (key : Nat) : Lv :=
  bif Nat.beq key 3 then { ls := [0, 3, 4, 5, 6], wd := [⟨5, some 0, .row 48 celk⟩] } else bif Nat.beq key 1003 then { ls := [4, 5] } else
  { ls := [] }
abbrev M120 (ls : Nat → VS → Option (Tr (Ex × VS))) : Env := (E0.withFns [(100, w100)]).loops live120 ls
@[reducible] def p120_0 : LP := { n := 21, sl := [.d (.int .i64), .c (Leaf.ptr ( 0) ( 0)), .c (Leaf.ptr ( 1) ( 0)), .c (Leaf.ptr ( 2) ( 0)), .d (.int .i64)], bl := [(0, .box [.d (.int .i64), .d (.int .i64), .d (.int .i64)]), (1, .box [.c (Leaf.nils), .d (Kd.bool)]), (2, .box [.c (Leaf.row ( 3)), .d (Kd.bool)]), (3, .row 48 (celk))] }
def B120_0 (x0 : Int) (x4 : Int) (h0_0 : Int) (h0_1 : Int) (h0_2 : Int) (h1_1 : Bool) (h2_1 : Bool) (h3 : List Cell) : Tr (p120_0.T ⊕ (Bool × Bool × List Cell)) :=
  Tr.ite (decide (x4 < x0))
    (Tr.ite (decide ((List.length h3 + (1 : Nat)) * (48 : Nat) ≤ (140737488355328 : Nat)))
      (Tr.ret
        (Sum.inl ((x0, IntKind.wrap IntKind.i64 (x4 + (1 : Int)), ()), (h0_0, h0_1, h0_2, ()), (h1_1, ()), (h2_1, ()), h3 ++ [(ByteArray.empty, (1 : Int), ((0 : Int), h0_1, (0 : Int), ()), ())], ())))
      Tr.fail)
    (Tr.ret (Sum.inr (h1_1, h2_1, h3)))
def X120_0 (r : (Bool × Bool × List Cell)) : Ex × VS := Prod.mk (Ex.exit ( 0)) { n := 21, v := [Slot.av (AV.one (Leaf.ptr ( 0) ( 0))), Slot.av (AV.one (Leaf.ptr ( 1) ( 0)))], h := [( 0, Blk.box [Leaf.nils, Leaf.dat Kd.bool r.fst]), ( 1, Blk.box [Leaf.row ( 2), Leaf.dat Kd.bool r.snd.fst]), ( 2, Blk.row ( 48) celk r.snd.snd)] }
def b120_0 : p120_0.T → Tr (p120_0.T ⊕ (Bool × Bool × List Cell)) := fun ⟨⟨x0, ⟨x4, _⟩⟩, ⟨⟨h0_0, ⟨h0_1, ⟨h0_2, _⟩⟩⟩, ⟨⟨h1_1, _⟩, ⟨⟨h2_1, _⟩, ⟨h3, _⟩⟩⟩⟩⟩ => B120_0 x0 x4 h0_0 h0_1 h0_2 h1_1 h2_1 h3
theorem h120_0 (ls : Nat → VS → Option (Tr (Ex × VS))) (x : p120_0.T) : (evC (evI 2) (lc Tryd.f120 0) (Env.lend (M120 ls) 0) (unV (live120 3) (p120_0.V x))).map (decL 0 (live120 3) (live120 1003)) = (b120_0 x).map (encR p120_0.V X120_0) := by
  obtain ⟨⟨x0, ⟨x4, _⟩⟩, ⟨⟨h0_0, ⟨h0_1, ⟨h0_2, _⟩⟩⟩, ⟨⟨h1_1, _⟩, ⟨⟨h2_1, _⟩, ⟨h3, _⟩⟩⟩⟩⟩ := x; kernel_rfl
theorem c120_0 (x : p120_0.T) : canV 0 (live120 3) (unV (live120 3) (p120_0.V x)) = p120_0.V x := by
  obtain ⟨⟨x0, ⟨x4, _⟩⟩, ⟨⟨h0_0, ⟨h0_1, ⟨h0_2, _⟩⟩⟩, ⟨⟨h1_1, _⟩, ⟨⟨h2_1, _⟩, ⟨h3, _⟩⟩⟩⟩⟩ := x; kernel_rfl
theorem l120_0 {T : p120_0.T → Tr (Bool × Bool × List Cell)} {ls : Nat → VS → Option (Tr (Ex × VS))} (hls : ∀ x, (Env.lend (M120 ls) 0).ls 3 x = p120_0.ls (fun a => (T a).map X120_0) x) (hS : ∀ x r, (T x).val = some r → Rounds b120_0 x r) : LoopOK (evI 2) (Env.lend (M120 ls) 0) (lc Tryd.f120 0) :=
  loopA 3 (live120 3) (live120 1003) p120_0 b120_0 X120_0 T (by kernel_rfl) rfl rfl hls (h120_0 ls) c120_0 hS
def T120 (x : p120_0.T) : Tr (Bool × Bool × List Cell) :=
  .ite (decide ((x.1.2.1 : Int) = 0 ∧ 0 ≤ (x.1.1 : Int) ∧ (x.1.1 : Int) ≤ 1000 ∧ List.length (α := Cell) x.2.2.2.2.1 ≤ 1000))
    (.ret (x.2.2.1.1, x.2.2.2.1.1, x.2.2.2.2.1 ++ List.replicate x.1.1.toNat (U.blank (x.2.1.1, x.2.1.2.1, x.2.1.2.2.1, ())))) .fail
abbrev E120 : Env := M120 fun key x => bif Nat.beq key 3 then p120_0.ls (fun a => (T120 a).map X120_0) x else none
theorem L120 : LoopOK (evI 2) (E120.lend 0) (lc Tryd.f120 0) := by
  refine l120_0 (T := T120) (fun x => rfl) ?_
  rintro ⟨⟨n, i, z⟩, ⟨a, b, d, z1⟩, ⟨p, z2⟩, ⟨q, z3⟩, h, z4⟩ r hh
  obtain ⟨g1, g2⟩ := pre_val hh
  have g1 : ((i : Int) = 0 ∧ (0 : Int) ≤ n ∧ (n : Int) ≤ 1000 ∧ h.length ≤ 1000) := of_decide_eq_true g1
  obtain ⟨rfl, e2, e3, e4⟩ := g1
  obtain ⟨m, rfl⟩ := Int.eq_ofNat_of_zero_le (a := n) e2
  have e3' : m ≤ 1000 := by
    have : (m : Int) ≤ 1000 := e3
    omega
  cases g2
  have := Rounds.uptoA (B := b120_0) (σ := List Cell) (N := m) (fun i s => (((m : Int), (i : Int), ()), (a, b, d, ()), (p, ()), (q, ()), s, ())) (fun _ s => s ++ [U.blank (a, b, d, ())]) (fun s => (p, q, s)) (fun i s => s.length ≤ 1000 + i) (fun i s hi hv => ?_) (fun s hv => ?_) m 0 h (by omega) (by omega)
  · rw [fold_rep] at this
    exact this
  · have e8 : (s.length + 1) * 48 ≤ 140737488355328 := by omega
    refine ⟨?_, by simp only [List.length_append, List.length_singleton]; omega⟩
    simp only [b120_0, B120_0, Tr.val, e8, show ((i : Int) < (m : Int)) by omega, decide_true, cond_true, wrap64_nat (show i ≤ 1048576 by omega)]
    rfl
  · simp only [b120_0, B120_0, Tr.val, show ¬ ((m : Int) < (m : Int)) by omega, decide_false, cond_false]
def d120 (a : Int) (b1 : Int) (b2 : Int) (b3 : Int) : Tr (List U.Cl × Bool) :=
  Tr.ite (decide ((0 : Int) = (0 : Int) ∧ (0 : Int) ≤ a ∧ a ≤ (1000 : Int) ∧ (0 : Nat) ≤ (1000 : Nat))) (Tr.ret (List.replicate (Int.toNat a) (U.blank (b1, b2, b3, ())), false)) Tr.fail
def e120 (r : List U.Cl × Bool) : FRes := { rs := Slot.av (AV.agg [Leaf.dat (Kd.sl celk) r.fst, Leaf.dat Kd.bool r.snd]), upd := [], new := [] }
@[reducible] def a120 : List AK := [AK.d (.int .i64), AK.d attk]
@[reducible] def b120 : List BK := []
theorem t120 (a : Int) (b1 : Int) (b2 : Int) (b3 : Int) : evFn (E120) Tryd.f120 [PM.data link] (akAV a120 (a, (b1, b2, b3, ()), ())) (bkBs b120 ()) = (d120 a b1 b2 b3).map e120 := by kernel_rfl
def s120 (C : akT a120 → Bool) (G : akT a120 → List U.Cl × Bool) : FSpec := aspec a120 b120 e120 (fun x _ => C x) (fun x _ => G x)
theorem k120 {C : akT a120 → Bool} {G : akT a120 → List U.Cl × Bool} (hd : ∀ (a : Int) (b1 : Int) (b2 : Int) (b3 : Int), C (a, (b1, b2, b3, ()), ()) = true → (d120 a b1 b2 b3).val = some (G (a, (b1, b2, b3, ()), ()))) (IO : ItOK Tryd.prog (E120) := by exact itOK_none rfl) (L : ∀ c, Tryd.f120.body = some c → LsOK (evI 2) ((E120).lend 0) c := by exact fun c _ => LsOK_none rfl c) : SpecOK Tryd.prog E0 120 (s120 C G) :=
  aspec_ok (ak := a120) (bl := b120) (e := e120) (c := fun x _ => C x) (g := fun x _ => G x) (E0 := E0) (E := E120) tab (.cons wk100 .nil) rfl rfl hm Tryd.func120 (by kernel_rfl) [PM.data link] (fun X Y H => by obtain ⟨a, ⟨⟨b1, ⟨b2, ⟨b3, _⟩⟩⟩, _⟩⟩ := X; exact val_of (t120 a b1 b2 b3) (hd a b1 b2 b3 H)) IO L
abbrev w120 : FSpec := s120 (fun x => decide (0 ≤ (x.1 : Int) ∧ (x.1 : Int) ≤ 1000)) fun x => (List.replicate x.1.toNat (U.blank x.2.1), false)
theorem wk120 : SpecOK Tryd.prog E0 120 w120 := by
  refine k120 (fun n a b d H => ?_) (L := ls_ok (lcs := [lc Tryd.f120 0]) (rgs := []) (by kernel_rfl) (by kernel_rfl) L120 trivial)
  have H : (0 : Int) ≤ n ∧ (n : Int) ≤ 1000 := of_decide_eq_true H
  simp only [d120, Tr.val, H, and_self, decide_true, cond_true, List.length_nil, Nat.zero_le, List.nil_append]
def live65 (key : Nat) : Lv :=
  bif Nat.beq key 3 then { ls := [1, 2, 3, 5, 9, 10, 11, 12], wd := [⟨11, none, .dat celk.sl⟩] } else bif Nat.beq key 1003 then { ls := [1, 5, 10, 11] } else
  { ls := [] }
abbrev M65 (ls : Nat → VS → Option (Tr (Ex × VS))) : Env := (E0.withFns [(100, w100), (101, w101)]).loops live65 ls
@[reducible] def p65_0 : LP := { n := 55, sl := [.d (.int .i64), .d (.int .i64), .d (.int .i64), .c (Leaf.ptr ( 0) ( 0)), .c (Leaf.ptr ( 1) ( 0)), .c (Leaf.ptr ( 2) ( 0)), .d (Kd.sl celk), .d (.int .i64)], bl := [(0, .box [.d (.int .i64), .d (Kd.sl link)]), (1, .box [.d (.int .i64), .d (.int .i64), .d (.int .i64)]), (2, .box [.d (.int .i64), .c (Leaf.nils)])] }
def B65_0 (x0 : Int) (x1 : Int) (x2 : Int) (x6 : List Cell) (x7 : Int) (h0_0 : Int) (h0_1 : List Line) (h1_0 : Int) (h1_1 : Int) (h1_2 : Int) (h2_0 : Int) : Tr (p65_0.T ⊕ (Int × List Cell × Int × List Line × Int)) :=
  let v1 : Int := ((↑(List.length x6) : Int))
  let v2 : List Cell := (sub x6 (0 : Nat) (Int.toNat x1))
  let v3 : Int := (IntKind.wrap IntKind.i64 (v1 - (1 : Int)))
  let v4 : List Cell := (sub x6 (Int.toNat x1) (Int.toNat v3))
  Tr.ite (decide (x7 < x2))
    (Tr.ite (decide (x7 < h0_0))
      (Tr.ite (decide ((0 : Int) ≤ x1 ∧ x1 ≤ v1))
        (Tr.ite (decide (((0 : Nat) + List.length v2) * (48 : Nat) ≤ (140737488355328 : Nat)))
          (Tr.ite (decide ((List.length v2 + (1 : Nat)) * (48 : Nat) ≤ (140737488355328 : Nat)))
            (Tr.ite (decide ((0 : Int) ≤ x1 ∧ x1 ≤ v3 ∧ v3 ≤ v1))
              (Tr.ite (decide ((List.length (v2 ++ [(ByteArray.empty, (1 : Int), ((0 : Int), h1_1, (0 : Int), ()), ())]) + List.length v4) * (48 : Nat) ≤ (140737488355328 : Nat)))
                (Tr.ret
                  (Sum.inl
                    ((x0, x1, x2, v2 ++ [(ByteArray.empty, (1 : Int), ((0 : Int), h1_1, (0 : Int), ()), ())] ++ v4, IntKind.wrap IntKind.i64 (x7 + (1 : Int)), ()), (h0_0, h0_1, ()),
                      (h1_0, h1_1, h1_2, ()), (h2_0, ()), ())))
                Tr.fail)
              Tr.fail)
            Tr.fail)
          Tr.fail)
        Tr.fail)
      (Tr.ret (Sum.inr (x0, x6, h0_0, h0_1, h2_0))))
    (Tr.ret (Sum.inr (x0, x6, h0_0, h0_1, h2_0)))
def X65_0 (r : (Int × List Cell × Int × List Line × Int)) : Ex × VS := Prod.mk (Ex.exit ( 0)) { n := 55, v := [Slot.av (AV.one (Leaf.dat (.int .i64) r.fst)), Slot.av (AV.one (Leaf.ptr ( 0) ( 0))), Slot.av (AV.one (Leaf.ptr ( 1) ( 0))), Slot.av (AV.one (Leaf.dat (Kd.sl celk) r.snd.fst))], h := [( 0, Blk.box [Leaf.dat (.int .i64) r.snd.snd.fst, Leaf.dat (Kd.sl link) r.snd.snd.snd.fst]), ( 1, Blk.box [Leaf.dat (.int .i64) r.snd.snd.snd.snd, Leaf.nils])] }
def b65_0 : p65_0.T → Tr (p65_0.T ⊕ (Int × List Cell × Int × List Line × Int)) := fun ⟨⟨x0, ⟨x1, ⟨x2, ⟨x6, ⟨x7, _⟩⟩⟩⟩⟩, ⟨⟨h0_0, ⟨h0_1, _⟩⟩, ⟨⟨h1_0, ⟨h1_1, ⟨h1_2, _⟩⟩⟩, ⟨⟨h2_0, _⟩, _⟩⟩⟩⟩ => B65_0 x0 x1 x2 x6 x7 h0_0 h0_1 h1_0 h1_1 h1_2 h2_0
theorem h65_0 (ls : Nat → VS → Option (Tr (Ex × VS))) (x : p65_0.T) : (evC (evI 2) (lc Tryd.f65 0) (Env.lend (M65 ls) 0) (unV (live65 3) (p65_0.V x))).map (decL 0 (live65 3) (live65 1003)) = (b65_0 x).map (encR p65_0.V X65_0) := by
  obtain ⟨⟨x0, ⟨x1, ⟨x2, ⟨x6, ⟨x7, _⟩⟩⟩⟩⟩, ⟨⟨h0_0, ⟨h0_1, _⟩⟩, ⟨⟨h1_0, ⟨h1_1, ⟨h1_2, _⟩⟩⟩, ⟨⟨h2_0, _⟩, _⟩⟩⟩⟩ := x; kernel_rfl
theorem c65_0 (x : p65_0.T) : canV 0 (live65 3) (unV (live65 3) (p65_0.V x)) = p65_0.V x := by
  obtain ⟨⟨x0, ⟨x1, ⟨x2, ⟨x6, ⟨x7, _⟩⟩⟩⟩⟩, ⟨⟨h0_0, ⟨h0_1, _⟩⟩, ⟨⟨h1_0, ⟨h1_1, ⟨h1_2, _⟩⟩⟩, ⟨⟨h2_0, _⟩, _⟩⟩⟩⟩ := x; kernel_rfl
theorem l65_0 {T : p65_0.T → Tr (Int × List Cell × Int × List Line × Int)} {ls : Nat → VS → Option (Tr (Ex × VS))} (hls : ∀ x, (Env.lend (M65 ls) 0).ls 3 x = p65_0.ls (fun a => (T a).map X65_0) x) (hS : ∀ x r, (T x).val = some r → Rounds b65_0 x r) : LoopOK (evI 2) (Env.lend (M65 ls) 0) (lc Tryd.f65 0) :=
  loopA 3 (live65 3) (live65 1003) p65_0 b65_0 X65_0 T (by kernel_rfl) rfl rfl hls (h65_0 ls) c65_0 hS
def live66 (key : Nat) : Lv :=
  bif Nat.beq key 3 then { ls := [1, 2, 3, 5, 9, 10, 11, 12], wd := [⟨11, none, .dat celk.sl⟩] } else bif Nat.beq key 1003 then { ls := [1, 5, 10, 11] } else
  { ls := [] }
abbrev M66 (ls : Nat → VS → Option (Tr (Ex × VS))) : Env := (E0.withFns [(100, w100), (101, w101)]).loops live66 ls
@[reducible] def p66_0 : LP := { n := 53, sl := [.d (.int .i64), .d (.int .i64), .d (.int .i64), .c (Leaf.ptr ( 0) ( 0)), .c (Leaf.ptr ( 1) ( 0)), .c (Leaf.ptr ( 2) ( 0)), .d (Kd.sl celk), .d (.int .i64)], bl := [(0, .box [.d (.int .i64), .d (Kd.sl link)]), (1, .box [.d (.int .i64), .d (.int .i64), .d (.int .i64)]), (2, .box [.d (.int .i64), .c (Leaf.nils)])] }
def B66_0 (x0 : Int) (x1 : Int) (x2 : Int) (x6 : List Cell) (x7 : Int) (h0_0 : Int) (h0_1 : List Line) (h1_0 : Int) (h1_1 : Int) (h1_2 : Int) (h2_0 : Int) : Tr (p66_0.T ⊕ (Int × List Cell × Int × List Line × Int)) :=
  let v1 : Int := ((↑(List.length x6) : Int))
  let v2 : List Cell := (sub x6 (0 : Nat) (Int.toNat x1))
  let v3 : Int := (IntKind.wrap IntKind.i64 (x1 + (1 : Int)))
  let v4 : List Cell := (sub x6 (Int.toNat v3) (List.length x6))
  Tr.ite (decide (x7 < x2))
    (Tr.ite (decide (x7 < h0_0))
      (Tr.ite (decide ((0 : Int) ≤ x1 ∧ x1 ≤ v1))
        (Tr.ite (decide (((0 : Nat) + List.length v2) * (48 : Nat) ≤ (140737488355328 : Nat)))
          (Tr.ite (decide ((0 : Int) ≤ v3 ∧ v3 ≤ v1))
            (Tr.ite (decide ((List.length v2 + List.length v4) * (48 : Nat) ≤ (140737488355328 : Nat)))
              (Tr.ite (decide ((List.length (v2 ++ v4) + (1 : Nat)) * (48 : Nat) ≤ (140737488355328 : Nat)))
                (Tr.ret
                  (Sum.inl
                    ((x0, x1, x2, v2 ++ v4 ++ [(ByteArray.empty, (1 : Int), ((0 : Int), h1_1, (0 : Int), ()), ())], IntKind.wrap IntKind.i64 (x7 + (1 : Int)), ()), (h0_0, h0_1, ()),
                      (h1_0, h1_1, h1_2, ()), (h2_0, ()), ())))
                Tr.fail)
              Tr.fail)
            Tr.fail)
          Tr.fail)
        Tr.fail)
      (Tr.ret (Sum.inr (x0, x6, h0_0, h0_1, h2_0))))
    (Tr.ret (Sum.inr (x0, x6, h0_0, h0_1, h2_0)))
def X66_0 (r : (Int × List Cell × Int × List Line × Int)) : Ex × VS := Prod.mk (Ex.exit ( 0)) { n := 53, v := [Slot.av (AV.one (Leaf.dat (.int .i64) r.fst)), Slot.av (AV.one (Leaf.ptr ( 0) ( 0))), Slot.av (AV.one (Leaf.ptr ( 1) ( 0))), Slot.av (AV.one (Leaf.dat (Kd.sl celk) r.snd.fst))], h := [( 0, Blk.box [Leaf.dat (.int .i64) r.snd.snd.fst, Leaf.dat (Kd.sl link) r.snd.snd.snd.fst]), ( 1, Blk.box [Leaf.dat (.int .i64) r.snd.snd.snd.snd, Leaf.nils])] }
def b66_0 : p66_0.T → Tr (p66_0.T ⊕ (Int × List Cell × Int × List Line × Int)) := fun ⟨⟨x0, ⟨x1, ⟨x2, ⟨x6, ⟨x7, _⟩⟩⟩⟩⟩, ⟨⟨h0_0, ⟨h0_1, _⟩⟩, ⟨⟨h1_0, ⟨h1_1, ⟨h1_2, _⟩⟩⟩, ⟨⟨h2_0, _⟩, _⟩⟩⟩⟩ => B66_0 x0 x1 x2 x6 x7 h0_0 h0_1 h1_0 h1_1 h1_2 h2_0
theorem h66_0 (ls : Nat → VS → Option (Tr (Ex × VS))) (x : p66_0.T) : (evC (evI 2) (lc Tryd.f66 0) (Env.lend (M66 ls) 0) (unV (live66 3) (p66_0.V x))).map (decL 0 (live66 3) (live66 1003)) = (b66_0 x).map (encR p66_0.V X66_0) := by
  obtain ⟨⟨x0, ⟨x1, ⟨x2, ⟨x6, ⟨x7, _⟩⟩⟩⟩⟩, ⟨⟨h0_0, ⟨h0_1, _⟩⟩, ⟨⟨h1_0, ⟨h1_1, ⟨h1_2, _⟩⟩⟩, ⟨⟨h2_0, _⟩, _⟩⟩⟩⟩ := x; kernel_rfl
theorem c66_0 (x : p66_0.T) : canV 0 (live66 3) (unV (live66 3) (p66_0.V x)) = p66_0.V x := by
  obtain ⟨⟨x0, ⟨x1, ⟨x2, ⟨x6, ⟨x7, _⟩⟩⟩⟩⟩, ⟨⟨h0_0, ⟨h0_1, _⟩⟩, ⟨⟨h1_0, ⟨h1_1, ⟨h1_2, _⟩⟩⟩, ⟨⟨h2_0, _⟩, _⟩⟩⟩⟩ := x; kernel_rfl
theorem l66_0 {T : p66_0.T → Tr (Int × List Cell × Int × List Line × Int)} {ls : Nat → VS → Option (Tr (Ex × VS))} (hls : ∀ x, (Env.lend (M66 ls) 0).ls 3 x = p66_0.ls (fun a => (T a).map X66_0) x) (hS : ∀ x r, (T x).val = some r → Rounds b66_0 x r) : LoopOK (evI 2) (Env.lend (M66 ls) 0) (lc Tryd.f66 0) :=
  loopA 3 (live66 3) (live66 1003) p66_0 b66_0 X66_0 T (by kernel_rfl) rfl rfl hls (h66_0 ls) c66_0 hS
abbrev colOK (k n c : Int) (N : Nat) : Bool := decide (0 ≤ k ∧ k < (N : Int) ∧ N ≤ 1048576 ∧ 0 ≤ n ∧ 0 ≤ c ∧ c ≤ 1048576)
def T65 (x : p65_0.T) : Tr (Int × List Cell × Int × List Line × Int) :=
  .ite (decide ((x.1.2.2.2.2.1 : Int) = 0) && colOK x.1.2.1 x.1.2.2.1 x.2.1.1 (List.length (α := Cell) x.1.2.2.2.1))
    (.ret (x.1.1, U.insC x.1.2.2.2.1 (min x.1.2.2.1.toNat x.2.1.1.toNat) x.1.2.1.toNat (x.2.2.1.1, x.2.2.1.2.1, x.2.2.1.2.2.1, ()), x.2.1.1, x.2.1.2.1, x.2.2.2.1.1)) .fail
abbrev E65 : Env := M65 fun key x => bif Nat.beq key 3 then p65_0.ls (fun a => (T65 a).map X65_0) x else none
theorem L65 : LoopOK (evI 2) (E65.lend 0) (lc Tryd.f65 0) := by
  refine l65_0 (T := T65) (fun x => rfl) ?_
  rintro ⟨⟨row, k, n, l, i, z⟩, ⟨c, ls, z1⟩, ⟨a, b, d, z2⟩, ⟨q, z3⟩, z4⟩ r hh
  obtain ⟨g1, g2⟩ := pre_val hh
  rw [Bool.and_eq_true] at g1
  have g0 : (i : Int) = 0 := of_decide_eq_true g1.1
  have g3 : ((0 : Int) ≤ k ∧ (k : Int) < (l.length : Int) ∧ l.length ≤ 1048576 ∧ (0 : Int) ≤ n ∧ (0 : Int) ≤ c ∧ (c : Int) ≤ 1048576) := of_decide_eq_true g1.2
  clear g1
  subst g0
  obtain ⟨e1, e2, e3, e4, e5, e6⟩ := g3
  obtain ⟨k, rfl⟩ := Int.eq_ofNat_of_zero_le (a := k) e1
  obtain ⟨n, rfl⟩ := Int.eq_ofNat_of_zero_le (a := n) e4
  obtain ⟨c, rfl⟩ := Int.eq_ofNat_of_zero_le (a := c) e5
  have hk : k < l.length := Int.ofNat_lt.1 e2
  have hc : c ≤ 1048576 := by
    have : (c : Int) ≤ 1048576 := e6
    omega
  cases g2
  have := Rounds.uptoA (B := b65_0) (σ := Unit) (N := min n c) (fun i _ => ((row, (k : Int), (n : Int), U.insC l i k (a, b, d, ()), (i : Int), ()), ((c : Int), ls, ()), (a, b, d, ()), (q, ()), ())) (fun _ s => s) (fun _ => (row, U.insC l (min n c) k (a, b, d, ()), (c : Int), ls, q)) (fun _ _ => True) (fun i s hi hv => ?_) (fun s hv => ?_) (min n c) 0 () (by omega) trivial
  · simp only [U.insC_zero] at this
    exact this
  · refine ⟨?_, trivial⟩
    have hl := U.insC_len l i k (a, b, d, ()) (by omega)
    have f0 : IntKind.wrap IntKind.i64 ((l.length : Int) - 1) = ((l.length - 1 : Nat) : Int) := by rw [w64 (by omega) (by omega)]; omega
    have f1 : (0 : Int) ≤ (k : Int) ∧ (k : Int) ≤ (l.length : Int) := by omega
    have s1 : (sub (U.insC l i k (a, b, d, ())) 0 k).length = k := by unfold sub; rw [List.length_drop, List.length_take, hl]; omega
    have s2 : (sub (U.insC l i k (a, b, d, ())) k (l.length - 1)).length = l.length - 1 - k := by unfold sub; rw [List.length_drop, List.length_take, hl]; omega
    have f2 : (0 + k) * 48 ≤ 140737488355328 := by omega
    have f3 : (k + 1) * 48 ≤ 140737488355328 := by omega
    have f4 : (0 : Int) ≤ (k : Int) ∧ (k : Int) ≤ ((l.length - 1 : Nat) : Int) ∧ ((l.length - 1 : Nat) : Int) ≤ (l.length : Int) := by omega
    have f5 : (k + 1 + (l.length - 1 - k)) * 48 ≤ 140737488355328 := by omega
    have ev : sub (U.insC l i k (a, b, d, ())) 0 k ++ [(ByteArray.empty, (1 : Int), ((0 : Int), b, (0 : Int), ()), ())] ++ sub (U.insC l i k (a, b, d, ())) k (l.length - 1) = U.insC l (i + 1) k (a, b, d, ()) := by
      rw [← U.ins1_C i hk]
      unfold U.ins1 sub
      rw [hl, List.drop_zero, List.append_assoc]
      rfl
    simp only [b65_0, B65_0, Tr.val, hl, f0, Int.toNat_natCast, s1, s2, f2, f3, f5, List.length_append, List.length_singleton, decide_eq_true f1, decide_eq_true f4, ev, show ((i : Int) < (n : Int)) by omega, show ((i : Int) < (c : Int)) by omega, decide_true, cond_true, wrap64_nat (show i ≤ 1048576 by omega)]
  · rcases Nat.lt_or_ge (min n c) n with h | h
    · have h2 : min n c = c := by omega
      simp only [b65_0, B65_0, Tr.val, h2, show ((c : Int) < (n : Int)) by omega, show ¬ ((c : Int) < (c : Int)) by omega, decide_true, cond_true, decide_false, cond_false]
    · have h2 : min n c = n := by omega
      simp only [b65_0, B65_0, Tr.val, h2, show ¬ ((n : Int) < (n : Int)) by omega, decide_false, cond_false]
def T66 (x : p66_0.T) : Tr (Int × List Cell × Int × List Line × Int) :=
  .ite (decide ((x.1.2.2.2.2.1 : Int) = 0) && colOK x.1.2.1 x.1.2.2.1 x.2.1.1 (List.length (α := Cell) x.1.2.2.2.1))
    (.ret (x.1.1, U.delC x.1.2.2.2.1 (min x.1.2.2.1.toNat x.2.1.1.toNat) x.1.2.1.toNat (x.2.2.1.1, x.2.2.1.2.1, x.2.2.1.2.2.1, ()), x.2.1.1, x.2.1.2.1, x.2.2.2.1.1)) .fail
abbrev E66 : Env := M66 fun key x => bif Nat.beq key 3 then p66_0.ls (fun a => (T66 a).map X66_0) x else none
theorem L66 : LoopOK (evI 2) (E66.lend 0) (lc Tryd.f66 0) := by
  refine l66_0 (T := T66) (fun x => rfl) ?_
  rintro ⟨⟨row, k, n, l, i, z⟩, ⟨c, ls, z1⟩, ⟨a, b, d, z2⟩, ⟨q, z3⟩, z4⟩ r hh
  obtain ⟨g1, g2⟩ := pre_val hh
  rw [Bool.and_eq_true] at g1
  have g0 : (i : Int) = 0 := of_decide_eq_true g1.1
  have g3 : ((0 : Int) ≤ k ∧ (k : Int) < (l.length : Int) ∧ l.length ≤ 1048576 ∧ (0 : Int) ≤ n ∧ (0 : Int) ≤ c ∧ (c : Int) ≤ 1048576) := of_decide_eq_true g1.2
  clear g1
  subst g0
  obtain ⟨e1, e2, e3, e4, e5, e6⟩ := g3
  obtain ⟨k, rfl⟩ := Int.eq_ofNat_of_zero_le (a := k) e1
  obtain ⟨n, rfl⟩ := Int.eq_ofNat_of_zero_le (a := n) e4
  obtain ⟨c, rfl⟩ := Int.eq_ofNat_of_zero_le (a := c) e5
  have hk : k < l.length := Int.ofNat_lt.1 e2
  have hc : c ≤ 1048576 := by
    have : (c : Int) ≤ 1048576 := e6
    omega
  cases g2
  have := Rounds.uptoA (B := b66_0) (σ := Unit) (N := min n c) (fun i _ => ((row, (k : Int), (n : Int), U.delC l i k (a, b, d, ()), (i : Int), ()), ((c : Int), ls, ()), (a, b, d, ()), (q, ()), ())) (fun _ s => s) (fun _ => (row, U.delC l (min n c) k (a, b, d, ()), (c : Int), ls, q)) (fun _ _ => True) (fun i s hi hv => ?_) (fun s hv => ?_) (min n c) 0 () (by omega) trivial
  · simp only [U.delC_zero] at this
    exact this
  · refine ⟨?_, trivial⟩
    have hl := U.delC_len l i k (a, b, d, ()) (by omega)
    have f0 : IntKind.wrap IntKind.i64 ((k : Int) + 1) = ((k + 1 : Nat) : Int) := by rw [w64 (by omega) (by omega)]; omega
    have f1 : (0 : Int) ≤ (k : Int) ∧ (k : Int) ≤ (l.length : Int) := by omega
    have s1 : (sub (U.delC l i k (a, b, d, ())) 0 k).length = k := by unfold sub; rw [List.length_drop, List.length_take, hl]; omega
    have s2 : (sub (U.delC l i k (a, b, d, ())) (k + 1) l.length).length = l.length - 1 - k := by unfold sub; rw [List.length_drop, List.length_take, hl]; omega
    have f2 : (0 + k) * 48 ≤ 140737488355328 := by omega
    have f3 : (k + (l.length - 1 - k)) * 48 ≤ 140737488355328 := by omega
    have f4 : (0 : Int) ≤ ((k + 1 : Nat) : Int) ∧ ((k + 1 : Nat) : Int) ≤ (l.length : Int) := by omega
    have f5 : (k + (l.length - 1 - k) + 1) * 48 ≤ 140737488355328 := by omega
    have ev : sub (U.delC l i k (a, b, d, ())) 0 k ++ sub (U.delC l i k (a, b, d, ())) (k + 1) l.length ++ [(ByteArray.empty, (1 : Int), ((0 : Int), b, (0 : Int), ()), ())] = U.delC l (i + 1) k (a, b, d, ()) := by
      rw [← U.del1_C i hk]
      unfold U.del1 sub
      rw [← hl, List.take_length, List.drop_zero, List.append_assoc]
      rfl
    simp only [b66_0, B66_0, Tr.val, hl, f0, Int.toNat_natCast, s1, s2, f2, f3, f5, List.length_append, List.length_singleton, decide_eq_true f1, decide_eq_true f4, ev, show ((i : Int) < (n : Int)) by omega, show ((i : Int) < (c : Int)) by omega, decide_true, cond_true, wrap64_nat (show i ≤ 1048576 by omega)]
  · rcases Nat.lt_or_ge (min n c) n with h | h
    · have h2 : min n c = c := by omega
      simp only [b66_0, B66_0, Tr.val, h2, show ((c : Int) < (n : Int)) by omega, show ¬ ((c : Int) < (c : Int)) by omega, decide_true, cond_true, decide_false, cond_false]
    · have h2 : min n c = n := by omega
      simp only [b66_0, B66_0, Tr.val, h2, show ¬ ((n : Int) < (n : Int)) by omega, decide_false, cond_false]
def d65 (a1 : Int) (a2 : List Line) (b : Int) (c : Int) (y : Int) (f1 : Int) (f2 : Int) (f3 : Int) : Tr (Int × List U.Ln) :=
  let v1 : List U.Cl := (U.insC (rget link a2 b).fst (min (Int.toNat y) (Int.toNat a1)) (Int.toNat c) (f1, f2, f3, ()))
  Tr.ite (inB b (List.length a2))
    (Tr.ite (true && colOK c y a1 (List.length (rget link a2 b).fst))
      (Tr.ite (decide ((0 : Int) ≤ b ∧ List.length a2 ≤ (1048576 : Nat) ∧ List.length v1 ≤ (1048576 : Nat))) (Tr.ret (a1, U.setC a2 (Int.toNat b) v1)) Tr.fail) Tr.fail)
    Tr.fail
def e65 (r : Int × List U.Ln) : FRes := { rs := Slot.av (AV.agg [Leaf.dat (.int .i64) r.fst, Leaf.dat (Kd.sl link) r.snd]), upd := [], new := [] }
@[reducible] def a65 : List AK := [AK.d gridk, AK.d (.int .i64), AK.d (.int .i64), AK.d (.int .i64), AK.d attk]
@[reducible] def b65 : List BK := []
theorem t65 (a1 : Int) (a2 : List Line) (b : Int) (c : Int) (y : Int) (f1 : Int) (f2 : Int) (f3 : Int) : evFn (E65) Tryd.f65 [PM.data gridk] (akAV a65 ((a1, a2, ()), b, c, y, (f1, f2, f3, ()), ())) (bkBs b65 ()) = (d65 a1 a2 b c y f1 f2 f3).map e65 := by kernel_rfl
def s65 (C : akT a65 → Bool) (G : akT a65 → Int × List U.Ln) : FSpec := aspec a65 b65 e65 (fun x _ => C x) (fun x _ => G x)
theorem k65 {C : akT a65 → Bool} {G : akT a65 → Int × List U.Ln} (hd : ∀ (a1 : Int) (a2 : List Line) (b : Int) (c : Int) (y : Int) (f1 : Int) (f2 : Int) (f3 : Int), C ((a1, a2, ()), b, c, y, (f1, f2, f3, ()), ()) = true → (d65 a1 a2 b c y f1 f2 f3).val = some (G ((a1, a2, ()), b, c, y, (f1, f2, f3, ()), ()))) (IO : ItOK Tryd.prog (E65) := by exact itOK_none rfl) (L : ∀ c, Tryd.f65.body = some c → LsOK (evI 2) ((E65).lend 0) c := by exact fun c _ => LsOK_none rfl c) : SpecOK Tryd.prog E0 65 (s65 C G) :=
  aspec_ok (ak := a65) (bl := b65) (e := e65) (c := fun x _ => C x) (g := fun x _ => G x) (E0 := E0) (E := E65) tab (.cons wk100 (.cons wk101 .nil)) rfl rfl hm Tryd.func65 (by kernel_rfl) [PM.data gridk] (fun X Y H => by obtain ⟨⟨a1, ⟨a2, _⟩⟩, ⟨b, ⟨c, ⟨y, ⟨⟨f1, ⟨f2, ⟨f3, _⟩⟩⟩, _⟩⟩⟩⟩⟩ := X; exact val_of (t65 a1 a2 b c y f1 f2 f3) (hd a1 a2 b c y f1 f2 f3 H)) IO L
def d66 (a1 : Int) (a2 : List Line) (b : Int) (c : Int) (y : Int) (f1 : Int) (f2 : Int) (f3 : Int) : Tr (Int × List U.Ln) :=
  let v1 : List U.Cl := (U.delC (rget link a2 b).fst (min (Int.toNat y) (Int.toNat a1)) (Int.toNat c) (f1, f2, f3, ()))
  Tr.ite (inB b (List.length a2))
    (Tr.ite (true && colOK c y a1 (List.length (rget link a2 b).fst))
      (Tr.ite (decide ((0 : Int) ≤ b ∧ List.length a2 ≤ (1048576 : Nat) ∧ List.length v1 ≤ (1048576 : Nat))) (Tr.ret (a1, U.setC a2 (Int.toNat b) v1)) Tr.fail) Tr.fail)
    Tr.fail
def e66 (r : Int × List U.Ln) : FRes := { rs := Slot.av (AV.agg [Leaf.dat (.int .i64) r.fst, Leaf.dat (Kd.sl link) r.snd]), upd := [], new := [] }
@[reducible] def a66 : List AK := [AK.d gridk, AK.d (.int .i64), AK.d (.int .i64), AK.d (.int .i64), AK.d attk]
@[reducible] def b66 : List BK := []
theorem t66 (a1 : Int) (a2 : List Line) (b : Int) (c : Int) (y : Int) (f1 : Int) (f2 : Int) (f3 : Int) : evFn (E66) Tryd.f66 [PM.data gridk] (akAV a66 ((a1, a2, ()), b, c, y, (f1, f2, f3, ()), ())) (bkBs b66 ()) = (d66 a1 a2 b c y f1 f2 f3).map e66 := by kernel_rfl
def s66 (C : akT a66 → Bool) (G : akT a66 → Int × List U.Ln) : FSpec := aspec a66 b66 e66 (fun x _ => C x) (fun x _ => G x)
theorem k66 {C : akT a66 → Bool} {G : akT a66 → Int × List U.Ln} (hd : ∀ (a1 : Int) (a2 : List Line) (b : Int) (c : Int) (y : Int) (f1 : Int) (f2 : Int) (f3 : Int), C ((a1, a2, ()), b, c, y, (f1, f2, f3, ()), ()) = true → (d66 a1 a2 b c y f1 f2 f3).val = some (G ((a1, a2, ()), b, c, y, (f1, f2, f3, ()), ()))) (IO : ItOK Tryd.prog (E66) := by exact itOK_none rfl) (L : ∀ c, Tryd.f66.body = some c → LsOK (evI 2) ((E66).lend 0) c := by exact fun c _ => LsOK_none rfl c) : SpecOK Tryd.prog E0 66 (s66 C G) :=
  aspec_ok (ak := a66) (bl := b66) (e := e66) (c := fun x _ => C x) (g := fun x _ => G x) (E0 := E0) (E := E66) tab (.cons wk100 (.cons wk101 .nil)) rfl rfl hm Tryd.func66 (by kernel_rfl) [PM.data gridk] (fun X Y H => by obtain ⟨⟨a1, ⟨a2, _⟩⟩, ⟨b, ⟨c, ⟨y, ⟨⟨f1, ⟨f2, ⟨f3, _⟩⟩⟩, _⟩⟩⟩⟩⟩ := X; exact val_of (t66 a1 a2 b c y f1 f2 f3) (hd a1 a2 b c y f1 f2 f3 H)) IO L
abbrev w65 : FSpec := s65 (fun x => decide (0 ≤ (x.2.1 : Int) ∧ (x.2.1 : Int) < (List.length (α := Line) x.1.2.1 : Int) ∧ List.length (α := Line) x.1.2.1 ≤ 1048576) && colOK x.2.2.1 x.2.2.2.1 x.1.1 (List.length (α := Cell) (List.getD (α := Line) x.1.2.1 x.2.1.toNat U.dL).1))
  fun x => (x.1.1, U.setC x.1.2.1 x.2.1.toNat (U.insC (List.getD (α := Line) x.1.2.1 x.2.1.toNat U.dL).1 (min x.2.2.2.1.toNat x.1.1.toNat) x.2.2.1.toNat x.2.2.2.2.1))
theorem wk65 : SpecOK Tryd.prog E0 65 w65 := by
  refine k65 (fun c l row k n a b d H => ?_) (L := ls_ok (lcs := [lc Tryd.f65 0]) (rgs := []) (by kernel_rfl) (by kernel_rfl) L65 trivial)
  have H : (decide (0 ≤ row ∧ row < (l.length : Int) ∧ l.length ≤ 1048576) && colOK k n c (l.getD row.toNat U.dL).1.length) = true := H
  rw [Bool.and_eq_true] at H
  obtain ⟨H1, H2⟩ := H
  obtain ⟨h1, h2, h3⟩ := of_decide_eq_true H1
  obtain ⟨r, rfl⟩ := Int.eq_ofNat_of_zero_le h1
  have hr : r < l.length := Int.ofNat_lt.1 h2
  rw [Int.toNat_natCast] at H2
  obtain ⟨q1, q2, q3, q4⟩ := of_decide_eq_true H2
  have e1 : ∀ m d, (U.insC (l.getD r U.dL).1 m k.toNat d).length = (l.getD r U.dL).1.length := fun m d => U.insC_len _ _ _ _ (by omega)
  simp only [d65, Tr.val, inB_nat hr, rgetL, e1, H2, q3, h3, Int.natCast_nonneg, Int.toNat_natCast, and_self, Bool.and_self, decide_true, cond_true]
abbrev w66 : FSpec := s66 (fun x => decide (0 ≤ (x.2.1 : Int) ∧ (x.2.1 : Int) < (List.length (α := Line) x.1.2.1 : Int) ∧ List.length (α := Line) x.1.2.1 ≤ 1048576) && colOK x.2.2.1 x.2.2.2.1 x.1.1 (List.length (α := Cell) (List.getD (α := Line) x.1.2.1 x.2.1.toNat U.dL).1))
  fun x => (x.1.1, U.setC x.1.2.1 x.2.1.toNat (U.delC (List.getD (α := Line) x.1.2.1 x.2.1.toNat U.dL).1 (min x.2.2.2.1.toNat x.1.1.toNat) x.2.2.1.toNat x.2.2.2.2.1))
theorem wk66 : SpecOK Tryd.prog E0 66 w66 := by
  refine k66 (fun c l row k n a b d H => ?_) (L := ls_ok (lcs := [lc Tryd.f66 0]) (rgs := []) (by kernel_rfl) (by kernel_rfl) L66 trivial)
  have H : (decide (0 ≤ row ∧ row < (l.length : Int) ∧ l.length ≤ 1048576) && colOK k n c (l.getD row.toNat U.dL).1.length) = true := H
  rw [Bool.and_eq_true] at H
  obtain ⟨H1, H2⟩ := H
  obtain ⟨h1, h2, h3⟩ := of_decide_eq_true H1
  obtain ⟨r, rfl⟩ := Int.eq_ofNat_of_zero_le h1
  have hr : r < l.length := Int.ofNat_lt.1 h2
  rw [Int.toNat_natCast] at H2
  obtain ⟨q1, q2, q3, q4⟩ := of_decide_eq_true H2
  have e1 : ∀ m d, (U.delC (l.getD r U.dL).1 m k.toNat d).length = (l.getD r U.dL).1.length := fun m d => U.delC_len _ _ _ _ (by omega)
  simp only [d66, Tr.val, inB_nat hr, rgetL, e1, H2, q3, h3, Int.natCast_nonneg, Int.toNat_natCast, and_self, Bool.and_self, decide_true, cond_true]
end Go.Proofs.YtmnbcnhpklejcaaDoor
namespace U
theorem fold_flat {α : Type} (p : Nat → List α) : ∀ (k i : Nat) (a : List α), (List.range' i k).foldl (fun s i => s ++ p i) a = a ++ (List.range' i k).flatMap p
  | 0, _, a => by simp
  | k + 1, i, a => by rw [List.range'_succ, List.foldl_cons, fold_flat p k, List.flatMap_cons, List.append_assoc]
theorem seg {α : Type} {l : List α} {d : α} {p : Nat → List α} : ∀ {n a : Nat}, a + n ≤ l.length → (∀ i, a ≤ i → i < a + n → p i = [l.getD i d]) → (List.range' a n).flatMap p = (l.take (a + n)).drop a
  | 0, a, h, _ => by rw [Nat.add_zero, List.drop_of_length_le (by rw [List.length_take]; omega)]; rfl
  | n + 1, a, h, hp => by
    rw [List.range'_succ, List.flatMap_cons, hp a (Nat.le_refl a) (by omega), seg (by omega) (fun i h1 h2 => hp i (by omega) (by omega))]
    have h1 : a < (l.take (a + (n + 1))).length := by rw [List.length_take]; omega
    rw [List.drop_eq_getElem_cons h1, List.getElem_take, getD_el (show a < l.length by omega), show a + 1 + n = a + (n + 1) by omega]
    rfl
theorem drop_cons {α : Type} {l : List α} {d : α} {a b : Nat} (h : a < b) (hb : b ≤ l.length) : (l.take b).drop a = l.getD a d :: (l.take b).drop (a + 1) := by
  have h1 : a < (l.take b).length := by rw [List.length_take]; omega
  rw [List.drop_eq_getElem_cons h1, List.getElem_take, getD_el (by omega)]
def pd (l : List Ln) (t b : Nat) (x : Ln) (i : Nat) : List Ln := (if i = t then [x] else []) ++ (if i = b then [] else [l.getD i dL])
def pu (l : List Ln) (t b : Nat) (x : Ln) (i : Nat) : List Ln := (if i = t then [] else [l.getD i dL]) ++ (if i = b then [x] else [])
def pg (l : List Ln) (t : Nat) (i : Nat) : List Ln := if i = t then [l.getD i dL] else []
theorem split3 {α : Type} (p : Nat → List α) {t n : Nat} (h : t < n) : (List.range' 0 n).flatMap p = (List.range' 0 t).flatMap p ++ (p t ++ (List.range' (t + 1) (n - t - 1)).flatMap p) := by
  have e : List.range' 0 n = List.range' 0 t ++ (t :: List.range' (t + 1) (n - t - 1)) := by
    rw [← List.range'_succ]
    have := List.range'_append_1 (s := 0) (m := t) (n := n - t - 1 + 1)
    rw [Nat.zero_add] at this
    rw [this]
    congr 1
    omega
  rw [e, List.flatMap_append, List.flatMap_cons]
theorem split2 {α : Type} (p : Nat → List α) {a b n : Nat} (h : a ≤ b) (hb : b < a + n) : (List.range' a n).flatMap p = (List.range' a (b - a)).flatMap p ++ (p b ++ (List.range' (b + 1) (a + n - b - 1)).flatMap p) := by
  have e : List.range' a n = List.range' a (b - a) ++ (b :: List.range' (b + 1) (a + n - b - 1)) := by
    rw [← List.range'_succ]
    have := List.range'_append_1 (s := a) (m := b - a) (n := a + n - b - 1 + 1)
    rw [show a + (b - a) = b by omega] at this
    rw [this]
    congr 1
    omega
  rw [e, List.flatMap_append, List.flatMap_cons]
theorem pd_flat {l : List Ln} {t b : Nat} {x : Ln} (h : t ≤ b) (hb : b < l.length) : (List.range' 0 l.length).flatMap (pd l t b x) = downL l t b 1 x := by
  have o : ∀ i, i ≠ t → i ≠ b → pd l t b x i = [l.getD i dL] := fun i h1 h2 => by simp [pd, h1, h2]
  have e1 : b + 1 - 1 = b := by omega
  unfold downL
  rw [split3 _ (show t < l.length by omega), seg (d := dL) (by omega) (fun i h1 h2 => o i (by omega) (by omega)), Nat.zero_add, List.drop_zero, e1]
  congr 1
  rcases Nat.lt_or_ge t b with h' | h'
  · have et : pd l t b x t = [x] ++ [l.getD t dL] := by simp [pd, show ¬ t = b by omega]
    have eb : pd l t b x b = [] := by simp [pd, show ¬ b = t by omega]
    rw [split2 _ (show t + 1 ≤ b by omega) (by omega), et, eb, seg (d := dL) (by omega) (fun i h1 h2 => o i (by omega) (by omega)), seg (d := dL) (by omega) (fun i h1 h2 => o i (by omega) (by omega))]
    rw [show t + 1 + (b - (t + 1)) = b by omega, show b + 1 + (t + 1 + (l.length - t - 1) - b - 1) = l.length by omega, List.take_length, drop_cons (d := dL) h' (by omega)]
    simp
  · have e2 : t = b := by omega
    subst e2
    have et : pd l t t x t = [x] := by simp [pd]
    rw [et, seg (d := dL) (by omega) (fun i h1 h2 => o i (by omega) (by omega)), show t + 1 + (l.length - t - 1) = l.length by omega, List.take_length, List.drop_of_length_le (l := l.take t) (by rw [List.length_take]; omega)]
    simp
theorem pu_flat {l : List Ln} {t b : Nat} {x : Ln} (h : t ≤ b) (hb : b < l.length) : (List.range' 0 l.length).flatMap (pu l t b x) = upL l t b 1 x := by
  have o : ∀ i, i ≠ t → i ≠ b → pu l t b x i = [l.getD i dL] := fun i h1 h2 => by simp [pu, h1, h2]
  unfold upL
  rw [split3 _ (show t < l.length by omega), seg (d := dL) (by omega) (fun i h1 h2 => o i (by omega) (by omega)), Nat.zero_add, List.drop_zero]
  congr 1
  rcases Nat.lt_or_ge t b with h' | h'
  · have et : pu l t b x t = [] := by simp [pu, show ¬ t = b by omega]
    have eb : pu l t b x b = [l.getD b dL] ++ [x] := by simp [pu, show ¬ b = t by omega]
    rw [split2 _ (show t + 1 ≤ b by omega) (by omega), et, eb, seg (d := dL) (by omega) (fun i h1 h2 => o i (by omega) (by omega)), seg (d := dL) (by omega) (fun i h1 h2 => o i (by omega) (by omega))]
    rw [show t + 1 + (b - (t + 1)) = b by omega, show b + 1 + (t + 1 + (l.length - t - 1) - b - 1) = l.length by omega, List.take_length, List.take_add_one, List.drop_append_of_le_length (by rw [List.length_take]; omega)]
    have : l[b]?.toList = [l.getD b dL] := by rw [List.getElem?_eq_getElem hb, getD_el hb]; rfl
    rw [this]
    simp
  · have e2 : t = b := by omega
    subst e2
    have et : pu l t t x t = [x] := by simp [pu]
    rw [et, seg (d := dL) (by omega) (fun i h1 h2 => o i (by omega) (by omega)), show t + 1 + (l.length - t - 1) = l.length by omega, List.take_length, List.drop_of_length_le (l := l.take (t + 1)) (by rw [List.length_take]; omega)]
    simp
theorem pg_flat {l : List Ln} {t : Nat} (h : t < l.length) : (List.range' 0 l.length).flatMap (pg l t) = [l.getD t dL] := by
  have o : ∀ (n a : Nat), (∀ i, a ≤ i → i < a + n → i ≠ t) → (List.range' a n).flatMap (pg l t) = [] := by
    intro n
    induction n with
    | zero => intro a _; rfl
    | succ n ih => intro a ha; rw [List.range'_succ, List.flatMap_cons, ih (a + 1) (fun i h1 h2 => ha i (by omega) (by omega))]; simp [pg, ha a (Nat.le_refl a) (by omega)]
  rw [split3 _ h, o t 0 (fun i _ h2 => by omega), o _ (t + 1) (fun i h1 _ => by omega)]
  simp [pg]
theorem downL_step {l : List Ln} {t b k : Nat} {x : Ln} (h : t + k ≤ b) (hb : b < l.length) : downL (downL l t b k x) t b 1 x = downL l t b (k + 1) x := by
  have hA : (l.take t).length = t := by rw [List.length_take]; omega
  have hM : (List.replicate k x ++ (l.take (b + 1 - k)).drop t).length = b + 1 - t := by rw [List.length_append, List.length_replicate, List.length_drop, List.length_take]; omega
  have e0 : downL l t b k x = l.take t ++ ((List.replicate k x ++ (l.take (b + 1 - k)).drop t) ++ l.drop (b + 1)) := by unfold downL; rw [List.append_assoc (List.replicate k x)]
  have e1 : (downL l t b k x).take t = l.take t := by rw [e0, List.take_left' hA]
  have e2 : (downL l t b k x).drop (b + 1) = l.drop (b + 1) := by
    rw [e0, ← List.append_assoc, List.drop_left' (by rw [List.length_append, hA, hM]; omega)]
  have e3 : ((downL l t b k x).take b).drop t = List.replicate k x ++ (l.take (b + 1 - (k + 1))).drop t := by
    rw [List.drop_take, e0, List.drop_left' hA, List.take_append_of_le_length (by rw [hM]; omega), List.take_append, List.length_replicate, List.take_of_length_le (by rw [List.length_replicate]; omega), show b - t - k = (b - k) - t by omega, ← List.drop_take]
    congr 2
    rw [List.take_take]
    congr 1
    omega
  have e4 : downL (downL l t b k x) t b 1 x = (downL l t b k x).take t ++ (x :: (((downL l t b k x).take b).drop t ++ (downL l t b k x).drop (b + 1))) := rfl
  rw [e4, e1, e2, e3]
  show _ = l.take t ++ (List.replicate (k + 1) x ++ ((l.take (b + 1 - (k + 1))).drop t ++ l.drop (b + 1)))
  rw [List.replicate_succ, List.cons_append, List.append_assoc]
theorem upL_parts {l : List Ln} {t b k : Nat} {x : Ln} (h : t + k ≤ b) (hb : b < l.length) : (upL l t b k x).take t = l.take t ∧ (upL l t b k x).drop (b + 1) = l.drop (b + 1) ∧ ((upL l t b k x).take (b + 1)).drop t = (l.take (b + 1)).drop (t + k) ++ List.replicate k x := by
  have hA : (l.take t).length = t := by rw [List.length_take]; omega
  have hM : ((l.take (b + 1)).drop (t + k) ++ List.replicate k x).length = b + 1 - t := by rw [List.length_append, List.length_replicate, List.length_drop, List.length_take]; omega
  have e0 : upL l t b k x = l.take t ++ (((l.take (b + 1)).drop (t + k) ++ List.replicate k x) ++ l.drop (b + 1)) := by unfold upL; rw [List.append_assoc (List.drop (t + k) (l.take (b + 1)))]
  refine ⟨by rw [e0, List.take_left' hA], by rw [e0, ← List.append_assoc, List.drop_left' (by rw [List.length_append, hA, hM]; omega)], ?_⟩
  rw [List.drop_take, e0, List.drop_left' hA, List.take_append_of_le_length (by rw [hM]; omega), List.take_of_length_le (by rw [hM]; omega)]
theorem upL_step {l : List Ln} {t b k : Nat} {x : Ln} (h : t + k ≤ b) (hb : b < l.length) : upL (upL l t b k x) t b 1 x = upL l t b (k + 1) x := by
  obtain ⟨e1, e2, e3⟩ := upL_parts (x := x) h hb
  have e4 : upL (upL l t b k x) t b 1 x = (upL l t b k x).take t ++ (((upL l t b k x).take (b + 1)).drop (t + 1) ++ ([x] ++ (upL l t b k x).drop (b + 1))) := rfl
  rw [e4, e1, e2, ← List.drop_drop, e3]
  show _ = l.take t ++ ((l.take (b + 1)).drop (t + (k + 1)) ++ (List.replicate (k + 1) x ++ l.drop (b + 1)))
  rw [List.drop_append_of_le_length (by rw [List.length_drop, List.length_take]; omega), List.drop_drop, List.replicate_succ', List.append_assoc, List.append_assoc]
  rfl
theorem gone_step {l : List Ln} {t b k : Nat} {x : Ln} (h : t + k ≤ b) (hb : b < l.length) : (l.take (t + k)).drop t ++ [(upL l t b k x).getD t dL] = (l.take (t + (k + 1))).drop t := by
  obtain ⟨_, _, e3⟩ := upL_parts (x := x) h hb
  have hl := upL_len (x := x) (m := k) (show t ≤ b by omega) hb (by omega)
  have h1 : ((upL l t b k x).take (b + 1)).drop t = (upL l t b k x).getD t dL :: ((upL l t b k x).take (b + 1)).drop (t + 1) := drop_cons (by omega) (by rw [hl]; omega)
  have h2 : (l.take (b + 1)).drop (t + k) = l.getD (t + k) dL :: (l.take (b + 1)).drop (t + k + 1) := drop_cons (by omega) (by omega)
  rw [e3, h2] at h1
  have h3 : l.getD (t + k) dL = (upL l t b k x).getD t dL := (List.cons.inj h1).1
  rw [← h3, show t + (k + 1) = t + k + 1 from rfl, List.take_add_one, List.drop_append_of_le_length (by rw [List.length_take]; omega), List.getElem?_eq_getElem (show t + k < l.length by omega), getD_el (show t + k < l.length by omega)]
  rfl
theorem downL_zero {l : List Ln} {t b : Nat} {x : Ln} (h : t ≤ b) : downL l t b 0 x = l := by
  unfold downL
  rw [List.replicate_zero, List.nil_append, Nat.sub_zero]
  have e : l.drop (b + 1) = (l.drop t).drop (b + 1 - t) := by rw [List.drop_drop]; congr 1; omega
  rw [List.drop_take, e, List.take_append_drop, List.take_append_drop]
theorem upL_zero {l : List Ln} {t b : Nat} {x : Ln} (h : t ≤ b) : upL l t b 0 x = l := by
  unfold upL
  rw [List.replicate_zero, List.nil_append, Nat.add_zero]
  have e : l.drop (b + 1) = (l.drop t).drop (b + 1 - t) := by rw [List.drop_drop]; congr 1; omega
  rw [List.drop_take, e, List.take_append_drop, List.take_append_drop]
end U
namespace Go.Proofs.YtmnbcnhpklejcaaDoor
def live64 (key : Nat) : Lv :=
  bif Nat.beq key 6 then { ls := [1, 2, 3, 5, 9, 10, 11, 12, 31, 32, 33], wd := [⟨12, some 1, .row 34 link⟩] } else bif Nat.beq key 1006 then { ls := [1, 2, 3, 5, 9, 10, 11, 12] } else
  bif Nat.beq key 2 then { ls := [1, 2, 3, 5, 9, 10, 11], wd := [⟨5, some 1, .dat link.sl⟩] } else bif Nat.beq key 1002 then { ls := [5, 10] } else
  { ls := [] }
abbrev M64 (ls : Nat → VS → Option (Tr (Ex × VS))) : Env := (E0.withFns [(120, w120)]).loops live64 ls
@[reducible] def p64_0 : LP := { n := 62, sl := [.d (.int .i64), .d (.int .i64), .d (.int .i64), .c (Leaf.ptr ( 0) ( 0)), .c (Leaf.ptr ( 1) ( 0)), .c (Leaf.ptr ( 2) ( 0)), .d (.int .i64)], bl := [(0, .box [.d (.int .i64), .d (Kd.sl link)]), (1, .box [.d (.int .i64), .d (.int .i64), .d (.int .i64)]), (2, .box [.d (.int .i64), .c (Leaf.nils)])] }
@[reducible] def p64_1 : LP := { n := 62, sl := [.d (.int .i64), .d (.int .i64), .d (.int .i64), .c (Leaf.ptr ( 0) ( 0)), .c (Leaf.ptr ( 1) ( 0)), .c (Leaf.ptr ( 2) ( 0)), .d (.int .i64), .c (Leaf.ptr ( 3) ( 0)), .d (Kd.sl link), .d (.int .i64), .d (.int .i64)], bl := [(0, .box [.d (.int .i64), .d (Kd.sl link)]), (1, .box [.d (.int .i64), .d (.int .i64), .d (.int .i64)]), (2, .box [.d (.int .i64), .c (Leaf.nils)]), (3, .box [.d (.int .i64), .c (Leaf.row ( 4))]), (4, .row 34 (link))] }
def B64_1 (x0 : Int) (x1 : Int) (x2 : Int) (x6 : Int) (x8 : List Line) (x9 : Int) (x10 : Int) (h0_0 : Int) (h0_1 : List Line) (h1_0 : Int) (h1_1 : Int) (h1_2 : Int) (h2_0 : Int) (h3_0 : Int) (h4 : List Line) : Tr (p64_1.T ⊕ (Int × Int × Int × Int × Int × List Line × Int × Int × Int × Int × Int × List Line)) :=
  let v1 : Bool := (!decide (x10 = x1))
  let v2 : Bool := (decide ((List.length h4 + (1 : Nat)) * (32 : Nat) ≤ (140737488355328 : Nat)))
  Tr.ite (decide (x10 < x9))
    (Tr.ite (inB x10 (List.length x8))
      (Tr.ite (decide (x10 = x0))
        (Tr.ite (decide ((0 : Int) ≤ h0_0 ∧ h0_0 ≤ (1000 : Int)))
          (Tr.ite v2
            (Tr.ite v1
              (Tr.ite (decide ((List.length (h4 ++ [(List.replicate (Int.toNat h0_0) (U.blank (h1_0, h1_1, h1_2, ())), false, ())]) + (1 : Nat)) * (32 : Nat) ≤ (140737488355328 : Nat)))
                (Tr.ret
                  (Sum.inl
                    ((x0, x1, x2, x6, x8, x9, IntKind.wrap IntKind.i64 (x10 + (1 : Int)), ()), (h0_0, h0_1, ()), (h1_0, h1_1, h1_2, ()), (h2_0, ()), (h3_0, ()),
                      h4 ++ [(List.replicate (Int.toNat h0_0) (U.blank (h1_0, h1_1, h1_2, ())), false, ())] ++ [rget link x8 x10], ())))
                Tr.fail)
              (Tr.ret
                (Sum.inl
                  ((x0, x1, x2, x6, x8, x9, IntKind.wrap IntKind.i64 (x10 + (1 : Int)), ()), (h0_0, h0_1, ()), (h1_0, h1_1, h1_2, ()), (h2_0, ()), (h3_0, ()),
                    h4 ++ [(List.replicate (Int.toNat h0_0) (U.blank (h1_0, h1_1, h1_2, ())), false, ())], ()))))
            Tr.fail)
          Tr.fail)
        (Tr.ite v1
          (Tr.ite v2
            (Tr.ret (Sum.inl ((x0, x1, x2, x6, x8, x9, IntKind.wrap IntKind.i64 (x10 + (1 : Int)), ()), (h0_0, h0_1, ()), (h1_0, h1_1, h1_2, ()), (h2_0, ()), (h3_0, ()), h4 ++ [rget link x8 x10], ())))
            Tr.fail)
          (Tr.ret (Sum.inl ((x0, x1, x2, x6, x8, x9, IntKind.wrap IntKind.i64 (x10 + (1 : Int)), ()), (h0_0, h0_1, ()), (h1_0, h1_1, h1_2, ()), (h2_0, ()), (h3_0, ()), h4, ())))))
      Tr.fail)
    (Tr.ret (Sum.inr (x0, x1, x2, x6, h0_0, h0_1, h1_0, h1_1, h1_2, h2_0, h3_0, h4)))
def X64_1 (r : (Int × Int × Int × Int × Int × List Line × Int × Int × Int × Int × Int × List Line)) : Ex × VS := Prod.mk (Ex.exit ( 2)) { n := 62, v := [Slot.av (AV.one (Leaf.dat (.int .i64) r.fst)), Slot.av (AV.one (Leaf.dat (.int .i64) r.snd.fst)), Slot.av (AV.one (Leaf.dat (.int .i64) r.snd.snd.fst)), Slot.av (AV.one (Leaf.ptr ( 0) ( 0))), Slot.av (AV.one (Leaf.ptr ( 1) ( 0))), Slot.av (AV.one (Leaf.ptr ( 2) ( 0))), Slot.av (AV.one (Leaf.dat (.int .i64) r.snd.snd.snd.fst)), Slot.av (AV.one (Leaf.ptr ( 3) ( 0)))], h := [( 0, Blk.box [Leaf.dat (.int .i64) r.snd.snd.snd.snd.fst, Leaf.dat (Kd.sl link) r.snd.snd.snd.snd.snd.fst]), ( 1, Blk.box [Leaf.dat (.int .i64) r.snd.snd.snd.snd.snd.snd.fst, Leaf.dat (.int .i64) r.snd.snd.snd.snd.snd.snd.snd.fst, Leaf.dat (.int .i64) r.snd.snd.snd.snd.snd.snd.snd.snd.fst]), ( 2, Blk.box [Leaf.dat (.int .i64) r.snd.snd.snd.snd.snd.snd.snd.snd.snd.fst, Leaf.nils]), ( 3, Blk.box [Leaf.dat (.int .i64) r.snd.snd.snd.snd.snd.snd.snd.snd.snd.snd.fst, Leaf.row ( 4)]), ( 4, Blk.row ( 34) link r.snd.snd.snd.snd.snd.snd.snd.snd.snd.snd.snd)] }
def b64_1 : p64_1.T → Tr (p64_1.T ⊕ (Int × Int × Int × Int × Int × List Line × Int × Int × Int × Int × Int × List Line)) := fun ⟨⟨x0, ⟨x1, ⟨x2, ⟨x6, ⟨x8, ⟨x9, ⟨x10, _⟩⟩⟩⟩⟩⟩⟩, ⟨⟨h0_0, ⟨h0_1, _⟩⟩, ⟨⟨h1_0, ⟨h1_1, ⟨h1_2, _⟩⟩⟩, ⟨⟨h2_0, _⟩, ⟨⟨h3_0, _⟩, ⟨h4, _⟩⟩⟩⟩⟩⟩ => B64_1 x0 x1 x2 x6 x8 x9 x10 h0_0 h0_1 h1_0 h1_1 h1_2 h2_0 h3_0 h4
theorem h64_1 (ls : Nat → VS → Option (Tr (Ex × VS))) (x : p64_1.T) : (evC (evI 2) (lc Tryd.f64 1) (Env.lend (M64 ls) 0) (unV (live64 6) (p64_1.V x))).map (decL 0 (live64 6) (live64 1006)) = (b64_1 x).map (encR p64_1.V X64_1) := by
  obtain ⟨⟨x0, ⟨x1, ⟨x2, ⟨x6, ⟨x8, ⟨x9, ⟨x10, _⟩⟩⟩⟩⟩⟩⟩, ⟨⟨h0_0, ⟨h0_1, _⟩⟩, ⟨⟨h1_0, ⟨h1_1, ⟨h1_2, _⟩⟩⟩, ⟨⟨h2_0, _⟩, ⟨⟨h3_0, _⟩, ⟨h4, _⟩⟩⟩⟩⟩⟩ := x; kernel_rfl
theorem c64_1 (x : p64_1.T) : canV 0 (live64 6) (unV (live64 6) (p64_1.V x)) = p64_1.V x := by
  obtain ⟨⟨x0, ⟨x1, ⟨x2, ⟨x6, ⟨x8, ⟨x9, ⟨x10, _⟩⟩⟩⟩⟩⟩⟩, ⟨⟨h0_0, ⟨h0_1, _⟩⟩, ⟨⟨h1_0, ⟨h1_1, ⟨h1_2, _⟩⟩⟩, ⟨⟨h2_0, _⟩, ⟨⟨h3_0, _⟩, ⟨h4, _⟩⟩⟩⟩⟩⟩ := x; kernel_rfl
theorem l64_1 {T : p64_1.T → Tr (Int × Int × Int × Int × Int × List Line × Int × Int × Int × Int × Int × List Line)} {ls : Nat → VS → Option (Tr (Ex × VS))} (hls : ∀ x, (Env.lend (M64 ls) 0).ls 6 x = p64_1.ls (fun a => (T a).map X64_1) x) (hS : ∀ x r, (T x).val = some r → Rounds b64_1 x r) : LoopOK (evI 2) (Env.lend (M64 ls) 0) (lc Tryd.f64 1) :=
  loopA 6 (live64 6) (live64 1006) p64_1 b64_1 X64_1 T (by kernel_rfl) rfl rfl hls (h64_1 ls) c64_1 hS
def live63 (key : Nat) : Lv :=
  bif Nat.beq key 7 then { ls := [1, 2, 3, 5, 9, 10, 11, 12, 13, 35, 36, 37], wd := [⟨13, some 1, .row 34 link⟩] } else bif Nat.beq key 1007 then { ls := [1, 2, 3, 5, 9, 10, 11, 12, 13] } else
  bif Nat.beq key 3 then { ls := [1, 2, 3, 5, 9, 10, 11, 12], wd := [⟨11, some 1, .dat link.sl⟩, ⟨11, some 2, .row 34 link⟩] } else bif Nat.beq key 1003 then { ls := [10, 11] } else
  { ls := [] }
abbrev M63 (ls : Nat → VS → Option (Tr (Ex × VS))) : Env := (E0.withFns [(120, w120)]).loops live63 ls
@[reducible] def p63_0 : LP := { n := 73, sl := [.d (.int .i64), .d (.int .i64), .d (.int .i64), .c (Leaf.ptr ( 0) ( 0)), .c (Leaf.ptr ( 1) ( 0)), .c (Leaf.ptr ( 2) ( 0)), .c (Leaf.ptr ( 3) ( 0)), .d (.int .i64)], bl := [(0, .box [.d (.int .i64), .d (Kd.sl link)]), (1, .box [.d (.int .i64), .d (.int .i64), .d (.int .i64)]), (2, .box [.d (.int .i64), .c (Leaf.nils), .c (Leaf.nils)]), (3, .box [.d (.int .i64), .d (Kd.sl link), .c (Leaf.row ( 4))]), (4, .row 34 (link))] }
@[reducible] def p63_1 : LP := { n := 73, sl := [.d (.int .i64), .d (.int .i64), .d (.int .i64), .c (Leaf.ptr ( 0) ( 0)), .c (Leaf.ptr ( 1) ( 0)), .c (Leaf.ptr ( 2) ( 0)), .c (Leaf.ptr ( 3) ( 0)), .d (.int .i64), .c (Leaf.ptr ( 4) ( 0)), .d (Kd.sl link), .d (.int .i64), .d (.int .i64)], bl := [(0, .box [.d (.int .i64), .d (Kd.sl link)]), (1, .box [.d (.int .i64), .d (.int .i64), .d (.int .i64)]), (2, .box [.d (.int .i64), .c (Leaf.nils), .c (Leaf.nils)]), (3, .box [.d (.int .i64), .d (Kd.sl link), .c (Leaf.row ( 5))]), (4, .box [.d (.int .i64), .c (Leaf.row ( 6))]), (5, .row 34 (link)), (6, .row 34 (link))] }
def B63_1 (x0 : Int) (x1 : Int) (x2 : Int) (x7 : Int) (x9 : List Line) (x10 : Int) (x11 : Int) (h0_0 : Int) (h0_1 : List Line) (h1_0 : Int) (h1_1 : Int) (h1_2 : Int) (h2_0 : Int) (h3_0 : Int) (h3_1 : List Line) (h4_0 : Int) (h5 : List Line) (h6 : List Line) : Tr (p63_1.T ⊕ (Int × Int × Int × Int × Int × List Line × Int × Int × Int × Int × Int × List Line × Int × List Line × List Line)) :=
  let v1 : Bool := (decide (x11 = x1))
  let v2 : Bool := (decide ((0 : Int) ≤ h0_0 ∧ h0_0 ≤ (1000 : Int)))
  let v3 : Bool := (decide ((List.length h6 + (1 : Nat)) * (32 : Nat) ≤ (140737488355328 : Nat)))
  Tr.ite (decide (x11 < x10))
    (Tr.ite (inB x11 (List.length x9))
      (Tr.ite (decide (x11 = x0))
        (Tr.ite (decide ((List.length h5 + (1 : Nat)) * (32 : Nat) ≤ (140737488355328 : Nat)))
          (Tr.ite v1
            (Tr.ite v2
              (Tr.ite v3
                (Tr.ret
                  (Sum.inl
                    ((x0, x1, x2, x7, x9, x10, IntKind.wrap IntKind.i64 (x11 + (1 : Int)), ()), (h0_0, h0_1, ()), (h1_0, h1_1, h1_2, ()), (h2_0, ()), (h3_0, h3_1, ()), (h4_0, ()),
                      h5 ++ [rget link x9 x11], h6 ++ [(List.replicate (Int.toNat h0_0) (U.blank (h1_0, h1_1, h1_2, ())), false, ())], ())))
                Tr.fail)
              Tr.fail)
            (Tr.ret
              (Sum.inl
                ((x0, x1, x2, x7, x9, x10, IntKind.wrap IntKind.i64 (x11 + (1 : Int)), ()), (h0_0, h0_1, ()), (h1_0, h1_1, h1_2, ()), (h2_0, ()), (h3_0, h3_1, ()), (h4_0, ()), h5 ++ [rget link x9 x11],
                  h6, ()))))
          Tr.fail)
        (Tr.ite v3
          (Tr.ite v1
            (Tr.ite v2
              (Tr.ite (decide ((List.length (h6 ++ [rget link x9 x11]) + (1 : Nat)) * (32 : Nat) ≤ (140737488355328 : Nat)))
                (Tr.ret
                  (Sum.inl
                    ((x0, x1, x2, x7, x9, x10, IntKind.wrap IntKind.i64 (x11 + (1 : Int)), ()), (h0_0, h0_1, ()), (h1_0, h1_1, h1_2, ()), (h2_0, ()), (h3_0, h3_1, ()), (h4_0, ()), h5,
                      h6 ++ [rget link x9 x11] ++ [(List.replicate (Int.toNat h0_0) (U.blank (h1_0, h1_1, h1_2, ())), false, ())], ())))
                Tr.fail)
              Tr.fail)
            (Tr.ret
              (Sum.inl
                ((x0, x1, x2, x7, x9, x10, IntKind.wrap IntKind.i64 (x11 + (1 : Int)), ()), (h0_0, h0_1, ()), (h1_0, h1_1, h1_2, ()), (h2_0, ()), (h3_0, h3_1, ()), (h4_0, ()), h5,
                  h6 ++ [rget link x9 x11], ()))))
          Tr.fail))
      Tr.fail)
    (Tr.ret (Sum.inr (x0, x1, x2, x7, h0_0, h0_1, h1_0, h1_1, h1_2, h2_0, h3_0, h3_1, h4_0, h5, h6)))
def X63_1 (r : (Int × Int × Int × Int × Int × List Line × Int × Int × Int × Int × Int × List Line × Int × List Line × List Line)) : Ex × VS := Prod.mk (Ex.exit ( 2)) { n := 73, v := [Slot.av (AV.one (Leaf.dat (.int .i64) r.fst)), Slot.av (AV.one (Leaf.dat (.int .i64) r.snd.fst)), Slot.av (AV.one (Leaf.dat (.int .i64) r.snd.snd.fst)), Slot.av (AV.one (Leaf.ptr ( 0) ( 0))), Slot.av (AV.one (Leaf.ptr ( 1) ( 0))), Slot.av (AV.one (Leaf.ptr ( 2) ( 0))), Slot.av (AV.one (Leaf.ptr ( 3) ( 0))), Slot.av (AV.one (Leaf.dat (.int .i64) r.snd.snd.snd.fst)), Slot.av (AV.one (Leaf.ptr ( 4) ( 0)))], h := [( 0, Blk.box [Leaf.dat (.int .i64) r.snd.snd.snd.snd.fst, Leaf.dat (Kd.sl link) r.snd.snd.snd.snd.snd.fst]), ( 1, Blk.box [Leaf.dat (.int .i64) r.snd.snd.snd.snd.snd.snd.fst, Leaf.dat (.int .i64) r.snd.snd.snd.snd.snd.snd.snd.fst, Leaf.dat (.int .i64) r.snd.snd.snd.snd.snd.snd.snd.snd.fst]), ( 2, Blk.box [Leaf.dat (.int .i64) r.snd.snd.snd.snd.snd.snd.snd.snd.snd.fst, Leaf.nils, Leaf.nils]), ( 3, Blk.box [Leaf.dat (.int .i64) r.snd.snd.snd.snd.snd.snd.snd.snd.snd.snd.fst, Leaf.dat (Kd.sl link) r.snd.snd.snd.snd.snd.snd.snd.snd.snd.snd.snd.fst, Leaf.row ( 5)]), ( 4, Blk.box [Leaf.dat (.int .i64) r.snd.snd.snd.snd.snd.snd.snd.snd.snd.snd.snd.snd.fst, Leaf.row ( 6)]), ( 5, Blk.row ( 34) link r.snd.snd.snd.snd.snd.snd.snd.snd.snd.snd.snd.snd.snd.fst), ( 6, Blk.row ( 34) link r.snd.snd.snd.snd.snd.snd.snd.snd.snd.snd.snd.snd.snd.snd)] }
def b63_1 : p63_1.T → Tr (p63_1.T ⊕ (Int × Int × Int × Int × Int × List Line × Int × Int × Int × Int × Int × List Line × Int × List Line × List Line)) := fun ⟨⟨x0, ⟨x1, ⟨x2, ⟨x7, ⟨x9, ⟨x10, ⟨x11, _⟩⟩⟩⟩⟩⟩⟩, ⟨⟨h0_0, ⟨h0_1, _⟩⟩, ⟨⟨h1_0, ⟨h1_1, ⟨h1_2, _⟩⟩⟩, ⟨⟨h2_0, _⟩, ⟨⟨h3_0, ⟨h3_1, _⟩⟩, ⟨⟨h4_0, _⟩, ⟨h5, ⟨h6, _⟩⟩⟩⟩⟩⟩⟩⟩ => B63_1 x0 x1 x2 x7 x9 x10 x11 h0_0 h0_1 h1_0 h1_1 h1_2 h2_0 h3_0 h3_1 h4_0 h5 h6
theorem h63_1 (ls : Nat → VS → Option (Tr (Ex × VS))) (x : p63_1.T) : (evC (evI 2) (lc Tryd.f63 1) (Env.lend (M63 ls) 0) (unV (live63 7) (p63_1.V x))).map (decL 0 (live63 7) (live63 1007)) = (b63_1 x).map (encR p63_1.V X63_1) := by
  obtain ⟨⟨x0, ⟨x1, ⟨x2, ⟨x7, ⟨x9, ⟨x10, ⟨x11, _⟩⟩⟩⟩⟩⟩⟩, ⟨⟨h0_0, ⟨h0_1, _⟩⟩, ⟨⟨h1_0, ⟨h1_1, ⟨h1_2, _⟩⟩⟩, ⟨⟨h2_0, _⟩, ⟨⟨h3_0, ⟨h3_1, _⟩⟩, ⟨⟨h4_0, _⟩, ⟨h5, ⟨h6, _⟩⟩⟩⟩⟩⟩⟩⟩ := x; kernel_rfl
theorem c63_1 (x : p63_1.T) : canV 0 (live63 7) (unV (live63 7) (p63_1.V x)) = p63_1.V x := by
  obtain ⟨⟨x0, ⟨x1, ⟨x2, ⟨x7, ⟨x9, ⟨x10, ⟨x11, _⟩⟩⟩⟩⟩⟩⟩, ⟨⟨h0_0, ⟨h0_1, _⟩⟩, ⟨⟨h1_0, ⟨h1_1, ⟨h1_2, _⟩⟩⟩, ⟨⟨h2_0, _⟩, ⟨⟨h3_0, ⟨h3_1, _⟩⟩, ⟨⟨h4_0, _⟩, ⟨h5, ⟨h6, _⟩⟩⟩⟩⟩⟩⟩⟩ := x; kernel_rfl
theorem l63_1 {T : p63_1.T → Tr (Int × Int × Int × Int × Int × List Line × Int × Int × Int × Int × Int × List Line × Int × List Line × List Line)} {ls : Nat → VS → Option (Tr (Ex × VS))} (hls : ∀ x, (Env.lend (M63 ls) 0).ls 7 x = p63_1.ls (fun a => (T a).map X63_1) x) (hS : ∀ x r, (T x).val = some r → Rounds b63_1 x r) : LoopOK (evI 2) (Env.lend (M63 ls) 0) (lc Tryd.f63 1) :=
  loopA 7 (live63 7) (live63 1007) p63_1 b63_1 X63_1 T (by kernel_rfl) rfl rfl hls (h63_1 ls) c63_1 hS
end Go.Proofs.YtmnbcnhpklejcaaDoor

end
section
set_option linter.unusedVariables false
set_option linter.unusedSimpArgs false
set_option maxRecDepth 20000
set_option maxHeartbeats 4000000
open Go Go.Ev
namespace U
theorem pd_len (l : List Ln) (t b : Nat) (x : Ln) (i : Nat) : (pd l t b x i).length ≤ 2 := by
  unfold pd
  rw [List.length_append]
  have h1 : (if i = t then [x] else []).length ≤ 1 := by split <;> simp
  have h2 : (if i = b then [] else [l.getD i dL]).length ≤ 1 := by split <;> simp
  omega
theorem pu_len (l : List Ln) (t b : Nat) (x : Ln) (i : Nat) : (pu l t b x i).length ≤ 2 := by
  unfold pu
  rw [List.length_append]
  have h1 : (if i = t then [] else [l.getD i dL]).length ≤ 1 := by split <;> simp
  have h2 : (if i = b then [x] else []).length ≤ 1 := by split <;> simp
  omega
theorem pg_len (l : List Ln) (t : Nat) (i : Nat) : (pg l t i).length ≤ 1 := by
  unfold pg
  split <;> simp
end U
namespace Go.Proofs.YtmnbcnhpklejcaaDoor
open Go.RowKit
abbrev goOK (t b c : Int) (N : Nat) : Bool := decide (0 ≤ t ∧ t ≤ b ∧ b < (N : Int) ∧ N ≤ 1000 ∧ 0 ≤ c ∧ c ≤ 1000)
def T64_1 (x : p64_1.T) : Tr (Int × Int × Int × Int × Int × List Line × Int × Int × Int × Int × Int × List Line) :=
  .ite (decide ((x.1.2.2.2.2.2.1 : Int) = (List.length (α := Line) x.1.2.2.2.2.1 : Int) ∧ (x.1.2.2.2.2.2.2.1 : Int) = 0 ∧ List.length (α := Line) x.2.2.2.2.2.1 ≤ 1000) && goOK x.1.1 x.1.2.1 x.2.1.1 (List.length (α := Line) x.1.2.2.2.2.1))
    (.ret (x.1.1, x.1.2.1, x.1.2.2.1, x.1.2.2.2.1, x.2.1.1, x.2.1.2.1, x.2.2.1.1, x.2.2.1.2.1, x.2.2.1.2.2.1, x.2.2.2.1.1, x.2.2.2.2.1.1, x.2.2.2.2.2.1 ++ U.downL x.1.2.2.2.2.1 x.1.1.toNat x.1.2.1.toNat 1 (U.bareL x.2.1.1 (x.2.2.1.1, x.2.2.1.2.1, x.2.2.1.2.2.1, ())))) .fail
abbrev N64 (ls : Nat → VS → Option (Tr (Ex × VS))) : Env := M64 fun key x => bif Nat.beq key 6 then p64_1.ls (fun a => (T64_1 a).map X64_1) x else ls key x
theorem L64_1 {ls : Nat → VS → Option (Tr (Ex × VS))} : LoopOK (evI 2) ((N64 ls).lend 0) (lc Tryd.f64 1) := by
  refine l64_1 (T := T64_1) (fun x => rfl) ?_
  rintro ⟨⟨t, b, n, k, l, N, i, z⟩, ⟨c, ls, z1⟩, ⟨a, e, d, z2⟩, ⟨q, z3⟩, ⟨q2, z5⟩, h, z4⟩ r hh
  obtain ⟨g1, g2⟩ := pre_val hh
  rw [Bool.and_eq_true] at g1
  have g0 : ((N : Int) = (l.length : Int) ∧ (i : Int) = 0 ∧ h.length ≤ 1000) := of_decide_eq_true g1.1
  have g3 : ((0 : Int) ≤ t ∧ t ≤ b ∧ (b : Int) < (l.length : Int) ∧ l.length ≤ 1000 ∧ (0 : Int) ≤ c ∧ (c : Int) ≤ 1000) := of_decide_eq_true g1.2
  clear g1
  obtain ⟨rfl, rfl, hh1⟩ := g0
  obtain ⟨e1, e2, e3, e4, e5, e6⟩ := g3
  obtain ⟨t, rfl⟩ := Int.eq_ofNat_of_zero_le (a := t) e1
  obtain ⟨b, rfl⟩ := Int.eq_ofNat_of_zero_le (a := b) (by have : (t : Int) ≤ b := e2; omega)
  have hb : b < l.length := Int.ofNat_lt.1 e3
  have ht : t ≤ b := Int.ofNat_le.1 e2
  cases g2
  have := Rounds.uptoA (B := b64_1) (σ := List Line) (N := l.length) (fun i s => (((t : Int), (b : Int), n, k, l, (l.length : Int), (i : Int), ()), (c, ls, ()), (a, e, d, ()), (q, ()), (q2, ()), s, ())) (fun i s => s ++ U.pd l t b (U.bareL c (a, e, d, ())) i) (fun s => ((t : Int), (b : Int), n, k, c, ls, a, e, d, q, q2, s)) (fun i s => s.length ≤ 1000 + 2 * i) (fun i s hi hv => ?_) (fun s hv => ?_) l.length 0 h (by omega) (by omega)
  · rw [U.fold_flat, U.pd_flat ht hb] at this
    exact this
  · have f0 : s.length ≤ 3000 := by omega
    have er : rget link l (i : Int) = l.getD i U.dL := rgetL l i
    have fi : (i : Int) < (l.length : Int) := by omega
    have ec : (0 : Int) ≤ c ∧ c ≤ 1000 := ⟨e5, e6⟩
    refine ⟨?_, by have := U.pd_len l t b (U.bareL c (a, e, d, ())) i; show (s ++ U.pd l t b (U.bareL c (a, e, d, ())) i).length ≤ _; rw [List.length_append]; omega⟩
    have hi8 : i ≤ 1048576 := by omega
    have f1 : (s.length + 1) * 32 ≤ 140737488355328 := by clear hv er fi ec hi8; omega
    have f2 : (s.length + 1 + 1) * 32 ≤ 140737488355328 := by clear hv er fi ec hi8 f1; omega
    by_cases c1 : i = t <;> by_cases c2 : i = b
    · have d1 : (i : Int) = (t : Int) := by rw [c1]
      have d2 : (i : Int) = (b : Int) := by rw [c2]
      simp only [b64_1, B64_1, Tr.val, U.pd, if_pos c1, if_pos c2, decide_eq_true d1, decide_eq_true d2, decide_eq_true fi, decide_eq_true ec, inB_nat hi, f1, List.append_nil, Bool.not_true, decide_true, cond_true, cond_false, wrap64_nat hi8]
      rfl
    · have d1 : (i : Int) = (t : Int) := by rw [c1]
      have d2 : ¬ (i : Int) = (b : Int) := fun h => c2 (Int.ofNat.inj h)
      simp only [b64_1, B64_1, Tr.val, U.pd, if_pos c1, if_neg c2, decide_eq_true d1, decide_eq_false d2, decide_eq_true fi, decide_eq_true ec, inB_nat hi, f1, f2, er, List.length_append, List.length_singleton, List.append_assoc, Bool.not_false, decide_true, cond_true, cond_false, wrap64_nat hi8]
      rfl
    · have d1 : ¬ (i : Int) = (t : Int) := fun h => c1 (Int.ofNat.inj h)
      have d2 : (i : Int) = (b : Int) := by rw [c2]
      simp only [b64_1, B64_1, Tr.val, U.pd, if_neg c1, if_pos c2, decide_eq_false d1, decide_eq_true d2, decide_eq_true fi, inB_nat hi, f1, List.append_nil, Bool.not_true, decide_true, cond_true, cond_false, wrap64_nat hi8]
    · have d1 : ¬ (i : Int) = (t : Int) := fun h => c1 (Int.ofNat.inj h)
      have d2 : ¬ (i : Int) = (b : Int) := fun h => c2 (Int.ofNat.inj h)
      simp only [b64_1, B64_1, Tr.val, U.pd, if_neg c1, if_neg c2, decide_eq_false d1, decide_eq_false d2, decide_eq_true fi, inB_nat hi, f1, er, List.nil_append, Bool.not_false, decide_true, cond_true, cond_false, wrap64_nat hi8]
  · simp only [b64_1, B64_1, Tr.val, show ¬ ((l.length : Int) < (l.length : Int)) by omega, decide_false, cond_false]
def B64_0 (x0 : Int) (x1 : Int) (x2 : Int) (x6 : Int) (h0_0 : Int) (h0_1 : List Line) (h1_0 : Int) (h1_1 : Int) (h1_2 : Int) (h2_0 : Int) : Tr (p64_0.T ⊕ (Int × List Line × Int)) :=
  let v1 : Int := ((↑(List.length h0_1) : Int))
  let v2 : Int := ((↑(List.length h0_1) : Int))
  let v3 : Int := (IntKind.wrap IntKind.i64 (x1 - x0))
  Tr.ite (decide (x6 < x2))
    (Tr.ite (decide (x6 ≤ v3))
      (Tr.ite (decide (v2 = v1 ∧ (0 : Int) = (0 : Int) ∧ (0 : Nat) ≤ (1000 : Nat)) && goOK x0 x1 h0_0 (List.length h0_1))
        (Tr.ret
          (Sum.inl
            ((x0, x1, x2, IntKind.wrap IntKind.i64 (x6 + (1 : Int)), ()), (h0_0, U.downL h0_1 (Int.toNat x0) (Int.toNat x1) (1 : Nat) (U.bareL h0_0 (h1_0, h1_1, h1_2, ())), ()), (h1_0, h1_1, h1_2, ()),
              (h2_0, ()), ())))
        Tr.fail)
      (Tr.ret (Sum.inr (h0_0, h0_1, h2_0))))
    (Tr.ret (Sum.inr (h0_0, h0_1, h2_0)))
def X64_0 (r : (Int × List Line × Int)) : Ex × VS := Prod.mk (Ex.exit ( 0)) { n := 62, v := [Slot.av (AV.one (Leaf.ptr ( 0) ( 0))), Slot.av (AV.one (Leaf.ptr ( 1) ( 0)))], h := [( 0, Blk.box [Leaf.dat (.int .i64) r.fst, Leaf.dat (Kd.sl link) r.snd.fst]), ( 1, Blk.box [Leaf.dat (.int .i64) r.snd.snd, Leaf.nils])] }
def b64_0 : p64_0.T → Tr (p64_0.T ⊕ (Int × List Line × Int)) := fun ⟨⟨x0, ⟨x1, ⟨x2, ⟨x6, _⟩⟩⟩⟩, ⟨⟨h0_0, ⟨h0_1, _⟩⟩, ⟨⟨h1_0, ⟨h1_1, ⟨h1_2, _⟩⟩⟩, ⟨⟨h2_0, _⟩, _⟩⟩⟩⟩ => B64_0 x0 x1 x2 x6 h0_0 h0_1 h1_0 h1_1 h1_2 h2_0
theorem h64_0 (ls : Nat → VS → Option (Tr (Ex × VS))) (x : p64_0.T) : (evC (evI 2) (lc Tryd.f64 0) (Env.lend (N64 ls) 0) (unV (live64 2) (p64_0.V x))).map (decL 0 (live64 2) (live64 1002)) = (b64_0 x).map (encR p64_0.V X64_0) := by
  obtain ⟨⟨x0, ⟨x1, ⟨x2, ⟨x6, _⟩⟩⟩⟩, ⟨⟨h0_0, ⟨h0_1, _⟩⟩, ⟨⟨h1_0, ⟨h1_1, ⟨h1_2, _⟩⟩⟩, ⟨⟨h2_0, _⟩, _⟩⟩⟩⟩ := x; kernel_rfl
theorem c64_0 (x : p64_0.T) : canV 0 (live64 2) (unV (live64 2) (p64_0.V x)) = p64_0.V x := by
  obtain ⟨⟨x0, ⟨x1, ⟨x2, ⟨x6, _⟩⟩⟩⟩, ⟨⟨h0_0, ⟨h0_1, _⟩⟩, ⟨⟨h1_0, ⟨h1_1, ⟨h1_2, _⟩⟩⟩, ⟨⟨h2_0, _⟩, _⟩⟩⟩⟩ := x; kernel_rfl
theorem l64_0 {T : p64_0.T → Tr (Int × List Line × Int)} {ls : Nat → VS → Option (Tr (Ex × VS))} (hls : ∀ x, (Env.lend (N64 ls) 0).ls 2 x = p64_0.ls (fun a => (T a).map X64_0) x) (hS : ∀ x r, (T x).val = some r → Rounds b64_0 x r) : LoopOK (evI 2) (Env.lend (N64 ls) 0) (lc Tryd.f64 0) :=
  loopA 2 (live64 2) (live64 1002) p64_0 b64_0 X64_0 T (by kernel_rfl) rfl rfl hls (h64_0 ls) c64_0 hS
def T63_1 (x : p63_1.T) : Tr (Int × Int × Int × Int × Int × List Line × Int × Int × Int × Int × Int × List Line × Int × List Line × List Line) :=
  .ite (decide ((x.1.2.2.2.2.2.1 : Int) = (List.length (α := Line) x.1.2.2.2.2.1 : Int) ∧ (x.1.2.2.2.2.2.2.1 : Int) = 0 ∧ List.length (α := Line) x.2.2.2.2.2.2.1 ≤ 100000 ∧ List.length (α := Line) x.2.2.2.2.2.2.2.1 ≤ 1000) && goOK x.1.1 x.1.2.1 x.2.1.1 (List.length (α := Line) x.1.2.2.2.2.1))
    (.ret (x.1.1, x.1.2.1, x.1.2.2.1, x.1.2.2.2.1, x.2.1.1, x.2.1.2.1, x.2.2.1.1, x.2.2.1.2.1, x.2.2.1.2.2.1, x.2.2.2.1.1, x.2.2.2.2.1.1, x.2.2.2.2.1.2.1, x.2.2.2.2.2.1.1, x.2.2.2.2.2.2.1 ++ [List.getD (α := Line) x.1.2.2.2.2.1 x.1.1.toNat U.dL], x.2.2.2.2.2.2.2.1 ++ U.upL x.1.2.2.2.2.1 x.1.1.toNat x.1.2.1.toNat 1 (U.bareL x.2.1.1 (x.2.2.1.1, x.2.2.1.2.1, x.2.2.1.2.2.1, ())))) .fail
abbrev N63 (ls : Nat → VS → Option (Tr (Ex × VS))) : Env := M63 fun key x => bif Nat.beq key 7 then p63_1.ls (fun a => (T63_1 a).map X63_1) x else ls key x
theorem L63_1 {ls : Nat → VS → Option (Tr (Ex × VS))} : LoopOK (evI 2) ((N63 ls).lend 0) (lc Tryd.f63 1) := by
  refine l63_1 (T := T63_1) (fun x => rfl) ?_
  rintro ⟨⟨t, b, n, k, l, N, i, z⟩, ⟨c, ls, z1⟩, ⟨a, e, d, z2⟩, ⟨q, z3⟩, ⟨q2, q3, z5⟩, ⟨q4, z6⟩, g, h, z4⟩ r hh
  obtain ⟨g1, g2⟩ := pre_val hh
  rw [Bool.and_eq_true] at g1
  have g0 : ((N : Int) = (l.length : Int) ∧ (i : Int) = 0 ∧ g.length ≤ 100000 ∧ h.length ≤ 1000) := of_decide_eq_true g1.1
  have g3 : ((0 : Int) ≤ t ∧ t ≤ b ∧ (b : Int) < (l.length : Int) ∧ l.length ≤ 1000 ∧ (0 : Int) ≤ c ∧ (c : Int) ≤ 1000) := of_decide_eq_true g1.2
  clear g1
  obtain ⟨rfl, rfl, hg1, hh1⟩ := g0
  obtain ⟨e1, e2, e3, e4, e5, e6⟩ := g3
  obtain ⟨t, rfl⟩ := Int.eq_ofNat_of_zero_le (a := t) e1
  obtain ⟨b, rfl⟩ := Int.eq_ofNat_of_zero_le (a := b) (by have : (t : Int) ≤ b := e2; omega)
  have hb : b < l.length := Int.ofNat_lt.1 e3
  have ht : t ≤ b := Int.ofNat_le.1 e2
  cases g2
  have fg : ∀ (k i : Nat) (g h : List Line), (List.range' i k).foldl (fun (s : List Line × List Line) i => (s.1 ++ U.pg l t i, s.2 ++ U.pu l t b (U.bareL c (a, e, d, ())) i)) (g, h) = (g ++ (List.range' i k).flatMap (U.pg l t), h ++ (List.range' i k).flatMap (U.pu l t b (U.bareL c (a, e, d, ())))) := by
    intro k
    induction k with
    | zero => intro i g h; simp
    | succ k ih => intro i g h; rw [List.range'_succ, List.foldl_cons, ih, List.flatMap_cons, List.flatMap_cons, List.append_assoc, List.append_assoc]
  have := Rounds.uptoA (B := b63_1) (σ := List Line × List Line) (N := l.length) (fun i s => (((t : Int), (b : Int), n, k, l, (l.length : Int), (i : Int), ()), (c, ls, ()), (a, e, d, ()), (q, ()), (q2, q3, ()), (q4, ()), s.1, s.2, ())) (fun i s => (s.1 ++ U.pg l t i, s.2 ++ U.pu l t b (U.bareL c (a, e, d, ())) i)) (fun s => ((t : Int), (b : Int), n, k, c, ls, a, e, d, q, q2, q3, q4, s.1, s.2)) (fun i s => s.1.length ≤ 100000 + i ∧ s.2.length ≤ 1000 + 2 * i) (fun i s hi hv => ?_) (fun s hv => ?_) l.length 0 (g, h) (by omega) ⟨by simpa using hg1, by simpa using hh1⟩
  · rw [fg, U.pu_flat ht hb, U.pg_flat (by omega)] at this
    exact this
  · obtain ⟨v1, v2⟩ := hv
    have f0 : s.2.length ≤ 3000 := by omega
    have f4 : s.1.length ≤ 200000 := by omega
    have er : rget link l (i : Int) = l.getD i U.dL := rgetL l i
    have fi : (i : Int) < (l.length : Int) := by omega
    have ec : (0 : Int) ≤ c ∧ c ≤ 1000 := ⟨e5, e6⟩
    refine ⟨?_, by have := U.pg_len l t i; show (s.1 ++ U.pg l t i).length ≤ _; rw [List.length_append]; omega, by have := U.pu_len l t b (U.bareL c (a, e, d, ())) i; show (s.2 ++ U.pu l t b (U.bareL c (a, e, d, ())) i).length ≤ _; rw [List.length_append]; omega⟩
    have hi8 : i ≤ 1048576 := by omega
    have f1 : (s.2.length + 1) * 32 ≤ 140737488355328 := by clear v1 v2 er fi ec hi8; omega
    have f2 : (s.2.length + 1 + 1) * 32 ≤ 140737488355328 := by clear v1 v2 er fi ec hi8 f1; omega
    have f3 : (s.1.length + 1) * 32 ≤ 140737488355328 := by clear v1 v2 er fi ec hi8 f1 f2; omega
    by_cases c1 : i = t <;> by_cases c2 : i = b
    · have d1 : (i : Int) = (t : Int) := by rw [c1]
      have d2 : (i : Int) = (b : Int) := by rw [c2]
      simp only [b63_1, B63_1, Tr.val, U.pu, U.pg, if_pos c1, if_pos c2, decide_eq_true d1, decide_eq_true d2, decide_eq_true fi, decide_eq_true ec, inB_nat hi, f1, f3, er, List.nil_append, decide_true, cond_true, cond_false, wrap64_nat hi8]
      rfl
    · have d1 : (i : Int) = (t : Int) := by rw [c1]
      have d2 : ¬ (i : Int) = (b : Int) := fun h => c2 (Int.ofNat.inj h)
      simp only [b63_1, B63_1, Tr.val, U.pu, U.pg, if_pos c1, if_neg c2, decide_eq_true d1, decide_eq_false d2, decide_eq_true fi, decide_eq_true ec, inB_nat hi, f1, f3, er, List.append_nil, decide_true, cond_true, cond_false, wrap64_nat hi8]
    · have d1 : ¬ (i : Int) = (t : Int) := fun h => c1 (Int.ofNat.inj h)
      have d2 : (i : Int) = (b : Int) := by rw [c2]
      simp only [b63_1, B63_1, Tr.val, U.pu, U.pg, if_neg c1, if_pos c2, decide_eq_false d1, decide_eq_true d2, decide_eq_true fi, decide_eq_true ec, inB_nat hi, f1, f2, er, List.length_append, List.length_singleton, List.append_assoc, List.append_nil, decide_true, cond_true, cond_false, wrap64_nat hi8]
      rfl
    · have d1 : ¬ (i : Int) = (t : Int) := fun h => c1 (Int.ofNat.inj h)
      have d2 : ¬ (i : Int) = (b : Int) := fun h => c2 (Int.ofNat.inj h)
      simp only [b63_1, B63_1, Tr.val, U.pu, U.pg, if_neg c1, if_neg c2, decide_eq_false d1, decide_eq_false d2, decide_eq_true fi, inB_nat hi, f1, er, List.append_nil, decide_true, cond_true, cond_false, wrap64_nat hi8]
  · simp only [b63_1, B63_1, Tr.val, show ¬ ((l.length : Int) < (l.length : Int)) by omega, decide_false, cond_false]
def B63_0 (x0 : Int) (x1 : Int) (x2 : Int) (x7 : Int) (h0_0 : Int) (h0_1 : List Line) (h1_0 : Int) (h1_1 : Int) (h1_2 : Int) (h2_0 : Int) (h3_0 : Int) (h3_1 : List Line) (h4 : List Line) : Tr (p63_0.T ⊕ (Int × Int × List Line × List Line)) :=
  let v1 : Int := ((↑(List.length h3_1) : Int))
  let v2 : Int := ((↑(List.length h3_1) : Int))
  let v3 : Int := (IntKind.wrap IntKind.i64 (x1 - x0))
  Tr.ite (decide (x7 < x2))
    (Tr.ite (decide (x7 ≤ v3))
      (Tr.ite (decide (v2 = v1 ∧ (0 : Int) = (0 : Int) ∧ List.length h4 ≤ (100000 : Nat) ∧ (0 : Nat) ≤ (1000 : Nat)) && goOK x0 x1 h0_0 (List.length h3_1))
        (Tr.ret
          (Sum.inl
            ((x0, x1, x2, IntKind.wrap IntKind.i64 (x7 + (1 : Int)), ()), (h0_0, h0_1, ()), (h1_0, h1_1, h1_2, ()), (h2_0, ()),
              (h0_0, U.upL h3_1 (Int.toNat x0) (Int.toNat x1) (1 : Nat) (U.bareL h0_0 (h1_0, h1_1, h1_2, ())), ()), h4 ++ [List.getD h3_1 (Int.toNat x0) U.dL], ())))
        Tr.fail)
      (Tr.ret (Sum.inr (h2_0, h3_0, h3_1, h4))))
    (Tr.ret (Sum.inr (h2_0, h3_0, h3_1, h4)))
def X63_0 (r : (Int × Int × List Line × List Line)) : Ex × VS := Prod.mk (Ex.exit ( 0)) { n := 73, v := [Slot.av (AV.one (Leaf.ptr ( 0) ( 0))), Slot.av (AV.one (Leaf.ptr ( 1) ( 0)))], h := [( 0, Blk.box [Leaf.dat (.int .i64) r.fst, Leaf.nils, Leaf.nils]), ( 1, Blk.box [Leaf.dat (.int .i64) r.snd.fst, Leaf.dat (Kd.sl link) r.snd.snd.fst, Leaf.row ( 2)]), ( 2, Blk.row ( 34) link r.snd.snd.snd)] }
def b63_0 : p63_0.T → Tr (p63_0.T ⊕ (Int × Int × List Line × List Line)) := fun ⟨⟨x0, ⟨x1, ⟨x2, ⟨x7, _⟩⟩⟩⟩, ⟨⟨h0_0, ⟨h0_1, _⟩⟩, ⟨⟨h1_0, ⟨h1_1, ⟨h1_2, _⟩⟩⟩, ⟨⟨h2_0, _⟩, ⟨⟨h3_0, ⟨h3_1, _⟩⟩, ⟨h4, _⟩⟩⟩⟩⟩⟩ => B63_0 x0 x1 x2 x7 h0_0 h0_1 h1_0 h1_1 h1_2 h2_0 h3_0 h3_1 h4
theorem h63_0 (ls : Nat → VS → Option (Tr (Ex × VS))) (x : p63_0.T) : (evC (evI 2) (lc Tryd.f63 0) (Env.lend (N63 ls) 0) (unV (live63 3) (p63_0.V x))).map (decL 0 (live63 3) (live63 1003)) = (b63_0 x).map (encR p63_0.V X63_0) := by
  obtain ⟨⟨x0, ⟨x1, ⟨x2, ⟨x7, _⟩⟩⟩⟩, ⟨⟨h0_0, ⟨h0_1, _⟩⟩, ⟨⟨h1_0, ⟨h1_1, ⟨h1_2, _⟩⟩⟩, ⟨⟨h2_0, _⟩, ⟨⟨h3_0, ⟨h3_1, _⟩⟩, ⟨h4, _⟩⟩⟩⟩⟩⟩ := x; kernel_rfl
theorem c63_0 (x : p63_0.T) : canV 0 (live63 3) (unV (live63 3) (p63_0.V x)) = p63_0.V x := by
  obtain ⟨⟨x0, ⟨x1, ⟨x2, ⟨x7, _⟩⟩⟩⟩, ⟨⟨h0_0, ⟨h0_1, _⟩⟩, ⟨⟨h1_0, ⟨h1_1, ⟨h1_2, _⟩⟩⟩, ⟨⟨h2_0, _⟩, ⟨⟨h3_0, ⟨h3_1, _⟩⟩, ⟨h4, _⟩⟩⟩⟩⟩⟩ := x; kernel_rfl
theorem l63_0 {T : p63_0.T → Tr (Int × Int × List Line × List Line)} {ls : Nat → VS → Option (Tr (Ex × VS))} (hls : ∀ x, (Env.lend (N63 ls) 0).ls 3 x = p63_0.ls (fun a => (T a).map X63_0) x) (hS : ∀ x r, (T x).val = some r → Rounds b63_0 x r) : LoopOK (evI 2) (Env.lend (N63 ls) 0) (lc Tryd.f63 0) :=
  loopA 3 (live63 3) (live63 1003) p63_0 b63_0 X63_0 T (by kernel_rfl) rfl rfl hls (h63_0 ls) c63_0 hS
def T64_0 (x : p64_0.T) : Tr (Int × List Line × Int) :=
  .ite (decide ((x.1.2.2.2.1 : Int) = 0 ∧ 0 ≤ (x.1.2.2.1 : Int)) && goOK x.1.1 x.1.2.1 x.2.1.1 (List.length (α := Line) x.2.1.2.1))
    (.ret (x.2.1.1, U.downL x.2.1.2.1 x.1.1.toNat x.1.2.1.toNat (U.cnt x.1.1 x.1.2.1 x.1.2.2.1) (U.bareL x.2.1.1 (x.2.2.1.1, x.2.2.1.2.1, x.2.2.1.2.2.1, ())), x.2.2.2.1.1)) .fail
abbrev E64 : Env := N64 fun key x => bif Nat.beq key 2 then p64_0.ls (fun a => (T64_0 a).map X64_0) x else none
theorem L64_0 : LoopOK (evI 2) (E64.lend 0) (lc Tryd.f64 0) := by
  refine l64_0 (T := T64_0) (fun x => rfl) ?_
  rintro ⟨⟨t, b, n, i, z⟩, ⟨c, l, z1⟩, ⟨a, e, d, z2⟩, ⟨q, z3⟩, z4⟩ r hh
  obtain ⟨g1, g2⟩ := pre_val hh
  rw [Bool.and_eq_true] at g1
  have g0 : ((i : Int) = 0 ∧ (0 : Int) ≤ n) := of_decide_eq_true g1.1
  have g3 : ((0 : Int) ≤ t ∧ t ≤ b ∧ (b : Int) < (l.length : Int) ∧ l.length ≤ 1000 ∧ (0 : Int) ≤ c ∧ (c : Int) ≤ 1000) := of_decide_eq_true g1.2
  clear g1
  obtain ⟨rfl, e0⟩ := g0
  obtain ⟨e1, e2, e3, e4, e5, e6⟩ := g3
  obtain ⟨t, rfl⟩ := Int.eq_ofNat_of_zero_le (a := t) e1
  obtain ⟨b, rfl⟩ := Int.eq_ofNat_of_zero_le (a := b) (by have : (t : Int) ≤ b := e2; omega)
  obtain ⟨n, rfl⟩ := Int.eq_ofNat_of_zero_le (a := n) e0
  have hb : b < l.length := Int.ofNat_lt.1 e3
  have ht : t ≤ b := Int.ofNat_le.1 e2
  cases g2
  have hK : U.cnt (t : Int) (b : Int) (n : Int) = min n (b + 1 - t) := rfl
  have := Rounds.uptoA (B := b64_0) (σ := Unit) (N := min n (b + 1 - t)) (fun i _ => (((t : Int), (b : Int), (n : Int), (i : Int), ()), (c, U.downL l t b i (U.bareL c (a, e, d, ())), ()), (a, e, d, ()), (q, ()), ())) (fun _ s => s) (fun _ => (c, U.downL l t b (min n (b + 1 - t)) (U.bareL c (a, e, d, ())), q)) (fun _ _ => True) (fun i s hi hv => ?_) (fun s hv => ?_) (min n (b + 1 - t)) 0 () (by omega) trivial
  · simp only [U.downL_zero ht] at this
    exact this
  · refine ⟨?_, trivial⟩
    have f0 : IntKind.wrap IntKind.i64 ((b : Int) - (t : Int)) = ((b - t : Nat) : Int) := by rw [w64 (by omega) (by omega)]; omega
    have hl : (U.downL l t b i (U.bareL c (a, e, d, ()))).length = l.length := U.downL_len ht hb (by omega)
    have go : goOK (t : Int) (b : Int) c l.length = true := decide_eq_true ⟨e1, e2, e3, e4, e5, e6⟩
    have d1 : (i : Int) < (n : Int) := by omega
    have d2 : (i : Int) ≤ ((b - t : Nat) : Int) := by omega
    simp only [b64_0, B64_0, Tr.val, f0, hl, go, decide_eq_true d1, decide_eq_true d2, U.downL_step (show t + i ≤ b by omega) hb, Int.toNat_natCast, Nat.zero_le, and_self, Bool.and_self, decide_true, cond_true, wrap64_nat (show i ≤ 1048576 by omega)]
  · have f0 : IntKind.wrap IntKind.i64 ((b : Int) - (t : Int)) = ((b - t : Nat) : Int) := by rw [w64 (by omega) (by omega)]; omega
    rcases Nat.lt_or_ge (min n (b + 1 - t)) n with h | h
    · have d1 : ((min n (b + 1 - t) : Nat) : Int) < (n : Int) := by omega
      have d2 : ¬ ((min n (b + 1 - t) : Nat) : Int) ≤ ((b - t : Nat) : Int) := by omega
      simp only [b64_0, B64_0, Tr.val, f0, decide_eq_true d1, decide_eq_false d2, cond_true, cond_false]
    · have d1 : ¬ ((min n (b + 1 - t) : Nat) : Int) < (n : Int) := by omega
      simp only [b64_0, B64_0, Tr.val, decide_eq_false d1, cond_false]
def d64 (a1 : Int) (a2 : List Line) (b : Int) (c : Int) (y : Int) (f1 : Int) (f2 : Int) (f3 : Int) : Tr (Int × List U.Ln) :=
  Tr.ite (decide ((0 : Int) = (0 : Int) ∧ (0 : Int) ≤ y) && goOK b c a1 (List.length a2)) (Tr.ret (a1, U.downL a2 (Int.toNat b) (Int.toNat c) (U.cnt b c y) (U.bareL a1 (f1, f2, f3, ())))) Tr.fail
def e64 (r : Int × List U.Ln) : FRes := { rs := Slot.av (AV.agg [Leaf.dat (.int .i64) r.fst, Leaf.dat (Kd.sl link) r.snd]), upd := [], new := [] }
@[reducible] def a64 : List AK := [AK.d gridk, AK.d (.int .i64), AK.d (.int .i64), AK.d (.int .i64), AK.d attk]
@[reducible] def b64 : List BK := []
theorem t64 (a1 : Int) (a2 : List Line) (b : Int) (c : Int) (y : Int) (f1 : Int) (f2 : Int) (f3 : Int) : evFn (E64) Tryd.f64 [PM.data gridk] (akAV a64 ((a1, a2, ()), b, c, y, (f1, f2, f3, ()), ())) (bkBs b64 ()) = (d64 a1 a2 b c y f1 f2 f3).map e64 := by kernel_rfl
def s64 (C : akT a64 → Bool) (G : akT a64 → Int × List U.Ln) : FSpec := aspec a64 b64 e64 (fun x _ => C x) (fun x _ => G x)
theorem k64 {C : akT a64 → Bool} {G : akT a64 → Int × List U.Ln} (hd : ∀ (a1 : Int) (a2 : List Line) (b : Int) (c : Int) (y : Int) (f1 : Int) (f2 : Int) (f3 : Int), C ((a1, a2, ()), b, c, y, (f1, f2, f3, ()), ()) = true → (d64 a1 a2 b c y f1 f2 f3).val = some (G ((a1, a2, ()), b, c, y, (f1, f2, f3, ()), ()))) (IO : ItOK Tryd.prog (E64) := by exact itOK_none rfl) (L : ∀ c, Tryd.f64.body = some c → LsOK (evI 2) ((E64).lend 0) c := by exact fun c _ => LsOK_none rfl c) : SpecOK Tryd.prog E0 64 (s64 C G) :=
  aspec_ok (ak := a64) (bl := b64) (e := e64) (c := fun x _ => C x) (g := fun x _ => G x) (E0 := E0) (E := E64) tab (.cons wk120 .nil) rfl rfl hm Tryd.func64 (by kernel_rfl) [PM.data gridk] (fun X Y H => by obtain ⟨⟨a1, ⟨a2, _⟩⟩, ⟨b, ⟨c, ⟨y, ⟨⟨f1, ⟨f2, ⟨f3, _⟩⟩⟩, _⟩⟩⟩⟩⟩ := X; exact val_of (t64 a1 a2 b c y f1 f2 f3) (hd a1 a2 b c y f1 f2 f3 H)) IO L
def T63_0 (x : p63_0.T) : Tr (Int × Int × List Line × List Line) :=
  .ite (decide ((x.1.2.2.2.1 : Int) = 0 ∧ 0 ≤ (x.1.2.2.1 : Int) ∧ List.length (α := Line) x.2.2.2.2.2.1 = 0 ∧ (x.2.2.2.2.1.1 : Int) = x.2.1.1) && goOK x.1.1 x.1.2.1 x.2.1.1 (List.length (α := Line) x.2.2.2.2.1.2.1))
    (.ret (x.2.2.2.1.1, x.2.1.1, U.upL x.2.2.2.2.1.2.1 x.1.1.toNat x.1.2.1.toNat (U.cnt x.1.1 x.1.2.1 x.1.2.2.1) (U.bareL x.2.1.1 (x.2.2.1.1, x.2.2.1.2.1, x.2.2.1.2.2.1, ())), List.drop (α := Line) x.1.1.toNat (List.take (α := Line) (x.1.1.toNat + U.cnt x.1.1 x.1.2.1 x.1.2.2.1) x.2.2.2.2.1.2.1))) .fail
abbrev E63 : Env := N63 fun key x => bif Nat.beq key 3 then p63_0.ls (fun a => (T63_0 a).map X63_0) x else none
theorem L63_0 : LoopOK (evI 2) (E63.lend 0) (lc Tryd.f63 0) := by
  refine l63_0 (T := T63_0) (fun x => rfl) ?_
  rintro ⟨⟨t, b, n, i, z⟩, ⟨c, ls, z1⟩, ⟨a, e, d, z2⟩, ⟨q, z3⟩, ⟨c2, l, z5⟩, g, z4⟩ r hh
  obtain ⟨g1, g2⟩ := pre_val hh
  rw [Bool.and_eq_true] at g1
  have g0 : ((i : Int) = 0 ∧ (0 : Int) ≤ n ∧ g.length = 0 ∧ (c2 : Int) = c) := of_decide_eq_true g1.1
  have g3 : ((0 : Int) ≤ t ∧ t ≤ b ∧ (b : Int) < (l.length : Int) ∧ l.length ≤ 1000 ∧ (0 : Int) ≤ c ∧ (c : Int) ≤ 1000) := of_decide_eq_true g1.2
  clear g1
  obtain ⟨rfl, e0, eg, rfl⟩ := g0
  have eg : g = [] := List.eq_nil_of_length_eq_zero eg
  subst eg
  obtain ⟨e1, e2, e3, e4, e5, e6⟩ := g3
  obtain ⟨t, rfl⟩ := Int.eq_ofNat_of_zero_le (a := t) e1
  obtain ⟨b, rfl⟩ := Int.eq_ofNat_of_zero_le (a := b) (by have : (t : Int) ≤ b := e2; omega)
  obtain ⟨n, rfl⟩ := Int.eq_ofNat_of_zero_le (a := n) e0
  have hb : b < l.length := Int.ofNat_lt.1 e3
  have ht : t ≤ b := Int.ofNat_le.1 e2
  cases g2
  have hK : U.cnt (t : Int) (b : Int) (n : Int) = min n (b + 1 - t) := rfl
  have := Rounds.uptoA (B := b63_0) (σ := Unit) (N := min n (b + 1 - t)) (fun i _ => (((t : Int), (b : Int), (n : Int), (i : Int), ()), (c2, ls, ()), (a, e, d, ()), (q, ()), (c2, U.upL l t b i (U.bareL c2 (a, e, d, ())), ()), (l.take (t + i)).drop t, ())) (fun _ s => s) (fun _ => (q, c2, U.upL l t b (min n (b + 1 - t)) (U.bareL c2 (a, e, d, ())), (l.take (t + min n (b + 1 - t))).drop t)) (fun _ _ => True) (fun i s hi hv => ?_) (fun s hv => ?_) (min n (b + 1 - t)) 0 () (by omega) trivial
  · have z0 : (l.take (t + 0)).drop t = [] := List.drop_of_length_le (by rw [List.length_take]; omega)
    simp only [U.upL_zero ht, z0] at this
    exact this
  · refine ⟨?_, trivial⟩
    have f0 : IntKind.wrap IntKind.i64 ((b : Int) - (t : Int)) = ((b - t : Nat) : Int) := by rw [w64 (by omega) (by omega)]; omega
    have hl : (U.upL l t b i (U.bareL c2 (a, e, d, ()))).length = l.length := U.upL_len ht hb (by omega)
    have hg : ((l.take (t + i)).drop t).length ≤ 100000 := by rw [List.length_drop, List.length_take]; omega
    have go : goOK (t : Int) (b : Int) c2 l.length = true := decide_eq_true ⟨e1, e2, e3, e4, e5, e6⟩
    have d1 : (i : Int) < (n : Int) := by omega
    have d2 : (i : Int) ≤ ((b - t : Nat) : Int) := by omega
    simp only [b63_0, B63_0, Tr.val, f0, hl, hg, go, decide_eq_true d1, decide_eq_true d2, U.upL_step (show t + i ≤ b by omega) hb, U.gone_step (show t + i ≤ b by omega) hb, Int.toNat_natCast, Nat.zero_le, and_self, Bool.and_self, decide_true, cond_true, wrap64_nat (show i ≤ 1048576 by omega)]
  · have f0 : IntKind.wrap IntKind.i64 ((b : Int) - (t : Int)) = ((b - t : Nat) : Int) := by rw [w64 (by omega) (by omega)]; omega
    rcases Nat.lt_or_ge (min n (b + 1 - t)) n with h | h
    · have d1 : ((min n (b + 1 - t) : Nat) : Int) < (n : Int) := by omega
      have d2 : ¬ ((min n (b + 1 - t) : Nat) : Int) ≤ ((b - t : Nat) : Int) := by omega
      simp only [b63_0, B63_0, Tr.val, f0, decide_eq_true d1, decide_eq_false d2, cond_true, cond_false]
    · have d1 : ¬ ((min n (b + 1 - t) : Nat) : Int) < (n : Int) := by omega
      simp only [b63_0, B63_0, Tr.val, decide_eq_false d1, cond_false]
def d63 (a1 : Int) (a2 : List Line) (b : Int) (c : Int) (y : Int) (f1 : Int) (f2 : Int) (f3 : Int) : Tr (Int × List U.Ln × List Line) :=
  Tr.ite (decide ((0 : Int) = (0 : Int) ∧ (0 : Int) ≤ y ∧ (0 : Nat) = (0 : Nat) ∧ a1 = a1) && goOK b c a1 (List.length a2))
    (Tr.ret (a1, U.upL a2 (Int.toNat b) (Int.toNat c) (U.cnt b c y) (U.bareL a1 (f1, f2, f3, ())), List.drop (Int.toNat b) (List.take (Int.toNat b + U.cnt b c y) a2))) Tr.fail
def e63 (r : Int × List U.Ln × List Line) : FRes := { rs := Slot.av (AV.agg [Leaf.dat (.int .i64) r.fst, Leaf.dat (Kd.sl link) r.snd.fst, Leaf.dat (Kd.sl link) r.snd.snd]), upd := [], new := [] }
@[reducible] def a63 : List AK := [AK.d gridk, AK.d (.int .i64), AK.d (.int .i64), AK.d (.int .i64), AK.d attk]
@[reducible] def b63 : List BK := []
theorem t63 (a1 : Int) (a2 : List Line) (b : Int) (c : Int) (y : Int) (f1 : Int) (f2 : Int) (f3 : Int) : evFn (E63) Tryd.f63 [PM.data (Kd.pr gridk (Kd.pr (Kd.sl link) Kd.un))] (akAV a63 ((a1, a2, ()), b, c, y, (f1, f2, f3, ()), ())) (bkBs b63 ()) = (d63 a1 a2 b c y f1 f2 f3).map e63 := by kernel_rfl
def s63 (C : akT a63 → Bool) (G : akT a63 → Int × List U.Ln × List Line) : FSpec := aspec a63 b63 e63 (fun x _ => C x) (fun x _ => G x)
theorem k63 {C : akT a63 → Bool} {G : akT a63 → Int × List U.Ln × List Line} (hd : ∀ (a1 : Int) (a2 : List Line) (b : Int) (c : Int) (y : Int) (f1 : Int) (f2 : Int) (f3 : Int), C ((a1, a2, ()), b, c, y, (f1, f2, f3, ()), ()) = true → (d63 a1 a2 b c y f1 f2 f3).val = some (G ((a1, a2, ()), b, c, y, (f1, f2, f3, ()), ()))) (IO : ItOK Tryd.prog (E63) := by exact itOK_none rfl) (L : ∀ c, Tryd.f63.body = some c → LsOK (evI 2) ((E63).lend 0) c := by exact fun c _ => LsOK_none rfl c) : SpecOK Tryd.prog E0 63 (s63 C G) :=
  aspec_ok (ak := a63) (bl := b63) (e := e63) (c := fun x _ => C x) (g := fun x _ => G x) (E0 := E0) (E := E63) tab (.cons wk120 .nil) rfl rfl hm Tryd.func63 (by kernel_rfl) [PM.data (Kd.pr gridk (Kd.pr (Kd.sl link) Kd.un))] (fun X Y H => by obtain ⟨⟨a1, ⟨a2, _⟩⟩, ⟨b, ⟨c, ⟨y, ⟨⟨f1, ⟨f2, ⟨f3, _⟩⟩⟩, _⟩⟩⟩⟩⟩ := X; exact val_of (t63 a1 a2 b c y f1 f2 f3) (hd a1 a2 b c y f1 f2 f3 H)) IO L
abbrev w64 : FSpec := s64 (fun x => decide (0 ≤ (x.2.2.2.1 : Int)) && goOK x.2.1 x.2.2.1 x.1.1 (List.length (α := Line) x.1.2.1)) fun x => (x.1.1, U.downL x.1.2.1 x.2.1.toNat x.2.2.1.toNat (U.cnt x.2.1 x.2.2.1 x.2.2.2.1) (U.bareL x.1.1 x.2.2.2.2.1))
theorem wk64 : SpecOK Tryd.prog E0 64 w64 := by
  refine k64 (fun c l t b n a e d H => ?_) (L := ls_ok (lcs := [lc Tryd.f64 0, lc Tryd.f64 1]) (rgs := []) (by kernel_rfl) (by kernel_rfl) ⟨L64_0, L64_1⟩ trivial)
  have H : (decide (0 ≤ n) && goOK t b c l.length) = true := H
  rw [Bool.and_eq_true] at H
  simp only [d64, Tr.val, of_decide_eq_true H.1, H.2, and_self, Bool.and_self, decide_true, cond_true]
abbrev w63 : FSpec := s63 (fun x => decide (0 ≤ (x.2.2.2.1 : Int)) && goOK x.2.1 x.2.2.1 x.1.1 (List.length (α := Line) x.1.2.1)) fun x => (x.1.1, U.upL x.1.2.1 x.2.1.toNat x.2.2.1.toNat (U.cnt x.2.1 x.2.2.1 x.2.2.2.1) (U.bareL x.1.1 x.2.2.2.2.1), List.drop (α := Line) x.2.1.toNat (List.take (α := Line) (x.2.1.toNat + U.cnt x.2.1 x.2.2.1 x.2.2.2.1) x.1.2.1))
theorem wk63 : SpecOK Tryd.prog E0 63 w63 := by
  refine k63 (fun c l t b n a e d H => ?_) (L := ls_ok (lcs := [lc Tryd.f63 0, lc Tryd.f63 1]) (rgs := []) (by kernel_rfl) (by kernel_rfl) ⟨L63_0, L63_1⟩ trivial)
  have H : (decide (0 ≤ n) && goOK t b c l.length) = true := H
  rw [Bool.and_eq_true] at H
  simp only [d63, Tr.val, of_decide_eq_true H.1, H.2, and_self, Bool.and_self, decide_true, cond_true]
abbrev G10 : List (Nat × FSpec) := [(26, w26), (29, w29), (32, w32), (36, w36), (37, w37), (38, w38), (58, w58), (59, w59), (60, w60), (61, w61), (62, w62), (63, w63), (64, w64), (65, w65), (66, w66)]
theorem AG10 : AllFn Tryd.prog E0 G10 := .cons wk26 (.cons wk29 (.cons wk32 (.cons wk36 (.cons wk37 (.cons wk38 (.cons wk58 (.cons wk59 (.cons wk60 (.cons wk61 (.cons wk62 (.cons wk63 (.cons wk64 (.cons wk65 (.cons wk66 .nil))))))))))))))
def live10 (key : Nat) : Lv :=
  bif Nat.beq key 25015 then { ls := [9999, 10] } else bif Nat.beq key 45015 then { ls := [10, 151, 152, 153, 154, 155, 156, 157, 158, 159, 160, 161, 162, 163] } else
  bif Nat.beq key 25014 then { ls := [9999, 10] } else bif Nat.beq key 45014 then { ls := [10, 128, 129, 130, 131, 132, 133, 134, 135, 136, 137, 138, 139, 140, 141, 142, 143, 144, 145, 146, 147, 148, 149, 150] } else
  bif Nat.beq key 20127 then { ls := [9999, 5, 16, 17, 18, 19] } else bif Nat.beq key 40127 then { ls := [10, 128, 129, 130, 131, 132, 133, 134, 135, 136, 137, 138, 139, 140, 141, 142, 143, 144, 145, 146, 147, 148, 149, 150] } else
  bif Nat.beq key 25013 then { ls := [9999, 1, 2, 3, 5, 9, 16, 17, 18, 19, 127] } else bif Nat.beq key 45013 then { ls := [116, 117, 118, 119, 120, 121, 122, 123, 124, 125, 126, 127] } else
  bif Nat.beq key 20098 then { ls := [9999, 1, 2, 3, 5, 9, 16, 17, 18, 19] } else bif Nat.beq key 40098 then { ls := [10] } else
  bif Nat.beq key 25009 then { ls := [9999, 1, 2, 3, 5, 9, 16, 17, 18, 19, 98] } else bif Nat.beq key 45009 then { ls := [74, 75, 76, 77, 78, 79, 80, 81, 82, 83, 84, 85, 86, 87, 88, 89, 90, 91, 92, 93, 94, 95, 96, 97, 98] } else
  bif Nat.beq key 20115 then { ls := [9999, 1, 2, 3, 5, 9, 16, 17, 18, 19] } else bif Nat.beq key 40115 then { ls := [10] } else
  bif Nat.beq key 25011 then { ls := [9999, 1, 2, 3, 5, 9, 16, 17, 18, 19, 115] } else bif Nat.beq key 45011 then { ls := [99, 100, 101, 102, 103, 104, 105, 106, 107, 108, 109, 110, 111, 112, 113, 114, 115] } else
  bif Nat.beq key 20067 then { ls := [9999, 1, 2, 3, 5, 9, 16, 17, 18, 19] } else bif Nat.beq key 40067 then { ls := [10, 20, 68, 69, 70, 71, 72, 73, 74, 75, 76, 77, 78, 79, 80, 81, 82, 83, 84, 85, 86, 87, 88, 89, 90, 91, 92, 93, 94, 95, 96, 97, 98, 99, 100, 101, 102, 103, 104, 105, 106, 107, 108, 109, 110, 111, 112, 113, 114, 115] } else
  { ls := [] }
def d10 (a1 : Int) (a2 : List Line) (b : Int) (c : Int) (y : Int) (f1 : Int) (f2 : Int) (f3 : Int) : Tr (Bool) :=
  let v1 : Int := (minI y (200 : Int))
  let v2 : List U.Ln := (U.few a2 (52 : Nat))
  let v3 : Bool := (U.okl v2)
  let v4 : Bool := (U.place a1 v2 b c)
  let v5 : Int := ((↑(List.length v2) : Int))
  let v6 : List Cell := ((List.getD v2 (Int.toNat b) U.dL).fst)
  let v7 : Bool := (U.region a1 v2 b c v1 (f1, f2, f3, ()))
  let v8 : Int × List U.Ln × Int := (U.rawDel a1 v2 b c v1 (f1, f2, f3, ()))
  let v9 : Int × List U.Ln × Int := (U.rawIns a1 v2 b c v1 (f1, f2, f3, ()))
  let v10 : Int × List U.Ln × List U.Ln × Int := (U.rawUp a1 v2 b c v1 (f1, f2, f3, ()))
  let v11 : Int × List U.Ln × Int := (U.rawDown a1 v2 b c v1 (f1, f2, f3, ()))
  let v12 : List Line × Int := (v9.snd)
  let v13 : Int := (v9.fst)
  let v14 : List Line × Int := (v8.snd)
  let v15 : Int := (v8.fst)
  let v16 : Int := (v11.fst)
  let v17 : List Line × Int := (v11.snd)
  let v18 : Bool := (decide ((0 : Int) ≤ v1) && goOK b c a1 (List.length v2))
  let v19 : Int := (v10.fst)
  let v20 : List Line × List Line × Int := (v10.snd)
  let v21 : Int := (v12.snd)
  let v22 : List Line := (v12.fst)
  let v23 : List Line := (v14.fst)
  let v24 : Int := (v14.snd)
  let v25 : Int := (v17.snd)
  let v26 : List Line := (v17.fst)
  let v27 : Bool := (okls v23)
  let v28 : Bool := (okls v22)
  let v29 : Bool := (okls v26)
  let v30 : List Line × Int := (v20.snd)
  let v31 : List Line := (v20.fst)
  let v32 : Bool := (okls v31)
  let v33 : List Line := (v30.fst)
  let v34 : Int := (v30.snd)
  let v35 : Int := ((↑(List.length v33) : Int))
  let v36 : Bool := (!U.eqLs v33 (List.drop (Int.toNat b) (List.take (Int.toNat b + U.cnt b c v1) v2)))
  let v37 : Bool := (decide (v16 = a1))
  let v38 : Bool := (decide (v15 = a1))
  let v39 : Bool := (decide (v13 = a1))
  let v40 : Bool := (decide (v19 = a1))
  let v41 : Bool := (decide (v25 = (0 : Int)))
  let v42 : Bool := (decide (v24 = (0 : Int)))
  let v43 : Bool := (decide (v21 = (0 : Int)))
  let v44 : Bool := (decide (v34 = (0 : Int)))
  let v45 : Bool := (!decide (v35 = (0 : Int)))
  let v46 : Bool := (decide ((0 : Int) ≤ b ∧ b < v5 ∧ List.length v2 ≤ (1048576 : Nat)) && colOK c v1 a1 (List.length v6))
  let v47 : Bool := (decide (v25 = (1 : Int)) && (decide (v16 = (0 : Int)) && U.eqLs v26 []))
  let v48 : Bool := (decide (v21 = (1 : Int)) && (decide (v13 = (0 : Int)) && U.eqLs v22 []))
  let v49 : Bool := (decide (v24 = (1 : Int)) && (decide (v15 = (0 : Int)) && U.eqLs v23 []))
  let v50 : Bool := (decide (v34 = (1 : Int)) && (decide (v19 = (0 : Int)) && U.eqLs v31 []))
  let v51 : Bool := (bif false then v43 && (v39 && U.eqLs v22 v2) else v48)
  let v52 : Bool := (bif true then v43 && (v39 && U.eqLs v22 (U.setC v2 (Int.toNat b) (U.insC v6 (min (Int.toNat v1) (Int.toNat a1)) (Int.toNat c) (f1, f2, f3, ())))) else v48)
  let v53 : Bool := (!bif false then v44 && (v40 && U.eqLs v31 v2) else v50)
  let v54 : Bool := (!bif true then v44 && (v40 && U.eqLs v31 (U.upL v2 (Int.toNat b) (Int.toNat c) (U.cnt b c v1) (U.bareL a1 (f1, f2, f3, ())))) else v50)
  let v55 : Bool := (Kd.eqb (.int .i64) b b && (Kd.eqb (.int .i64) c c && (Kd.eqb (.int .i64) v1 v1 && (Kd.eqb (.int .i64) v21 v21 && Kd.eqb (.int .i64) v24 v24))) && (Kd.eqb (.int .i64) a1 a1 && Kd.eqb (Kd.sl link) v2 v2 && (Kd.eqb (.int .i64) f1 f1 && (Kd.eqb (.int .i64) f2 f2 && Kd.eqb (.int .i64) f3 f3) && (Kd.eqb (.int .i64) v13 v13 && Kd.eqb (Kd.sl link) v22 v22 && (Kd.eqb (.int .i64) v15 v15 && Kd.eqb (Kd.sl link) v23 v23)))))
  let v56 : Bool := ((bif v53 then true else (bif v45 then true else v29) && v55) && v55)
  let v57 : Bool := ((bif v54 then true else (decide (List.length v33 ≤ (1048576 : Nat)) && List.all v33 fun (y : Line) => decide (List.length y.fst ≤ (1048576 : Nat))) && ((bif v36 then true else v18 && v29) && v55)) && v55)
  Tr.ite v3
    (Tr.ite v3
      (Tr.ite v3
        (Tr.ite v3
          (Tr.ite v3
            (Tr.ite
              ((bif v7 then
                  v18 &&
                    (v32 &&
                      (v57 &&
                        !bif v54 then true
                          else bif v36 then true else !bif true then v41 && (v37 && U.eqLs v26 (U.downL v2 (Int.toNat b) (Int.toNat c) (U.cnt b c v1) (U.bareL a1 (f1, f2, f3, ())))) else v47))
                else v32 && (v56 && !bif v53 then true else bif v45 then true else !bif false then v41 && (v37 && U.eqLs v26 v2) else v47)) &&
                v55)
              (Tr.ite v3
                (Tr.ite ((bif v4 then v55 else true) && v55)
                  (Tr.ite (bif v4 then bif decide ((0 : Int) ≤ v1) then U.look (f1, f2, f3, ()) else false else false)
                    (Tr.ite (bif true then v46 && (v28 && bif v52 then v46 && v27 else true) else true)
                      (Tr.ret
                        (bif true then
                          bif v52 then bif true then v42 && (v38 && U.eqLs v23 (U.setC v2 (Int.toNat b) (U.delC v6 (min (Int.toNat v1) (Int.toNat a1)) (Int.toNat c) (f1, f2, f3, ())))) else v49
                          else false
                        else false))
                      Tr.fail)
                    (Tr.ite (bif true then v28 && bif v51 then v27 else true else true) (Tr.ret (bif true then bif v51 then bif false then v42 && (v38 && U.eqLs v23 v2) else v49 else false else false))
                      Tr.fail))
                  Tr.fail)
                Tr.fail)
              (Tr.ite v7
                (Tr.ite v18
                  (Tr.ite v32
                    (Tr.ite v57
                      (Tr.ite
                        (bif v54 then true
                        else bif v36 then true else !bif true then v41 && (v37 && U.eqLs v26 (U.downL v2 (Int.toNat b) (Int.toNat c) (U.cnt b c v1) (U.bareL a1 (f1, f2, f3, ())))) else v47)
                        (Tr.ret false) Tr.fail)
                      Tr.fail)
                    Tr.fail)
                  Tr.fail)
                (Tr.ite v32 (Tr.ite v56 (Tr.ite (bif v53 then true else bif v45 then true else !bif false then v41 && (v37 && U.eqLs v26 v2) else v47) (Tr.ret false) Tr.fail) Tr.fail) Tr.fail)))
            Tr.fail)
          Tr.fail)
        Tr.fail)
      Tr.fail)
    Tr.fail
def e10 (r : Bool) : FRes := { rs := Slot.av (AV.one (Leaf.dat Kd.bool r)), upd := [], new := [] }
@[reducible] def a10 : List AK := [AK.d gridk, AK.d (.int .i64), AK.d (.int .i64), AK.d (.int .i64), AK.d attk]
@[reducible] def b10 : List BK := []
theorem t10 (a1 : Int) (a2 : List Line) (b : Int) (c : Int) (y : Int) (f1 : Int) (f2 : Int) (f3 : Int) : evFn (Env.loops (Env.withFns E0 G10) live10 fun (x : Nat) (x_1 : VS) => none) Tryd.f10 [PM.data Kd.bool] (akAV a10 ((a1, a2, ()), b, c, y, (f1, f2, f3, ()), ())) (bkBs b10 ()) = (d10 a1 a2 b c y f1 f2 f3).map e10 := by kernel_rfl
def s10' (G : akT a10 → Bool) : FSpec := aspec0 a10 b10 e10 (fun x _ => G x)
theorem k10' {G : akT a10 → Bool} (hd : ∀ (a1 : Int) (a2 : List Line) (b : Int) (c : Int) (y : Int) (f1 : Int) (f2 : Int) (f3 : Int), (d10 a1 a2 b c y f1 f2 f3).val = some (G ((a1, a2, ()), b, c, y, (f1, f2, f3, ()), ()))) (IO : ItOK Tryd.prog (Env.loops (Env.withFns E0 G10) live10 fun (x : Nat) (x_1 : VS) => none) := by exact itOK_none rfl) (L : ∀ c, Tryd.f10.body = some c → LsOK (evI 2) ((Env.loops (Env.withFns E0 G10) live10 fun (x : Nat) (x_1 : VS) => none).lend 0) c := by exact fun c _ => LsOK_none rfl c) : SpecOK Tryd.prog E0 10 (s10' G) :=
  aspec0_ok (ak := a10) (bl := b10) (e := e10) (g := fun x _ => G x) (E0 := E0) (E := Env.loops (Env.withFns E0 G10) live10 fun (x : Nat) (x_1 : VS) => none) tab AG10 rfl rfl hm Tryd.func10 (by kernel_rfl) [PM.data Kd.bool] (fun X Y => by obtain ⟨⟨a1, ⟨a2, _⟩⟩, ⟨b, ⟨c, ⟨y, ⟨⟨f1, ⟨f2, ⟨f3, _⟩⟩⟩, _⟩⟩⟩⟩⟩ := X; exact val_of (t10 a1 a2 b c y f1 f2 f3) (hd a1 a2 b c y f1 f2 f3)) IO L
end Go.Proofs.YtmnbcnhpklejcaaDoor

end
section
set_option linter.unusedVariables false
set_option linter.unusedSimpArgs false
set_option maxRecDepth 20000
set_option maxHeartbeats 4000000
open Go Go.Ev
namespace U
theorem insC_min {l : List Cl} {n k : Nat} {a : Int × Int × Int × Unit} : insC l (min n l.length) k a = insC l n k a := by
  unfold insC
  rw [show min (min n l.length) (l.length - k) = min n (l.length - k) by omega]
theorem delC_min {l : List Cl} {n k : Nat} {a : Int × Int × Int × Unit} : delC l (min n l.length) k a = delC l n k a := by
  unfold delC
  rw [show min (min n l.length) (l.length - k) = min n (l.length - k) by omega]
theorem upL_mem {l : List Ln} {t b m : Nat} {x y : Ln} (h : y ∈ upL l t b m x) : y ∈ l ∨ y = x := by
  unfold upL at h
  simp only [List.mem_append] at h
  rcases h with h | h | h | h
  · exact .inl (List.mem_of_mem_take h)
  · exact .inl (List.mem_of_mem_take (List.mem_of_mem_drop h))
  · exact .inr (List.eq_of_mem_replicate h)
  · exact .inl (List.mem_of_mem_drop h)
theorem downL_mem {l : List Ln} {t b m : Nat} {x y : Ln} (h : y ∈ downL l t b m x) : y ∈ l ∨ y = x := by
  unfold downL at h
  simp only [List.mem_append] at h
  rcases h with h | h | h | h
  · exact .inl (List.mem_of_mem_take h)
  · exact .inr (List.eq_of_mem_replicate h)
  · exact .inl (List.mem_of_mem_take (List.mem_of_mem_drop h))
  · exact .inl (List.mem_of_mem_drop h)
end U
namespace Go.Proofs.YtmnbcnhpklejcaaDoor
open Go.RowKit
theorem okls_iff {l : List Line} : okls l = true ↔ l.length ≤ 1048576 ∧ ∀ y ∈ l, y.1.length ≤ 1048576 := by
  unfold okls
  simp only [Bool.and_eq_true, decide_eq_true_eq, List.all_eq_true]
theorem okls_set {l : List Line} (h : okls l = true) (r : Nat) (y : U.Ln) (hy : y.1.length ≤ 1048576) : okls (l.set r y) = true := by
  rw [okls_iff] at h ⊢
  refine ⟨by rw [List.length_set]; exact h.1, fun x hx => ?_⟩
  rcases List.mem_or_eq_of_mem_set hx with h' | rfl
  · exact h.2 x h'
  · exact hy
theorem okls_setC {l : List Line} (h : okls l = true) (r : Nat) (m : List U.Cl) (hm : m.length ≤ 1048576) : okls (U.setC l r m) = true := okls_set h _ _ (by show (U.mend m).length ≤ _; rw [U.mend_len]; exact hm)
theorem law10 (a1 : Int) (a2 : List Line) (b : Int) (c : Int) (y : Int) (f1 : Int) (f2 : Int) (f3 : Int) : (d10 a1 a2 b c y f1 f2 f3).val = some true := by
  have k1 := U.few_ok a2 (n := 52) (by omega)
  unfold d10
  simp only [eqb_self, Bool.and_self, Bool.and_true, k1, decide_true, Bool.true_and, Tr.val, cond_true, cond_false, Bool.cond_self, Bool.not_false, Bool.not_true]
  generalize U.few a2 52 = l at k1 ⊢
  generalize minI y 200 = n
  generalize hA : ((f1, f2, f3, ()) : Attr) = A
  have kn : okls ([] : List Line) = true := rfl
  have kl : okls l = true := U.okl_s k1
  have nn : U.eqLs [] [] = true := rfl
  have cells : (bif U.place a1 l b c then bif decide (0 ≤ n) then U.look A else false else false) = (U.place a1 l b c && (decide (0 ≤ n) && U.look A)) := by
    cases U.place a1 l b c <;> cases decide (0 ≤ n) <;> rfl
  have ins : ∃ X : List Line, okls X = true ∧ (U.place a1 l b c && (decide (0 ≤ n) && U.look A)) = true → True := ⟨[], fun _ => trivial⟩
  have part2 : (bif (bif U.place a1 l b c then bif decide (0 ≤ n) then U.look A else false else false) then
        (bif (decide (0 ≤ b ∧ b < (l.length : Int) ∧ l.length ≤ 1048576) && colOK c n a1 (l.getD b.toNat U.dL).1.length && (okls (U.rawIns a1 l b c n A).2.1 && bif decide ((U.rawIns a1 l b c n A).2.2 = 0) && (decide ((U.rawIns a1 l b c n A).1 = a1) && U.eqLs (U.rawIns a1 l b c n A).2.1 (U.setC l b.toNat (U.insC (l.getD b.toNat U.dL).1 (min n.toNat a1.toNat) c.toNat A))) then decide (0 ≤ b ∧ b < (l.length : Int) ∧ l.length ≤ 1048576) && colOK c n a1 (l.getD b.toNat U.dL).1.length && okls (U.rawDel a1 l b c n A).2.1 else true)) then
          some (bif decide ((U.rawIns a1 l b c n A).2.2 = 0) && (decide ((U.rawIns a1 l b c n A).1 = a1) && U.eqLs (U.rawIns a1 l b c n A).2.1 (U.setC l b.toNat (U.insC (l.getD b.toNat U.dL).1 (min n.toNat a1.toNat) c.toNat A))) then decide ((U.rawDel a1 l b c n A).2.2 = 0) && (decide ((U.rawDel a1 l b c n A).1 = a1) && U.eqLs (U.rawDel a1 l b c n A).2.1 (U.setC l b.toNat (U.delC (l.getD b.toNat U.dL).1 (min n.toNat a1.toNat) c.toNat A))) else false) else none) else
        bif okls (U.rawIns a1 l b c n A).2.1 && bif decide ((U.rawIns a1 l b c n A).2.2 = 1) && (decide ((U.rawIns a1 l b c n A).1 = 0) && U.eqLs (U.rawIns a1 l b c n A).2.1 []) then okls (U.rawDel a1 l b c n A).2.1 else true then
          some (bif decide ((U.rawIns a1 l b c n A).2.2 = 1) && (decide ((U.rawIns a1 l b c n A).1 = 0) && U.eqLs (U.rawIns a1 l b c n A).2.1 []) then decide ((U.rawDel a1 l b c n A).2.2 = 1) && (decide ((U.rawDel a1 l b c n A).1 = 0) && U.eqLs (U.rawDel a1 l b c n A).2.1 []) else false) else none) = some true := by
    rw [cells]
    unfold U.rawIns U.rawDel
    cases hM : (U.place a1 l b c && (decide (0 ≤ n) && U.look A)) with
    | false => simp only [cond_true, cond_false, decide_true, Bool.and_self, kn, nn]
    | true =>
      simp only [Bool.and_eq_true, decide_eq_true_eq] at hM
      obtain ⟨hP, hn, _⟩ := hM
      obtain ⟨p1, p2, p3, p4, p5⟩ := U.place_at hP
      obtain ⟨q1, q2, q3, q4⟩ := U.gridR_cols (U.place_r hP)
      have hy := (p5 _ (U.getD_mem (show b.toNat < l.length by omega))).2
      have g1 : decide (0 ≤ b ∧ b < (l.length : Int) ∧ l.length ≤ 1048576) = true := decide_eq_true (by omega)
      have g2 : colOK c n a1 (l.getD b.toNat U.dL).1.length = true := decide_eq_true (by omega)
      have e0 : a1.toNat = (l.getD b.toNat U.dL).1.length := by omega
      have k2 : okls (U.setC l b.toNat (U.insC (l.getD b.toNat U.dL).1 n.toNat c.toNat A)) = true := okls_setC kl _ _ (by rw [U.insC_len _ _ _ _ (by omega)]; omega)
      have k3 : okls (U.setC l b.toNat (U.delC (l.getD b.toNat U.dL).1 n.toNat c.toNat A)) = true := okls_setC kl _ _ (by rw [U.delC_len _ _ _ _ (by omega)]; omega)
      simp only [e0, U.insC_min, U.delC_min, g1, k2, k3, eqLs_refl, cond_true, cond_false, decide_true, Bool.and_self, Bool.true_and]
      rw [g2]
      rfl
  unfold U.rawUp U.rawDown
  cases hR : U.region a1 l b c n A with
  | false =>
    have g0 : ((([] : List Line).length : Nat) : Int) = 0 := rfl
    simp only [cond_true, cond_false, decide_true, Bool.and_self, Bool.not_true, Bool.not_false, kn, nn, g0]
    exact part2
  | true =>
    obtain ⟨t, b', n', rfl, rfl, rfl, h1, h2, h3, h4, h5, h6⟩ := U.region_at hR
    have g1 : goOK (t : Int) (b' : Int) a1 l.length = true := decide_eq_true (by omega)
    have g2 : (0 : Int) ≤ (n' : Int) := by omega
    have hm : U.cnt (t : Int) (b' : Int) (n' : Int) ≤ b' + 1 - t := by unfold U.cnt; omega
    have hall : ∀ y ∈ l, y.1.length ≤ 1048576 := fun y hy => by have := (h6 y hy).2; omega
    have hbare : (U.bareL a1 A).1.length ≤ 1048576 := by show (List.replicate _ _).length ≤ _; rw [List.length_replicate]; omega
    have k2 : okls (U.upL l t b' (U.cnt (t : Int) (b' : Int) (n' : Int)) (U.bareL a1 A)) = true := by
      refine okls_iff.2 ⟨by rw [U.upL_len h1 h2 hm]; omega, fun y hy => ?_⟩
      rcases U.upL_mem hy with h | rfl
      · exact hall y h
      · exact hbare
    have k3 : okls (U.downL l t b' (U.cnt (t : Int) (b' : Int) (n' : Int)) (U.bareL a1 A)) = true := by
      refine okls_iff.2 ⟨by rw [U.downL_len h1 h2 hm]; omega, fun y hy => ?_⟩
      rcases U.downL_mem hy with h | rfl
      · exact hall y h
      · exact hbare
    have k4 : okls (List.drop t (List.take (t + U.cnt (t : Int) (b' : Int) (n' : Int)) l)) = true := by
      refine okls_iff.2 ⟨by rw [List.length_drop, List.length_take]; omega, fun y hy => hall y (List.mem_of_mem_take (List.mem_of_mem_drop hy))⟩
    unfold okls at k4
    simp only [Int.toNat_natCast, cond_true, cond_false, decide_true, g1, decide_eq_true g2, k2, k3, k4, eqLs_refl, Bool.and_self, Bool.not_true, Bool.not_false]
    exact part2
abbrev w10 : FSpec := s10' fun _ => true
theorem wk10 : SpecOK Tryd.prog E0 10 w10 := k10' fun a1 a2 b c y f1 f2 f3 => law10 a1 a2 b c y f1 f2 f3
end Go.Proofs.YtmnbcnhpklejcaaDoor

end
