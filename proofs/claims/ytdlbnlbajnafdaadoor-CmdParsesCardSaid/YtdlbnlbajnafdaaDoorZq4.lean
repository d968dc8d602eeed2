/- Part 4 of what the proof leans on: an evaluator of Go code over plain data, with its soundness; contracts of functions; laws of plain data. -/
import Derived.Test.YtdlbnlbajnafdaaDoorZq3
section
set_option linter.unusedVariables false
set_option linter.unusedSimpArgs false
set_option maxRecDepth 20000
set_option maxHeartbeats 4000000
open Go Go.Ev
namespace Go.Proofs.YtdlbnlbajnafdaaDoor
namespace Cm
def live71 (key : Nat) : Lv :=
  bif Nat.beq key 9 then { ls := [0, 2, 3, 4, 5, 6], wd := [⟨6, none, .row 5 (.int .u8)⟩] } else bif Nat.beq key 1009 then { ls := [0, 2, 3, 4, 5, 6] } else
  bif Nat.beq key 13 then { ls := [0, 2, 3, 4, 5, 6], wd := [⟨6, none, .row 5 (.int .u8)⟩] } else bif Nat.beq key 1013 then { ls := [0, 2, 3, 4, 5, 6] } else
  bif Nat.beq key 3 then { ls := [0, 2, 3, 4], wd := [⟨3, some 0, .row 127 partk⟩, ⟨3, some 1, .dat .bool⟩] } else bif Nat.beq key 1003 then { ls := [2, 3] } else
  { ls := [] }
abbrev M71 (ls : Nat → VS → Option (Tr (Ex × VS))) : Env := (E0.withFns []).loops live71 ls
@[reducible] def p71_0 : LP := { n := 109, sl := [.d (Kd.str), .c (Leaf.ptr ( 0) ( 0)), .c (Leaf.ptr ( 1) ( 0)), .d (.int .i64)], bl := [(0, .box [.c (Leaf.nils), .d (Kd.bool)]), (1, .box [.c (Leaf.row ( 2)), .d (Kd.bool)]), (2, .row 127 (Kd.pr Kd.str (Kd.pr Kd.bool Kd.un)))] }
@[reducible] def p71_1 : LP := { n := 109, sl := [.d (Kd.str), .c (Leaf.ptr ( 0) ( 0)), .c (Leaf.ptr ( 1) ( 0)), .d (.int .i64), .c (Leaf.ptr ( 2) ( 0)), .c (Leaf.row ( 3))], bl := [(0, .box [.c (Leaf.nils), .d (Kd.bool)]), (1, .box [.c (Leaf.row ( 4)), .d (Kd.bool)]), (2, .box [.d (Kd.str), .d (Kd.bool)]), (3, .row 5 (Kd.int IntKind.u8)), (4, .row 127 (Kd.pr Kd.str (Kd.pr Kd.bool Kd.un)))] }
@[reducible] def p71_2 : LP := { n := 109, sl := [.d (Kd.str), .c (Leaf.ptr ( 0) ( 0)), .c (Leaf.ptr ( 1) ( 0)), .d (.int .i64), .c (Leaf.ptr ( 2) ( 0)), .c (Leaf.row ( 3))], bl := [(0, .box [.c (Leaf.nils), .d (Kd.bool)]), (1, .box [.c (Leaf.row ( 4)), .d (Kd.bool)]), (2, .box [.d (Kd.str), .d (Kd.bool)]), (3, .row 5 (Kd.int IntKind.u8)), (4, .row 127 (Kd.pr Kd.str (Kd.pr Kd.bool Kd.un)))] }
def B71_1 (x0 : ByteArray) (x3 : Int) (h0_1 : Bool) (h1_1 : Bool) (h2_0 : ByteArray) (h2_1 : Bool) (h3 : List Int) (h4 : List (ByteArray × Bool × Unit)) : Tr (p71_1.T ⊕ (ByteArray × Int × Bool × Bool × ByteArray × Bool × List Int × List (ByteArray × Bool × Unit))) :=
 Tr.ite (decide (x3 < (↑(ByteArray.size x0) : Int))) (Tr.ite (inB x3 (ByteArray.size x0)) (Tr.ite (!decide (bt x0 x3 = (32 : Int))) (Tr.ite (inB x3 (ByteArray.size x0)) (Tr.ite (decide ((List.length h3 + (1 : Nat)) * (1 : Nat) ≤ (140737488355328 : Nat))) (Tr.ret (Sum.inl ((x0, IntKind.wrap IntKind.i64 (x3 + (1 : Int)), ()), (h0_1, ()), (h1_1, ()), (h2_0, h2_1, ()), h3 ++ [bt x0 x3], h4, ()))) Tr.fail) Tr.fail) (Tr.ret (Sum.inr (x0, x3, h0_1, h1_1, h2_0, h2_1, h3, h4)))) Tr.fail) (Tr.ret (Sum.inr (x0, x3, h0_1, h1_1, h2_0, h2_1, h3, h4)))
def X71_1 (r : (ByteArray × Int × Bool × Bool × ByteArray × Bool × List Int × List (ByteArray × Bool × Unit))) : Ex × VS := Prod.mk (Ex.exit ( 2)) { n := 109, v := [Slot.av (AV.one (Leaf.dat Kd.str r.fst)), Slot.av (AV.one (Leaf.ptr ( 0) ( 0))), Slot.av (AV.one (Leaf.ptr ( 1) ( 0))), Slot.av (AV.one (Leaf.dat (.int .i64) r.snd.fst)), Slot.av (AV.one (Leaf.ptr ( 2) ( 0))), Slot.av (AV.one (Leaf.row ( 3)))], h := [( 0, Blk.box [Leaf.nils, Leaf.dat Kd.bool r.snd.snd.fst]), ( 1, Blk.box [Leaf.row ( 4), Leaf.dat Kd.bool r.snd.snd.snd.fst]), ( 2, Blk.box [Leaf.dat Kd.str r.snd.snd.snd.snd.fst, Leaf.dat Kd.bool r.snd.snd.snd.snd.snd.fst]), ( 3, Blk.row ( 5) (Kd.int IntKind.u8) r.snd.snd.snd.snd.snd.snd.fst), ( 4, Blk.row ( 127) (Kd.pr Kd.str (Kd.pr Kd.bool Kd.un)) r.snd.snd.snd.snd.snd.snd.snd)] }
def b71_1 : p71_1.T → Tr (p71_1.T ⊕ (ByteArray × Int × Bool × Bool × ByteArray × Bool × List Int × List (ByteArray × Bool × Unit))) := fun ⟨⟨x0, ⟨x3, _⟩⟩, ⟨⟨h0_1, _⟩, ⟨⟨h1_1, _⟩, ⟨⟨h2_0, ⟨h2_1, _⟩⟩, ⟨h3, ⟨h4, _⟩⟩⟩⟩⟩⟩ => B71_1 x0 x3 h0_1 h1_1 h2_0 h2_1 h3 h4
theorem h71_1 (ls : Nat → VS → Option (Tr (Ex × VS))) (x : p71_1.T) : (evC (evI 2) (lc Tryd.f71 1) (Env.lend (M71 ls) 0) (unV (live71 9) (p71_1.V x))).map (decL 0 (live71 9) (live71 1009)) = (b71_1 x).map (encR p71_1.V X71_1) := by
  obtain ⟨⟨x0, ⟨x3, _⟩⟩, ⟨⟨h0_1, _⟩, ⟨⟨h1_1, _⟩, ⟨⟨h2_0, ⟨h2_1, _⟩⟩, ⟨h3, ⟨h4, _⟩⟩⟩⟩⟩⟩ := x; kernel_rfl
theorem c71_1 (x : p71_1.T) : canV 0 (live71 9) (unV (live71 9) (p71_1.V x)) = p71_1.V x := by
  obtain ⟨⟨x0, ⟨x3, _⟩⟩, ⟨⟨h0_1, _⟩, ⟨⟨h1_1, _⟩, ⟨⟨h2_0, ⟨h2_1, _⟩⟩, ⟨h3, ⟨h4, _⟩⟩⟩⟩⟩⟩ := x; kernel_rfl
theorem l71_1 {T : p71_1.T → Tr (ByteArray × Int × Bool × Bool × ByteArray × Bool × List Int × List (ByteArray × Bool × Unit))} {ls : Nat → VS → Option (Tr (Ex × VS))} (hls : ∀ x, (Env.lend (M71 ls) 0).ls 9 x = p71_1.ls (fun a => (T a).map X71_1) x) (hS : ∀ x r, (T x).val = some r → Rounds b71_1 x r) : LoopOK (evI 2) (Env.lend (M71 ls) 0) (lc Tryd.f71 1) :=
  loopA 9 (live71 9) (live71 1009) p71_1 b71_1 X71_1 T (by kernel_rfl) rfl rfl hls (h71_1 ls) c71_1 hS
def B71_2 (x0 : ByteArray) (x3 : Int) (h0_1 : Bool) (h1_1 : Bool) (h2_0 : ByteArray) (h2_1 : Bool) (h3 : List Int) (h4 : List (ByteArray × Bool × Unit)) : Tr (p71_2.T ⊕ (ByteArray × Int × Bool × Bool × ByteArray × Bool × List Int × List (ByteArray × Bool × Unit))) :=
 let v1 : Int := (IntKind.wrap IntKind.i64 (x3 + (1 : Int)))
 let v2 : Bool := (decide ((List.length h3 + (1 : Nat)) * (1 : Nat) ≤ (140737488355328 : Nat)))
 Tr.ite (decide (x3 < (↑(ByteArray.size x0) : Int))) (Tr.ite (inB x3 (ByteArray.size x0)) (Tr.ite (!decide (bt x0 x3 = (34 : Int))) (Tr.ite (inB x3 (ByteArray.size x0)) (Tr.ite (decide (bt x0 x3 = (92 : Int))) (Tr.ite (decide (v1 < (↑(ByteArray.size x0) : Int))) (Tr.ite (inB v1 (ByteArray.size x0)) (Tr.ite v2 (Tr.ret (Sum.inl ((x0, IntKind.wrap IntKind.i64 (v1 + (1 : Int)), ()), (h0_1, ()), (h1_1, ()), (h2_0, h2_1, ()), h3 ++ [bt x0 v1], h4, ()))) Tr.fail) Tr.fail) (Tr.ite (inB x3 (ByteArray.size x0)) (Tr.ite v2 (Tr.ret (Sum.inl ((x0, v1, ()), (h0_1, ()), (h1_1, ()), (h2_0, h2_1, ()), h3 ++ [bt x0 x3], h4, ()))) Tr.fail) Tr.fail)) (Tr.ite (inB x3 (ByteArray.size x0)) (Tr.ite v2 (Tr.ret (Sum.inl ((x0, v1, ()), (h0_1, ()), (h1_1, ()), (h2_0, h2_1, ()), h3 ++ [bt x0 x3], h4, ()))) Tr.fail) Tr.fail)) Tr.fail) (Tr.ret (Sum.inr (x0, x3, h0_1, h1_1, h2_0, h2_1, h3, h4)))) Tr.fail) (Tr.ret (Sum.inr (x0, x3, h0_1, h1_1, h2_0, h2_1, h3, h4)))
def X71_2 (r : (ByteArray × Int × Bool × Bool × ByteArray × Bool × List Int × List (ByteArray × Bool × Unit))) : Ex × VS := Prod.mk (Ex.exit ( 4)) { n := 109, v := [Slot.av (AV.one (Leaf.dat Kd.str r.fst)), Slot.av (AV.one (Leaf.ptr ( 0) ( 0))), Slot.av (AV.one (Leaf.ptr ( 1) ( 0))), Slot.av (AV.one (Leaf.dat (.int .i64) r.snd.fst)), Slot.av (AV.one (Leaf.ptr ( 2) ( 0))), Slot.av (AV.one (Leaf.row ( 3)))], h := [( 0, Blk.box [Leaf.nils, Leaf.dat Kd.bool r.snd.snd.fst]), ( 1, Blk.box [Leaf.row ( 4), Leaf.dat Kd.bool r.snd.snd.snd.fst]), ( 2, Blk.box [Leaf.dat Kd.str r.snd.snd.snd.snd.fst, Leaf.dat Kd.bool r.snd.snd.snd.snd.snd.fst]), ( 3, Blk.row ( 5) (Kd.int IntKind.u8) r.snd.snd.snd.snd.snd.snd.fst), ( 4, Blk.row ( 127) (Kd.pr Kd.str (Kd.pr Kd.bool Kd.un)) r.snd.snd.snd.snd.snd.snd.snd)] }
def b71_2 : p71_2.T → Tr (p71_2.T ⊕ (ByteArray × Int × Bool × Bool × ByteArray × Bool × List Int × List (ByteArray × Bool × Unit))) := fun ⟨⟨x0, ⟨x3, _⟩⟩, ⟨⟨h0_1, _⟩, ⟨⟨h1_1, _⟩, ⟨⟨h2_0, ⟨h2_1, _⟩⟩, ⟨h3, ⟨h4, _⟩⟩⟩⟩⟩⟩ => B71_2 x0 x3 h0_1 h1_1 h2_0 h2_1 h3 h4
theorem h71_2 (ls : Nat → VS → Option (Tr (Ex × VS))) (x : p71_2.T) : (evC (evI 2) (lc Tryd.f71 2) (Env.lend (M71 ls) 0) (unV (live71 13) (p71_2.V x))).map (decL 0 (live71 13) (live71 1013)) = (b71_2 x).map (encR p71_2.V X71_2) := by
  obtain ⟨⟨x0, ⟨x3, _⟩⟩, ⟨⟨h0_1, _⟩, ⟨⟨h1_1, _⟩, ⟨⟨h2_0, ⟨h2_1, _⟩⟩, ⟨h3, ⟨h4, _⟩⟩⟩⟩⟩⟩ := x; kernel_rfl
theorem c71_2 (x : p71_2.T) : canV 0 (live71 13) (unV (live71 13) (p71_2.V x)) = p71_2.V x := by
  obtain ⟨⟨x0, ⟨x3, _⟩⟩, ⟨⟨h0_1, _⟩, ⟨⟨h1_1, _⟩, ⟨⟨h2_0, ⟨h2_1, _⟩⟩, ⟨h3, ⟨h4, _⟩⟩⟩⟩⟩⟩ := x; kernel_rfl
theorem l71_2 {T : p71_2.T → Tr (ByteArray × Int × Bool × Bool × ByteArray × Bool × List Int × List (ByteArray × Bool × Unit))} {ls : Nat → VS → Option (Tr (Ex × VS))} (hls : ∀ x, (Env.lend (M71 ls) 0).ls 13 x = p71_2.ls (fun a => (T a).map X71_2) x) (hS : ∀ x r, (T x).val = some r → Rounds b71_2 x r) : LoopOK (evI 2) (Env.lend (M71 ls) 0) (lc Tryd.f71 2) :=
  loopA 13 (live71 13) (live71 1013) p71_2 b71_2 X71_2 T (by kernel_rfl) rfl rfl hls (h71_2 ls) c71_2 hS
def quoS : List Int → List Int × List Int
  | [] => ([], [])
  | [c] => bif decide (c = 34) then ([], [c]) else ([c], [])
  | c :: d :: r => bif decide (c = 34) then ([], c :: d :: r) else bif decide (c = 92) then (d :: (quoS r).1, (quoS r).2) else (c :: (quoS (d :: r)).1, (quoS (d :: r)).2)
def restL (s : ByteArray) (i : Int) : List Int := (bytesL s).drop (Int.toNat i)
def T71_1 (x : p71_1.T) : Tr (ByteArray × Int × Bool × Bool × ByteArray × Bool × List Int × List Part) :=
  match x with
  | ⟨⟨s, i, _⟩, ⟨u, _⟩, ⟨v, _⟩, ⟨a, b, _⟩, now, out, _⟩ => .ite (decide (0 ≤ (i : Int) ∧ (i : Int) ≤ (ByteArray.size s : Int) ∧ List.length (α := Int) now = 0 ∧ ByteArray.size s ≤ 1048576))
    (.ret (s, (i : Int) + (((restL s i).takeWhile notB).length : Int), u, v, a, b, (restL s i).takeWhile notB, out)) .fail
def T71_2 (x : p71_2.T) : Tr (ByteArray × Int × Bool × Bool × ByteArray × Bool × List Int × List Part) :=
  match x with
  | ⟨⟨s, i, _⟩, ⟨u, _⟩, ⟨v, _⟩, ⟨a, b, _⟩, now, out, _⟩ => .ite (decide (0 ≤ (i : Int) ∧ (i : Int) ≤ (ByteArray.size s : Int) ∧ List.length (α := Int) now = 0 ∧ ByteArray.size s ≤ 1048576))
    (.ret (s, (ByteArray.size s : Int) - ((quoS (restL s i)).2.length : Int), u, v, a, b, (quoS (restL s i)).1, out)) .fail
abbrev E71i (L : Nat → VS → Option (Tr (Ex × VS))) (key : Nat) (x : VS) : Option (Tr (Ex × VS)) := bif Nat.beq key 9 then p71_1.ls (fun a => (T71_1 a).map X71_1) x else bif Nat.beq key 13 then p71_2.ls (fun a => (T71_2 a).map X71_2) x else L key x
theorem R71_1 (s : ByteArray) (u v b : Bool) (a : ByteArray) (out : List Part) (hs : s.size ≤ 1048576) : ∀ (k i : Nat) (now : List Int), i + k = s.size → now.length ≤ i →
    Rounds b71_1 ((s, (i : Int), ()), (u, ()), (v, ()), (a, b, ()), now, out, ()) (s, (i : Int) + ((((bytesL s).drop i).takeWhile notB).length : Int), u, v, a, b, now ++ ((bytesL s).drop i).takeWhile notB, out)
  | 0, i, now, e, hn => by
    have hl := bytesL_size s
    rw [List.drop_of_length_le (by omega)]
    refine .exit ?_
    simp only [b71_1, B71_1, Tr.val, show ¬ ((i : Int) < (s.size : Int)) by omega, decide_false, cond_false, List.takeWhile_nil, List.length_nil, List.append_nil]
    rw [show (i : Int) + ((0 : Nat) : Int) = i by omega]
  | k + 1, i, now, e, hn => by
    have hl := bytesL_size s
    have hi : i < (bytesL s).length := by omega
    have hi2 : i < s.size := by omega
    have lt : decide ((i : Int) < (s.size : Int)) = true := decide_eq_true (by omega)
    have q1 : decide ((now.length + 1) * 1 ≤ 140737488355328) = true := decide_eq_true (by omega)
    rw [List.drop_eq_getElem_cons hi, byte_at hi, List.takeWhile_cons]
    by_cases c : bt s i = 32
    · rw [if_neg (by unfold notB; rw [decide_eq_true c]; decide)]
      refine .exit ?_
      simp only [b71_1, B71_1, Tr.val, lt, inB_nat hi2, c, decide_true, cond_true, cond_false, Bool.not_true, List.length_nil, List.append_nil]
      rw [show (i : Int) + ((0 : Nat) : Int) = i by omega]
    · rw [if_pos (by unfold notB; rw [decide_eq_false c]; decide)]
      have ih := R71_1 s u v b a out hs k (i + 1) (now ++ [bt s i]) (by omega) (by rw [List.length_append]; show now.length + 1 ≤ _; omega)
      rw [List.length_cons, show (i : Int) + (((((bytesL s).drop (i + 1)).takeWhile notB).length + 1 : Nat) : Int) = ((i + 1 : Nat) : Int) + ((((bytesL s).drop (i + 1)).takeWhile notB).length : Int) by omega]
      rw [List.append_assoc, List.singleton_append] at ih
      refine .step ?_ ih
      simp only [b71_1, B71_1, Tr.val, lt, inB_nat hi2, c, q1, decide_true, decide_false, cond_true, Bool.not_false, wrap64_nat (show i ≤ 1048576 by omega)]
theorem R71_2 (s : ByteArray) (u v b : Bool) (a : ByteArray) (out : List Part) (hs : s.size ≤ 1048576) : ∀ (k i : Nat) (now : List Int), i ≤ s.size → s.size ≤ i + k → now.length ≤ i →
    Rounds b71_2 ((s, (i : Int), ()), (u, ()), (v, ()), (a, b, ()), now, out, ()) (s, (s.size : Int) - ((quoS ((bytesL s).drop i)).2.length : Int), u, v, a, b, now ++ (quoS ((bytesL s).drop i)).1, out)
  | k, i, now, hi0, hk, hn => by
    have hl := bytesL_size s
    by_cases h0 : i < s.size
    · obtain ⟨k, rfl⟩ : ∃ m, k = m + 1 := ⟨k - 1, by omega⟩
      have hi : i < (bytesL s).length := by omega
      have lt : decide ((i : Int) < (s.size : Int)) = true := decide_eq_true (by omega)
      have w : IntKind.wrap IntKind.i64 ((i : Int) + 1) = ((i + 1 : Nat) : Int) := wrap64_nat (by omega)
      have q1 : decide ((now.length + 1) * 1 ≤ 140737488355328) = true := decide_eq_true (by omega)
      by_cases h1 : i + 1 < s.size
      · have e := drop_two (l := bytesL s) (i := i) (by omega)
        have hi1 : i + 1 < (bytesL s).length := by omega
        have lt1 : decide (((i + 1 : Nat) : Int) < (s.size : Int)) = true := decide_eq_true (by omega)
        have w1 : IntKind.wrap IntKind.i64 (((i + 1 : Nat) : Int) + 1) = ((i + 2 : Nat) : Int) := wrap64_nat (by omega)
        have d1 : bt s ((i + 1 : Nat) : Int) :: (bytesL s).drop (i + 2) = (bytesL s).drop (i + 1) := by
          rw [List.drop_eq_getElem_cons hi1, byte_at hi1]
        rw [e, byte_at hi, byte_at hi1]
        unfold quoS
        by_cases c2 : bt s i = 34
        · rw [decide_eq_true c2, cond_true]
          refine .exit ?_
          simp only [b71_2, B71_2, Tr.val, lt, inB_nat h0, c2, decide_true, cond_true, cond_false, Bool.not_true, List.append_nil]
          rw [d1, List.length_cons, List.length_drop, hl, show (s.size : Int) - ((s.size - (i + 1) + 1 : Nat) : Int) = i by omega]
        · rw [decide_eq_false c2, cond_false]
          by_cases c1 : bt s i = 92
          · rw [decide_eq_true c1, cond_true]
            have ih := R71_2 s u v b a out hs k (i + 2) (now ++ [bt s ((i + 1 : Nat) : Int)]) (by omega) (by omega) (by rw [List.length_append]; show now.length + 1 ≤ _; omega)
            rw [List.append_assoc, List.singleton_append] at ih
            refine .step ?_ ih
            simp only [b71_2, B71_2, Tr.val, lt, lt1, w, w1, q1, c1, inB_nat h0, inB_nat h1, show ¬ ((92 : Int) = 34) by decide, decide_true, decide_false, cond_true, Bool.not_false]
          · rw [decide_eq_false c1, cond_false, d1]
            have ih := R71_2 s u v b a out hs k (i + 1) (now ++ [bt s (i : Int)]) (by omega) (by omega) (by rw [List.length_append]; show now.length + 1 ≤ _; omega)
            rw [List.append_assoc, List.singleton_append] at ih
            refine .step ?_ ih
            simp only [b71_2, B71_2, Tr.val, lt, w, q1, c1, c2, inB_nat h0, decide_true, decide_false, cond_true, cond_false, Bool.not_false]
      · have e : (bytesL s).drop i = [bt s (i : Int)] := by
          rw [List.drop_eq_getElem_cons hi, byte_at hi, List.drop_of_length_le (by omega)]
        have lt1 : decide (((i + 1 : Nat) : Int) < (s.size : Int)) = false := decide_eq_false (by omega)
        rw [e]
        unfold quoS
        by_cases c2 : bt s i = 34
        · rw [decide_eq_true c2, cond_true]
          refine .exit ?_
          simp only [b71_2, B71_2, Tr.val, lt, inB_nat h0, c2, decide_true, cond_true, cond_false, Bool.not_true, List.append_nil]
          rw [show (s.size : Int) - (([34] : List Int).length : Int) = i by show (s.size : Int) - ((1 : Nat) : Int) = i; omega]
        · rw [decide_eq_false c2, cond_false]
          have ih := R71_2 s u v b a out hs k (i + 1) (now ++ [bt s (i : Int)]) (by omega) (by omega) (by rw [List.length_append]; show now.length + 1 ≤ _; omega)
          rw [List.drop_of_length_le (show (bytesL s).length ≤ i + 1 by omega)] at ih
          have ih : Rounds b71_2 _ (s, (s.size : Int) - ((0 : Nat) : Int), u, v, a, b, now ++ [bt s (i : Int)] ++ [], out) := ih
          rw [List.append_nil] at ih
          refine .step ?_ ih
          by_cases c1 : bt s i = 92
          · simp only [b71_2, B71_2, Tr.val, lt, lt1, w, q1, c1, inB_nat h0, show ¬ ((92 : Int) = 34) by decide, decide_true, decide_false, cond_true, cond_false, Bool.not_false]
          · simp only [b71_2, B71_2, Tr.val, lt, w, q1, c1, c2, inB_nat h0, decide_true, decide_false, cond_true, cond_false, Bool.not_false]
    · have e : i = s.size := by omega
      subst e
      rw [List.drop_of_length_le (by omega)]
      refine .exit ?_
      simp only [b71_2, B71_2, Tr.val, show ¬ ((s.size : Int) < (s.size : Int)) by omega, decide_false, cond_false]
      show some (Sum.inr _) = some (Sum.inr (s, (s.size : Int) - ((0 : Nat) : Int), u, v, a, b, now ++ [], out))
      rw [List.append_nil, show (s.size : Int) - ((0 : Nat) : Int) = s.size by omega]
theorem L71_1 {ls : Nat → VS → Option (Tr (Ex × VS))} (hls : ∀ x, (Env.lend (M71 ls) 0).ls 9 x = p71_1.ls (fun a => (T71_1 a).map X71_1) x) : LoopOK (evI 2) ((M71 ls).lend 0) (lc Tryd.f71 1) := by
  refine l71_1 (T := T71_1) hls ?_
  rintro ⟨⟨s, i, z⟩, ⟨u, z1⟩, ⟨v, z2⟩, ⟨a, b, z3⟩, now, out, z4⟩ r h
  obtain ⟨g1, g2⟩ := pre_val h
  obtain ⟨e1, e2, e3, e4⟩ : 0 ≤ (i : Int) ∧ (i : Int) ≤ (s.size : Int) ∧ now.length = 0 ∧ s.size ≤ 1048576 := of_decide_eq_true g1
  obtain ⟨i, rfl⟩ := Int.eq_ofNat_of_zero_le e1
  have e3 : now = [] := List.eq_nil_of_length_eq_zero e3
  subst e3
  cases g2
  have hle : i ≤ s.size := Int.ofNat_le.1 e2
  exact R71_1 s u v b a out e4 (s.size - i) i [] (by omega) (by simp)
theorem L71_2 {ls : Nat → VS → Option (Tr (Ex × VS))} (hls : ∀ x, (Env.lend (M71 ls) 0).ls 13 x = p71_2.ls (fun a => (T71_2 a).map X71_2) x) : LoopOK (evI 2) ((M71 ls).lend 0) (lc Tryd.f71 2) := by
  refine l71_2 (T := T71_2) hls ?_
  rintro ⟨⟨s, i, z⟩, ⟨u, z1⟩, ⟨v, z2⟩, ⟨a, b, z3⟩, now, out, z4⟩ r h
  obtain ⟨g1, g2⟩ := pre_val h
  obtain ⟨e1, e2, e3, e4⟩ : 0 ≤ (i : Int) ∧ (i : Int) ≤ (s.size : Int) ∧ now.length = 0 ∧ s.size ≤ 1048576 := of_decide_eq_true g1
  obtain ⟨i, rfl⟩ := Int.eq_ofNat_of_zero_le e1
  have e3 : now = [] := List.eq_nil_of_length_eq_zero e3
  subst e3
  cases g2
  have hle : i ≤ s.size := Int.ofNat_le.1 e2
  exact R71_2 s u v b a out e4 s.size i [] hle (by omega) (by simp)
def B71_0 (x0 : ByteArray) (x3 : Int) (h0_1 : Bool) (h1_1 : Bool) (h2 : List (ByteArray × Bool × Unit)) : Tr (p71_0.T ⊕ (Bool × Bool × List (ByteArray × Bool × Unit) ⊕ Bool × Bool × List (ByteArray × Bool × Unit))) :=
 let v1 : List Int := (List.takeWhile notB (restL x0 x3))
 let v2 : Int := (IntKind.wrap IntKind.i64 (x3 + (1 : Int)))
 let v3 : List Int × List Int := (quoS (restL x0 v2))
 let v4 : Bool := (decide (bt x0 x3 = (34 : Int)))
 let v5 : Int := ((↑(ByteArray.size x0) : Int) - (↑(List.length v3.snd) : Int))
 let v6 : Int := (IntKind.wrap IntKind.i64 (v5 + (1 : Int)))
 let v7 : Int := (bt x0 v6)
 let v8 : Bool := (decide ((List.length h2 + (1 : Nat)) * (24 : Nat) ≤ (140737488355328 : Nat)))
 Tr.ite (decide (x3 < (↑(ByteArray.size x0) : Int))) (Tr.ite (inB x3 (ByteArray.size x0)) (Tr.ite (decide (bt x0 x3 = (32 : Int))) (Tr.ret (Sum.inl ((x0, v2, ()), (h0_1, ()), (h1_1, ()), h2, ()))) (Tr.ite (inB x3 (ByteArray.size x0)) (Tr.ite (!v4) (Tr.ite (decide ((0 : Int) ≤ x3 ∧ x3 ≤ (↑(ByteArray.size x0) : Int) ∧ (0 : Nat) = (0 : Nat) ∧ ByteArray.size x0 ≤ (1048576 : Nat))) (Tr.ite v8 (Tr.ret (Sum.inl ((x0, x3 + (↑(List.length v1) : Int), ()), (h0_1, ()), (h1_1, ()), h2 ++ [(strOf v1, v4, ())], ()))) Tr.fail) Tr.fail) (Tr.ite (decide ((0 : Int) ≤ v2 ∧ v2 ≤ (↑(ByteArray.size x0) : Int) ∧ (0 : Nat) = (0 : Nat) ∧ ByteArray.size x0 ≤ (1048576 : Nat))) (Tr.ite (decide ((↑(ByteArray.size x0) : Int) ≤ v5)) (Tr.ret (Sum.inr (Sum.inl (false, h1_1, h2)))) (Tr.ite (decide (v6 < (↑(ByteArray.size x0) : Int))) (Tr.ite (inB v6 (ByteArray.size x0)) (Tr.ite (!decide (v7 = (32 : Int))) (Tr.ret (Sum.inr (Sum.inl (false, h1_1, h2)))) (Tr.ite v8 (Tr.ret (Sum.inl ((x0, v6, ()), (h0_1, ()), (h1_1, ()), h2 ++ [(strOf v3.fst, v4, ())], ()))) Tr.fail)) Tr.fail) (Tr.ite v8 (Tr.ret (Sum.inl ((x0, v6, ()), (h0_1, ()), (h1_1, ()), h2 ++ [(strOf v3.fst, v4, ())], ()))) Tr.fail))) Tr.fail)) Tr.fail)) Tr.fail) (Tr.ret (Sum.inr (Sum.inr (h0_1, h1_1, h2))))
def X71_0 : (Bool × Bool × List (ByteArray × Bool × Unit) ⊕ Bool × Bool × List (ByteArray × Bool × Unit)) → Ex × VS
  | (.inl r) => Prod.mk Ex.ret { n := 109, v := [Slot.av (AV.one (Leaf.ptr ( 0) ( 0))), Slot.av (AV.one (Leaf.ptr ( 1) ( 0)))], h := [( 0, Blk.box [Leaf.nils, Leaf.dat Kd.bool r.fst]), ( 1, Blk.box [Leaf.row ( 2), Leaf.dat Kd.bool r.snd.fst]), ( 2, Blk.row ( 127) (Kd.pr Kd.str (Kd.pr Kd.bool Kd.un)) r.snd.snd)] }
  | (.inr r) => Prod.mk (Ex.exit ( 0)) { n := 109, v := [Slot.av (AV.one (Leaf.ptr ( 0) ( 0))), Slot.av (AV.one (Leaf.ptr ( 1) ( 0)))], h := [( 0, Blk.box [Leaf.nils, Leaf.dat Kd.bool r.fst]), ( 1, Blk.box [Leaf.row ( 2), Leaf.dat Kd.bool r.snd.fst]), ( 2, Blk.row ( 127) (Kd.pr Kd.str (Kd.pr Kd.bool Kd.un)) r.snd.snd)] }
def b71_0 : p71_0.T → Tr (p71_0.T ⊕ (Bool × Bool × List (ByteArray × Bool × Unit) ⊕ Bool × Bool × List (ByteArray × Bool × Unit))) := fun ⟨⟨x0, ⟨x3, _⟩⟩, ⟨⟨h0_1, _⟩, ⟨⟨h1_1, _⟩, ⟨h2, _⟩⟩⟩⟩ => B71_0 x0 x3 h0_1 h1_1 h2
theorem h71_0 (ls : Nat → VS → Option (Tr (Ex × VS))) (x : p71_0.T) : (evC (evI 2) (lc Tryd.f71 0) (Env.lend ((fun L => M71 (E71i L)) ls) 0) (unV (live71 3) (p71_0.V x))).map (decL 0 (live71 3) (live71 1003)) = (b71_0 x).map (encR p71_0.V X71_0) := by
  obtain ⟨⟨x0, ⟨x3, _⟩⟩, ⟨⟨h0_1, _⟩, ⟨⟨h1_1, _⟩, ⟨h2, _⟩⟩⟩⟩ := x; kernel_rfl
theorem c71_0 (x : p71_0.T) : canV 0 (live71 3) (unV (live71 3) (p71_0.V x)) = p71_0.V x := by
  obtain ⟨⟨x0, ⟨x3, _⟩⟩, ⟨⟨h0_1, _⟩, ⟨⟨h1_1, _⟩, ⟨h2, _⟩⟩⟩⟩ := x; kernel_rfl
theorem l71_0 {T : p71_0.T → Tr (Bool × Bool × List (ByteArray × Bool × Unit) ⊕ Bool × Bool × List (ByteArray × Bool × Unit))} {ls : Nat → VS → Option (Tr (Ex × VS))} (hls : ∀ x, (Env.lend ((fun L => M71 (E71i L)) ls) 0).ls 3 x = p71_0.ls (fun a => (T a).map X71_0) x) (hS : ∀ x r, (T x).val = some r → Rounds b71_0 x r) : LoopOK (evI 2) (Env.lend ((fun L => M71 (E71i L)) ls) 0) (lc Tryd.f71 0) :=
  loopA 3 (live71 3) (live71 1003) p71_0 b71_0 X71_0 T (by kernel_rfl) rfl rfl hls (h71_0 ls) c71_0 hS
theorem quoS_N : ∀ (n : Nat) (l : List Int), l.length ≤ n → (quoN l = match (quoS l).2 with | [] => none | _ :: r => some ((quoS l).1, r)) ∧ (∃ k, (quoS l).2 = l.drop k)
  | 0, [], _ => ⟨rfl, 0, rfl⟩
  | 0, _ :: _, h => by cases h
  | n + 1, [], _ => ⟨rfl, 0, rfl⟩
  | n + 1, [c], _ => by
    unfold quoN quoS
    cases decide (c = 34) with
    | true => exact ⟨rfl, 0, rfl⟩
    | false => exact ⟨rfl, 1, rfl⟩
  | n + 1, c :: d :: r, h => by
    simp only [List.length_cons] at h
    unfold quoN quoS
    by_cases c2 : c = 34
    · rw [decide_eq_true c2, decide_eq_false (show ¬ c = 92 by omega)]
      exact ⟨rfl, 0, rfl⟩
    · rw [decide_eq_false c2]
      cases h1 : decide (c = 92) with
      | true =>
        obtain ⟨e, k, hk⟩ := quoS_N n r (by omega)
        simp only [cond_true, cond_false]
        refine ⟨?_, k + 2, hk⟩
        rw [e]
        cases (quoS r).2 <;> rfl
      | false =>
        obtain ⟨e, k, hk⟩ := quoS_N n (d :: r) (by simp only [List.length_cons]; omega)
        simp only [cond_true, cond_false]
        refine ⟨?_, k + 1, hk⟩
        rw [e]
        cases (quoS (d :: r)).2 <;> rfl
theorem suffix {l r : List Int} {k : Nat} (h : r = l.drop k) : r = l.drop (l.length - r.length) ∧ r.length ≤ l.length := by
  have hl := congrArg List.length h
  rw [List.length_drop] at hl
  by_cases hk : k ≤ l.length
  · rw [show l.length - r.length = k by omega]
    exact ⟨h, by omega⟩
  · have e : r = [] := List.eq_nil_of_length_eq_zero (by omega)
    subst e
    exact ⟨by rw [List.length_nil, Nat.sub_zero, List.drop_length], Nat.zero_le _⟩
def T71_0 (x : p71_0.T) : Tr (Bool × Bool × List Part ⊕ Bool × Bool × List Part) :=
  match x with
  | ⟨⟨s, i, _⟩, ⟨u, _⟩, ⟨v, _⟩, out, _⟩ => .ite (decide ((i : Int) = 0 ∧ ByteArray.size s ≤ 1048576 ∧ List.length (α := Part) out = 0))
    (.ite (cutV (bytesL s)).2 (.ret (.inr (u, v, (cutV (bytesL s)).1))) (.ret (.inl (false, v, (cutV (bytesL s)).1)))) .fail
abbrev E71 : Env := M71 (E71i fun key x => bif Nat.beq key 3 then p71_0.ls (fun a => (T71_0 a).map X71_0) x else none)
theorem R71_0 (s : ByteArray) (u v : Bool) (hs : s.size ≤ 1048576) : ∀ (k i : Nat) (out : List Part), i ≤ s.size → s.size ≤ i + k → out.length ≤ i →
    Rounds b71_0 ((s, (i : Int), ()), (u, ()), (v, ()), out, ()) (bif (cutV ((bytesL s).drop i)).2 then .inr (u, v, out ++ (cutV ((bytesL s).drop i)).1) else .inl (false, v, out ++ (cutV ((bytesL s).drop i)).1))
  | k, i, out, hi0, hk, hn => by
    have hl := bytesL_size s
    by_cases h0 : i < s.size
    · obtain ⟨k, rfl⟩ : ∃ m, k = m + 1 := ⟨k - 1, by omega⟩
      have hi : i < (bytesL s).length := by omega
      have lt : decide ((i : Int) < (s.size : Int)) = true := decide_eq_true (by omega)
      have w : IntKind.wrap IntKind.i64 ((i : Int) + 1) = ((i + 1 : Nat) : Int) := wrap64_nat (by omega)
      have q2 : decide ((out.length + 1) * 24 ≤ 140737488355328) = true := decide_eq_true (by omega)
      rw [List.drop_eq_getElem_cons hi, byte_at hi]
      by_cases c1 : bt s i = 32
      · rw [c1, cutV_32]
        refine .step ?_ (R71_0 s u v hs k (i + 1) out (by omega) (by omega) (by omega))
        simp only [b71_0, B71_0, Tr.val, lt, inB_nat h0, c1, w, decide_true, cond_true]
      · by_cases c2 : bt s i = 34
        · rw [c2, cutV_q]
          have r1 : restL s ((i + 1 : Nat) : Int) = (bytesL s).drop (i + 1) := rfl
          have g1 : decide ((0 : Int) ≤ ((i + 1 : Nat) : Int) ∧ ((i + 1 : Nat) : Int) ≤ (s.size : Int) ∧ True ∧ s.size ≤ 1048576) = true := decide_eq_true ⟨by omega, by omega, trivial, by omega⟩
          obtain ⟨e, j, hj⟩ := quoS_N _ ((bytesL s).drop (i + 1)) (Nat.le_refl _)
          rw [List.drop_drop] at hj
          rw [e]
          have hv : (b71_0 ((s, (i : Int), ()), (u, ()), (v, ()), out, ())).val = (bif decide ((s.size : Int) ≤ (s.size : Int) - ((quoS ((bytesL s).drop (i + 1))).2.length : Int)) then some (.inr (.inl (false, v, out))) else
              bif decide (IntKind.wrap IntKind.i64 ((s.size : Int) - ((quoS ((bytesL s).drop (i + 1))).2.length : Int) + 1) < (s.size : Int)) then
                bif inB (IntKind.wrap IntKind.i64 ((s.size : Int) - ((quoS ((bytesL s).drop (i + 1))).2.length : Int) + 1)) s.size then
                  bif !decide (bt s (IntKind.wrap IntKind.i64 ((s.size : Int) - ((quoS ((bytesL s).drop (i + 1))).2.length : Int) + 1)) = 32) then some (.inr (.inl (false, v, out)))
                  else some (.inl ((s, IntKind.wrap IntKind.i64 ((s.size : Int) - ((quoS ((bytesL s).drop (i + 1))).2.length : Int) + 1), ()), (u, ()), (v, ()), out ++ [(strOf (quoS ((bytesL s).drop (i + 1))).1, true, ())], ()))
                else none
              else some (.inl ((s, IntKind.wrap IntKind.i64 ((s.size : Int) - ((quoS ((bytesL s).drop (i + 1))).2.length : Int) + 1), ()), (u, ()), (v, ()), out ++ [(strOf (quoS ((bytesL s).drop (i + 1))).1, true, ())], ()))) := by
            simp only [b71_0, B71_0, Tr.val, lt, inB_nat h0, c2, w, r1, g1, q2, show ¬ ((34 : Int) = 32) by decide, decide_true, decide_false, cond_true, cond_false, Bool.not_true]
          generalize quoS ((bytesL s).drop (i + 1)) = y at *
          obtain ⟨t, rest⟩ := y
          simp only [] at hj hv ⊢
          have hsf := suffix hj
          rw [hl] at hsf
          cases rest with
          | nil =>
            rw [decide_eq_true (show (s.size : Int) ≤ (s.size : Int) - (([] : List Int).length : Int) by show (s.size : Int) ≤ (s.size : Int) - ((0 : Nat) : Int); omega)] at hv
            refine .exit ?_
            rw [hv]
            show some (Sum.inr (Sum.inl (false, v, out))) = some (Sum.inr (Sum.inl (false, v, out ++ [])))
            rw [List.append_nil]
          | cons q r =>
            rw [List.length_cons] at hv hsf
            have hrl := hsf.2
            have hrd : r = (bytesL s).drop (s.size - r.length) := by
              have := congrArg (List.drop 1) hsf.1
              rw [List.drop_drop, List.drop_succ_cons, List.drop_zero] at this
              rw [show s.size - (r.length + 1) + 1 = s.size - r.length by omega] at this
              exact this
            have w6 : IntKind.wrap IntKind.i64 ((s.size : Int) - ((r.length + 1 : Nat) : Int) + 1) = ((s.size - r.length : Nat) : Int) := by rw [Go.Ev.w64 (by omega) (by omega)]; omega
            have hij : i + 1 ≤ s.size - r.length := by
              have h1 := congrArg List.length hj
              rw [List.length_cons, List.length_drop, hl] at h1
              omega
            rw [w6, decide_eq_false (show ¬ ((s.size : Int) ≤ (s.size : Int) - ((r.length + 1 : Nat) : Int)) by omega), cond_false] at hv
            simp only []
            have fin : badR r = false → (b71_0 ((s, (i : Int), ()), (u, ()), (v, ()), out, ())).val = some (.inl ((s, ((s.size - r.length : Nat) : Int), ()), (u, ()), (v, ()), out ++ [(strOf t, true, ())], ())) →
                Rounds b71_0 ((s, (i : Int), ()), (u, ()), (v, ()), out, ()) (bif (bif badR r then (([], false) : List Part × Bool) else ((strOf t, true, ()) :: (cutV r).1, (cutV r).2)).2 then
                  .inr (u, v, out ++ (bif badR r then (([], false) : List Part × Bool) else ((strOf t, true, ()) :: (cutV r).1, (cutV r).2)).1) else .inl (false, v, out ++ (bif badR r then (([], false) : List Part × Bool) else ((strOf t, true, ()) :: (cutV r).1, (cutV r).2)).1)) := by
              intro hb hx
              have ih := R71_0 s u v hs k (s.size - r.length) (out ++ [(strOf t, true, ())]) (by omega) (by omega) (by rw [List.length_append]; show out.length + 1 ≤ _; omega)
              rw [← hrd] at ih
              simp only [List.append_assoc, List.singleton_append] at ih
              rw [hb]
              exact .step hx ih
            by_cases hr0 : r.length = 0
            · have er : r = [] := List.eq_nil_of_length_eq_zero hr0
              rw [decide_eq_false (show ¬ (((s.size - r.length : Nat) : Int) < (s.size : Int)) by omega), cond_false] at hv
              exact fin (by rw [er]; rfl) hv
            · obtain ⟨c, r', hc⟩ : ∃ c r', r = c :: r' := by
                cases r with
                | nil => exact absurd rfl hr0
                | cons c r' => exact ⟨c, r', rfl⟩
              have hm : s.size - r.length < (bytesL s).length := by omega
              have hbt : bt s ((s.size - r.length : Nat) : Int) = c := by
                rw [List.drop_eq_getElem_cons hm, byte_at hm] at hrd
                rw [hc] at hrd
                have := (List.cons.inj hrd).1
                rw [← hc] at this
                exact this.symm
              rw [decide_eq_true (show (((s.size - r.length : Nat) : Int) < (s.size : Int)) by omega), cond_true, inB_nat (show s.size - r.length < s.size by omega), cond_true, hbt] at hv
              by_cases c5 : c = 32
              · rw [decide_eq_true c5] at hv
                exact fin (by rw [hc]; unfold badR; simp only [decide_eq_true c5, Bool.not_true]) hv
              · rw [decide_eq_false c5] at hv
                have hb : badR r = true := by rw [hc]; unfold badR; simp only [decide_eq_false c5, Bool.not_false]
                rw [hb]
                refine .exit ?_
                rw [hv]
                show some (Sum.inr (Sum.inl (false, v, out))) = some (Sum.inr (Sum.inl (false, v, out ++ [])))
                rw [List.append_nil]
        · rw [cutV_p _ c1 c2]
          have r1 : restL s (i : Int) = bt s i :: (bytesL s).drop (i + 1) := by
            show (bytesL s).drop i = _
            rw [List.drop_eq_getElem_cons hi, byte_at hi]
          have ht : (restL s (i : Int)).takeWhile notB = bt s i :: ((bytesL s).drop (i + 1)).takeWhile notB := by
            rw [r1, List.takeWhile_cons, if_pos (by unfold notB; rw [decide_eq_false c1]; decide)]
          have g1 : decide ((0 : Int) ≤ (i : Int) ∧ (i : Int) ≤ (s.size : Int) ∧ True ∧ s.size ≤ 1048576) = true := decide_eq_true ⟨by omega, by omega, trivial, by omega⟩
          have htl := List.takeWhile_append_dropWhile (p := notB) (l := (bytesL s).drop (i + 1))
          have htl := congrArg List.length htl
          rw [List.length_append, List.length_drop, hl] at htl
          have hdr : (bytesL s).drop (i + (((bytesL s).drop (i + 1)).takeWhile notB).length + 1) = ((bytesL s).drop (i + 1)).dropWhile notB := by
            rw [← dropWhile_len notB ((bytesL s).drop (i + 1)), List.drop_drop]
            congr 1
            omega
          have ih := R71_0 s u v hs k (i + (((bytesL s).drop (i + 1)).takeWhile notB).length + 1) (out ++ [(strOf (bt s i :: ((bytesL s).drop (i + 1)).takeWhile notB), false, ())]) (by omega) (by omega) (by rw [List.length_append]; show out.length + 1 ≤ _; omega)
          rw [hdr] at ih
          simp only [List.append_assoc, List.singleton_append] at ih
          refine .step ?_ ih
          simp only [b71_0, B71_0, Tr.val, lt, inB_nat h0, c1, c2, ht, g1, q2, decide_true, decide_false, cond_true, cond_false, Bool.not_false, List.length_cons]
          rw [show (i : Int) + (((((bytesL s).drop (i + 1)).takeWhile notB).length + 1 : Nat) : Int) = ((i + (((bytesL s).drop (i + 1)).takeWhile notB).length + 1 : Nat) : Int) by omega]
    · have e : i = s.size := by omega
      subst e
      rw [List.drop_of_length_le (by omega)]
      refine .exit ?_
      simp only [b71_0, B71_0, Tr.val, show ¬ ((s.size : Int) < (s.size : Int)) by omega, decide_false, cond_false]
      show some _ = some (Sum.inr (Sum.inr (u, v, out ++ [])))
      rw [List.append_nil]
theorem L71_0 : LoopOK (evI 2) (E71.lend 0) (lc Tryd.f71 0) := by
  refine l71_0 (T := T71_0) (ls := fun key x => bif Nat.beq key 3 then p71_0.ls (fun a => (T71_0 a).map X71_0) x else none) (fun x => rfl) ?_
  rintro ⟨⟨s, i, z⟩, ⟨u, z1⟩, ⟨v, z2⟩, out, z3⟩ r h
  obtain ⟨g1, g2⟩ := pre_val h
  obtain ⟨e1, e2, e3⟩ : (i : Int) = 0 ∧ s.size ≤ 1048576 ∧ out.length = 0 := of_decide_eq_true g1
  subst e1
  have e3 : out = [] := List.eq_nil_of_length_eq_zero e3
  subst e3
  have := R71_0 s u v e2 s.size 0 [] (by omega) (by omega) (by simp)
  rw [List.drop_zero] at this
  cases hc : (cutV (bytesL s)).2 <;> rw [hc] at g2 this <;> cases g2 <;> exact this
def d71 (xa : ByteArray) : Tr (List Part × Bool) :=
 Tr.ite (decide ((0 : Int) = (0 : Int) ∧ ByteArray.size xa ≤ (1048576 : Nat) ∧ (0 : Nat) = (0 : Nat))) (Tr.ite (cutV (bytesL xa)).snd (Tr.ret ((cutV (bytesL xa)).fst, true)) (Tr.ret ([], false))) Tr.fail
def e71 (r : List Part × Bool) : FRes := { rs := Slot.av (AV.agg [Leaf.dat (Kd.sl (Kd.pr Kd.str (Kd.pr Kd.bool Kd.un))) r.fst, Leaf.dat Kd.bool r.snd]), upd := [], new := [] }
@[reducible] def a71 : List AK := [AK.d Kd.str]
@[reducible] def b71 : List BK := []
theorem t71 (xa : ByteArray) : evFn (E71) Tryd.f71 [PM.data (Kd.pr (Kd.sl partk) (Kd.pr Kd.bool Kd.un))] (akAV a71 (xa, ())) (bkBs b71 ()) = (d71 xa).map e71 := by kernel_rfl
def s71 (C : akT a71 → Bool) (G : akT a71 → List Part × Bool) : FSpec := aspec a71 b71 e71 (fun x _ => C x) (fun x _ => G x)
theorem k71 {C : akT a71 → Bool} {G : akT a71 → List Part × Bool} (hd : ∀ (xa : ByteArray), C (xa, ()) = true → (d71 xa).val = some (G (xa, ()))) (IO : ItOK Tryd.prog (E71) := by exact itOK_none rfl) (L : ∀ c, Tryd.f71.body = some c → LsOK (evI 2) ((E71).lend 0) c := by exact fun c _ => LsOK_none rfl c) : SpecOK Tryd.prog E0 71 (s71 C G) :=
  aspec_ok (ak := a71) (bl := b71) (e := e71) (c := fun x _ => C x) (g := fun x _ => G x) (E0 := E0) (E := E71) tab .nil rfl rfl hm Tryd.func71 (by kernel_rfl) [PM.data (Kd.pr (Kd.sl partk) (Kd.pr Kd.bool Kd.un))] (fun X Y H => by obtain ⟨xa, _⟩ := X; exact val_of (t71 xa) (hd xa H)) IO L
abbrev w71 : FSpec := s71 (fun x => decide (ByteArray.size x.1 ≤ 1048576)) fun x => okV (cutV (bytesL x.1))
theorem wk71 : SpecOK Tryd.prog E0 71 w71 := by
  refine k71 (fun s H => ?_) (L := ls_ok (lcs := [lc Tryd.f71 0, lc Tryd.f71 1, lc Tryd.f71 2]) (rgs := []) (by kernel_rfl) (by kernel_rfl) ⟨L71_0, L71_1 (ls := E71i fun key x => bif Nat.beq key 3 then p71_0.ls (fun a => (T71_0 a).map X71_0) x else none) (fun x => rfl),
    L71_2 (ls := E71i fun key x => bif Nat.beq key 3 then p71_0.ls (fun a => (T71_0 a).map X71_0) x else none) (fun x => rfl)⟩ trivial)
  have H : s.size ≤ 1048576 := of_decide_eq_true H
  show _ = some (okV (cutV (bytesL s)))
  unfold okV
  simp only [d71, Tr.val, H, and_self, decide_true, cond_true]
  cases (cutV (bytesL s)).2 <;> rfl
end Cm
end Go.Proofs.YtdlbnlbajnafdaaDoor
end
section
set_option linter.unusedVariables false
set_option linter.unusedSimpArgs false
set_option maxRecDepth 20000
set_option maxHeartbeats 4000000
open Go Go.Ev
namespace Go.Proofs.YtdlbnlbajnafdaaDoor
namespace Cm
abbrev G70 : List (Nat × FSpec) := [(136, w136), (75, w75)]
theorem AG70 : AllFn Tryd.prog E0 G70 := .cons wk136 (.cons wk75 .nil)
def d70 (xb : Int) (xc1 : ByteArray) (xc2 : Bool) (h0_0 : Int) (h0_1 : Int) (h0_2 : Int) (h0_3 : Bool) (h0_4 : ByteArray) : Tr (Bool × Int × Int × Int × Bool × ByteArray) :=
 let v1 : Int := ((numV xc1 xc2).fst)
 let v2 : Bool := ((numV xc1 xc2).snd)
 let v3 : Bool := (decide (ByteArray.size xc1 ≤ (1048576 : Nat)))
 let v4 : Bool := (decide (xc1 = { data := #[OfNat.ofNat (111 : Nat), OfNat.ofNat (110 : Nat)] }))
 let v5 : ByteArray := (truth v4)
 Tr.ite (decide (xb = (65 : Int))) (Tr.ite v3 (Tr.ret (v2, h0_0, v1, h0_2, h0_3, h0_4)) Tr.fail) (Tr.ite (decide (xb = (66 : Int))) (Tr.ite v3 (Tr.ret (v2, h0_0, h0_1, v1, h0_3, h0_4)) Tr.fail) (Tr.ite (decide (xb = (111 : Int))) (Tr.ite (!xc2) (Tr.ret (decide (xc1 = v5), h0_0, h0_1, h0_2, v4, h0_4)) (Tr.ret (false, h0_0, h0_1, h0_2, v4, h0_4))) (Tr.ite (decide (xb = (116 : Int))) (Tr.ret (xc2, h0_0, h0_1, h0_2, h0_3, xc1)) (Tr.ret (false, h0_0, h0_1, h0_2, h0_3, h0_4)))))
def e70 (r : Bool × Int × Int × Int × Bool × ByteArray) : FRes := { rs := Slot.av (AV.one (Leaf.dat Kd.bool r.fst)), upd := [Blk.box [Leaf.dat (.int .i64) r.snd.fst, Leaf.dat (.int .i64) r.snd.snd.fst, Leaf.dat (.int .i64) r.snd.snd.snd.fst, Leaf.dat Kd.bool r.snd.snd.snd.snd.fst, Leaf.dat Kd.str r.snd.snd.snd.snd.snd]], new := [] }
@[reducible] def a70 : List AK := [AK.c (Leaf.ptr (0 : Nat) (0 : Nat)), AK.d (Kd.int IntKind.i32), AK.d partk]
@[reducible] def b70 : List BK := [boxC]
theorem t70 (xb : Int) (xc1 : ByteArray) (xc2 : Bool) (h0_0 : Int) (h0_1 : Int) (h0_2 : Int) (h0_3 : Bool) (h0_4 : ByteArray) : evFn (Env.withFns E0 G70) Tryd.f70 [PM.data Kd.bool] (akAV a70 (xb, (xc1, xc2, ()), ())) (bkBs b70 ((h0_0, h0_1, h0_2, h0_3, h0_4, ()), ())) = (d70 xb xc1 xc2 h0_0 h0_1 h0_2 h0_3 h0_4).map e70 := by kernel_rfl
def s70 (C : akT a70 → bksT b70 → Bool) (G : akT a70 → bksT b70 → Bool × Int × Int × Int × Bool × ByteArray) : FSpec := aspec a70 b70 e70 (C) (G)
theorem k70 {C : akT a70 → bksT b70 → Bool} {G : akT a70 → bksT b70 → Bool × Int × Int × Int × Bool × ByteArray} (hd : ∀ (xb : Int) (xc1 : ByteArray) (xc2 : Bool) (h0_0 : Int) (h0_1 : Int) (h0_2 : Int) (h0_3 : Bool) (h0_4 : ByteArray), C (xb, (xc1, xc2, ()), ()) ((h0_0, h0_1, h0_2, h0_3, h0_4, ()), ()) = true → (d70 xb xc1 xc2 h0_0 h0_1 h0_2 h0_3 h0_4).val = some (G (xb, (xc1, xc2, ()), ()) ((h0_0, h0_1, h0_2, h0_3, h0_4, ()), ()))) (IO : ItOK Tryd.prog (Env.withFns E0 G70) := by exact itOK_none rfl) (L : ∀ c, Tryd.f70.body = some c → LsOK (evI 2) ((Env.withFns E0 G70).lend 1) c := by exact fun c _ => LsOK_none rfl c) : SpecOK Tryd.prog E0 70 (s70 C G) :=
  aspec_ok (ak := a70) (bl := b70) (e := e70) (c := C) (g := G) (E0 := E0) (E := Env.withFns E0 G70) tab AG70 rfl rfl hm Tryd.func70 (by kernel_rfl) [PM.data Kd.bool] (fun X Y H => by obtain ⟨xb, ⟨⟨xc1, ⟨xc2, _⟩⟩, _⟩⟩ := X; obtain ⟨⟨h0_0, ⟨h0_1, ⟨h0_2, ⟨h0_3, ⟨h0_4, _⟩⟩⟩⟩⟩, _⟩ := Y; exact val_of (t70 xb xc1 xc2 h0_0 h0_1 h0_2 h0_3 h0_4) (hd xb xc1 xc2 h0_0 h0_1 h0_2 h0_3 h0_4 H)) IO L
def d69 (xa1 : ByteArray) (xa2 : ByteArray) (h0_0 : List (ByteArray × Bool × Unit)) : Tr (Bool × List (ByteArray × Bool × Unit)) :=
 Tr.ite (inB (0 : Int) (List.length h0_0)) (Tr.ite (decide (xa1 = (rget partk h0_0 (0 : Int)).fst)) (Tr.ret (!decide (xa1 = { data := #[] }), h0_0)) (Tr.ret (false, h0_0))) Tr.fail
def e69 (r : Bool × List (ByteArray × Bool × Unit)) : FRes := { rs := Slot.av (AV.one (Leaf.dat Kd.bool r.fst)), upd := [Blk.box [Leaf.dat (Kd.sl (Kd.pr Kd.str (Kd.pr Kd.bool Kd.un))) r.snd]], new := [] }
@[reducible] def a69 : List AK := [AK.d wordk, AK.c (Leaf.ptr (0 : Nat) (0 : Nat))]
@[reducible] def b69 : List BK := [BK.box [SK.d (Kd.sl partk)]]
theorem t69 (xa1 : ByteArray) (xa2 : ByteArray) (h0_0 : List (ByteArray × Bool × Unit)) : evFn (E0) Tryd.f69 [PM.data Kd.bool] (akAV a69 ((xa1, xa2, ()), ())) (bkBs b69 ((h0_0, ()), ())) = (d69 xa1 xa2 h0_0).map e69 := by kernel_rfl
def s69 (C : akT a69 → bksT b69 → Bool) (G : akT a69 → bksT b69 → Bool × List (ByteArray × Bool × Unit)) : FSpec := aspec a69 b69 e69 (C) (G)
theorem k69 {C : akT a69 → bksT b69 → Bool} {G : akT a69 → bksT b69 → Bool × List (ByteArray × Bool × Unit)} (hd : ∀ (xa1 : ByteArray) (xa2 : ByteArray) (h0_0 : List (ByteArray × Bool × Unit)), C ((xa1, xa2, ()), ()) ((h0_0, ()), ()) = true → (d69 xa1 xa2 h0_0).val = some (G ((xa1, xa2, ()), ()) ((h0_0, ()), ()))) (IO : ItOK Tryd.prog (E0) := by exact itOK_none rfl) (L : ∀ c, Tryd.f69.body = some c → LsOK (evI 2) ((E0).lend 1) c := by exact fun c _ => LsOK_none rfl c) : SpecOK Tryd.prog E0 69 (s69 C G) :=
  aspec_ok (ak := a69) (bl := b69) (e := e69) (c := C) (g := G) (E0 := E0) (E := E0) tab .nil rfl rfl hm Tryd.func69 (by kernel_rfl) [PM.data Kd.bool] (fun X Y H => by obtain ⟨⟨xa1, ⟨xa2, _⟩⟩, _⟩ := X; obtain ⟨⟨h0_0, _⟩, _⟩ := Y; exact val_of (t69 xa1 xa2 h0_0) (hd xa1 xa2 h0_0 H)) IO L
abbrev w69 : FSpec := s69 (fun _ y => decide (1 ≤ List.length (α := Part) y.1.1)) fun x y => (decide (x.1.1 = (rget partk y.1.1 (0 : Int)).1) && !decide (x.1.1 = ⟨#[]⟩), y.1.1)
theorem wk69 : SpecOK Tryd.prog E0 69 w69 := k69 fun a b l H => by
  have H : 1 ≤ List.length (α := Part) l := of_decide_eq_true H
  have i0 : inB (0 : Int) (List.length (α := Part) l) = true := by rw [inB_iff]; omega
  simp only [d69, Tr.val, i0, cond_true]
  cases decide (a = (rget partk l (0 : Int)).1) <;> rfl
def live68 (key : Nat) : Lv :=
  bif Nat.beq key 2 then { ls := [0, 1, 7, 8] } else bif Nat.beq key 1002 then { ls := [4] } else
  { ls := [] }
abbrev M68 (ls : Nat → VS → Option (Tr (Ex × VS))) : Env := (E0.withFns [(69, w69)]).loops live68 ls
@[reducible] def p68_0 : LP := { n := 19, sl := [.d (Kd.sl (Kd.pr Kd.str (Kd.pr Kd.str Kd.un))), .c (Leaf.fn ( 69) [0]), .d (.int .i64), .d (.int .i64)], bl := [(0, .box [.d (Kd.sl (Kd.pr Kd.str (Kd.pr Kd.bool Kd.un)))])] }
def B68_0 (x0 : List (ByteArray × ByteArray × Unit)) (x2 : Int) (x3 : Int) (h0_0 : List (ByteArray × Bool × Unit)) : Tr (p68_0.T ⊕ (Int × List (ByteArray × Bool × Unit) ⊕ List (ByteArray × Bool × Unit))) :=
 Tr.ite (decide (x3 < x2)) (Tr.ite (inB x3 (List.length x0)) (Tr.ite (decide ((1 : Nat) ≤ List.length h0_0)) (Tr.ite (decide ((rget (Kd.pr Kd.str (Kd.pr Kd.str Kd.un)) x0 x3).fst = (rget partk h0_0 (0 : Int)).fst) && !decide ((rget (Kd.pr Kd.str (Kd.pr Kd.str Kd.un)) x0 x3).fst = { data := #[] })) (Tr.ret (Sum.inr (Sum.inl (x3, h0_0)))) (Tr.ret (Sum.inl ((x0, x2, IntKind.wrap IntKind.i64 (x3 + (1 : Int)), ()), (h0_0, ()), ())))) Tr.fail) Tr.fail) (Tr.ret (Sum.inr (Sum.inr h0_0)))
def X68_0 : (Int × List (ByteArray × Bool × Unit) ⊕ List (ByteArray × Bool × Unit)) → Ex × VS
  | (.inl r) => Prod.mk Ex.ret { n := 19, v := [Slot.av (AV.one (Leaf.dat (.int .i64) r.fst))], h := [( 0, Blk.box [Leaf.dat (Kd.sl (Kd.pr Kd.str (Kd.pr Kd.bool Kd.un))) r.snd])] }
  | (.inr r) => Prod.mk (Ex.exit ( 0)) { n := 19, v := [Slot.av (AV.one Leaf.undef)], h := [( 0, Blk.box [Leaf.dat (Kd.sl (Kd.pr Kd.str (Kd.pr Kd.bool Kd.un))) r])] }
def b68_0 : p68_0.T → Tr (p68_0.T ⊕ (Int × List (ByteArray × Bool × Unit) ⊕ List (ByteArray × Bool × Unit))) := fun ⟨⟨x0, ⟨x2, ⟨x3, _⟩⟩⟩, ⟨⟨h0_0, _⟩, _⟩⟩ => B68_0 x0 x2 x3 h0_0
theorem h68_0 (ls : Nat → VS → Option (Tr (Ex × VS))) (x : p68_0.T) : (evC (evI 2) (lc Tryd.f68 0) (Env.lend (M68 ls) 1) (unV (live68 2) (p68_0.V x))).map (decL 1 (live68 2) (live68 1002)) = (b68_0 x).map (encR p68_0.V X68_0) := by
  obtain ⟨⟨x0, ⟨x2, ⟨x3, _⟩⟩⟩, ⟨⟨h0_0, _⟩, _⟩⟩ := x; kernel_rfl
theorem c68_0 (x : p68_0.T) : canV 1 (live68 2) (unV (live68 2) (p68_0.V x)) = p68_0.V x := by
  obtain ⟨⟨x0, ⟨x2, ⟨x3, _⟩⟩⟩, ⟨⟨h0_0, _⟩, _⟩⟩ := x; kernel_rfl
theorem l68_0 {T : p68_0.T → Tr (Int × List (ByteArray × Bool × Unit) ⊕ List (ByteArray × Bool × Unit))} {ls : Nat → VS → Option (Tr (Ex × VS))} (hls : ∀ x, (Env.lend (M68 ls) 1).ls 2 x = p68_0.ls (fun a => (T a).map X68_0) x) (hS : ∀ x r, (T x).val = some r → Rounds b68_0 x r) : LoopOK (evI 2) (Env.lend (M68 ls) 1) (lc Tryd.f68 0) :=
  loopA 2 (live68 2) (live68 1002) p68_0 b68_0 X68_0 T (by kernel_rfl) rfl rfl hls (h68_0 ls) c68_0 hS
abbrev Wrd := ByteArray × ByteArray × Unit
def dW : Wrd := (⟨#[]⟩, ⟨#[]⟩, ())
def isW (l : List Wrd) (p : ByteArray) (i : Nat) : Bool := decide ((l.getD i dW).1 = p) && !decide ((l.getD i dW).1 = ⟨#[]⟩)
theorem rgetW (l : List Wrd) (i : Nat) : rget wordk l (i : Int) = l.getD i dW := by rw [rget_nat]; rfl
def T68 (x : p68_0.T) : Tr (Int × List Part ⊕ List Part) :=
  .ite (decide ((x.1.2.1 : Int) = (List.length (α := Wrd) x.1.1 : Int) ∧ (x.1.2.2.1 : Int) = 0 ∧ List.length (α := Wrd) x.1.1 ≤ 1048576 ∧ 1 ≤ List.length (α := Part) x.2.1.1))
    (.ite (findN (isW x.1.1 (rget partk x.2.1.1 (0 : Int)).1) (List.length (α := Wrd) x.1.1) 0).isSome (.ret (.inl ((((findN (isW x.1.1 (rget partk x.2.1.1 (0 : Int)).1) (List.length (α := Wrd) x.1.1) 0).getD 0 : Nat) : Int), x.2.1.1))) (.ret (.inr x.2.1.1))) .fail
abbrev E68 : Env := M68 fun key x => bif Nat.beq key 2 then p68_0.ls (fun a => (T68 a).map X68_0) x else none
theorem L68 : LoopOK (evI 2) (E68.lend 1) (lc Tryd.f68 0) := by
  refine l68_0 (T := T68) (fun x => rfl) ?_
  rintro ⟨⟨l, n, i, z⟩, ⟨g, z1⟩, z2⟩ r h
  obtain ⟨h1, h2⟩ := pre_val h
  obtain ⟨e1, e2, e3, e4⟩ := of_decide_eq_true h1
  dsimp only at e1 e2 e3 e4 h2
  subst e1
  subst e2
  have := Rounds.find (B := b68_0) (N := l.length) (fun i => ((l, (l.length : Int), (i : Int), ()), (g, ()), ())) (isW l (rget partk g (0 : Int)).1) (fun i => .inl ((i : Int), g)) (.inr g) (fun i hi => ?_) ?_
  · cases hf : findN (isW l (rget partk g (0 : Int)).1) l.length 0 <;> simp only [hf, Tr.val, Option.isSome_none, Option.isSome_some, Option.getD_some, cond_true, cond_false, outN] at h2 this <;> cases h2 <;> exact this
  · have e4 : decide (1 ≤ List.length (α := Part) g) = true := decide_eq_true e4
    unfold isW
    simp only [b68_0, B68_0, Tr.val, inB_nat hi, rgetW, e4, show ((i : Int) < (l.length : Int)) by omega, decide_true, cond_true, wrap64_nat (show i ≤ 1048576 by omega)]
    cases decide ((l.getD i dW).1 = (rget partk g (0 : Int)).1) <;> cases decide ((l.getD i dW).1 = ⟨#[]⟩) <;> rfl
  · simp only [b68_0, B68_0, Tr.val, show ¬ ((l.length : Int) < (l.length : Int)) by omega, decide_false, cond_false]
def d68 (xa : List (ByteArray × ByteArray × Unit)) (h0_0 : List (ByteArray × Bool × Unit)) : Tr (Int × List (ByteArray × Bool × Unit)) :=
 let v1 : Int := ((↑(List.length xa) : Int))
 let v2 : Int := ((↑(List.length xa) : Int))
 Tr.ite (decide (v2 = v1 ∧ (0 : Int) = (0 : Int) ∧ List.length xa ≤ (1048576 : Nat) ∧ (1 : Nat) ≤ List.length h0_0)) (Tr.ite (Option.isSome (findN (isW xa (rget partk h0_0 (0 : Int)).fst) (List.length xa) (0 : Nat))) (Tr.ret ((↑(Option.getD (findN (isW xa (rget partk h0_0 (0 : Int)).fst) (List.length xa) (0 : Nat)) (0 : Nat)) : Int), h0_0)) (Tr.ret ((-1 : Int), h0_0))) Tr.fail
def e68 (r : Int × List (ByteArray × Bool × Unit)) : FRes := { rs := Slot.av (AV.one (Leaf.dat (.int .i64) r.fst)), upd := [Blk.box [Leaf.dat (Kd.sl (Kd.pr Kd.str (Kd.pr Kd.bool Kd.un))) r.snd]], new := [] }
@[reducible] def a68 : List AK := [AK.d (Kd.sl wordk), AK.c (Leaf.fn (69 : FuncId) [(0 : Nat)])]
@[reducible] def b68 : List BK := [BK.box [SK.d (Kd.sl partk)]]
theorem t68 (xa : List (ByteArray × ByteArray × Unit)) (h0_0 : List (ByteArray × Bool × Unit)) : evFn (E68) Tryd.f68 [PM.data (.int .i64)] (akAV a68 (xa, ())) (bkBs b68 ((h0_0, ()), ())) = (d68 xa h0_0).map e68 := by kernel_rfl
def s68 (C : akT a68 → bksT b68 → Bool) (G : akT a68 → bksT b68 → Int × List (ByteArray × Bool × Unit)) : FSpec := aspec a68 b68 e68 (C) (G)
theorem k68 {C : akT a68 → bksT b68 → Bool} {G : akT a68 → bksT b68 → Int × List (ByteArray × Bool × Unit)} (hd : ∀ (xa : List (ByteArray × ByteArray × Unit)) (h0_0 : List (ByteArray × Bool × Unit)), C (xa, ()) ((h0_0, ()), ()) = true → (d68 xa h0_0).val = some (G (xa, ()) ((h0_0, ()), ()))) (IO : ItOK Tryd.prog (E68) := by exact itOK_none rfl) (L : ∀ c, Tryd.f68.body = some c → LsOK (evI 2) ((E68).lend 1) c := by exact fun c _ => LsOK_none rfl c) : SpecOK Tryd.prog E0 68 (s68 C G) :=
  aspec_ok (ak := a68) (bl := b68) (e := e68) (c := C) (g := G) (E0 := E0) (E := E68) tab (.cons wk69 .nil) rfl rfl hm Tryd.func68 (by kernel_rfl) [PM.data (.int .i64)] (fun X Y H => by obtain ⟨xa, _⟩ := X; obtain ⟨⟨h0_0, _⟩, _⟩ := Y; exact val_of (t68 xa h0_0) (hd xa h0_0 H)) IO L
abbrev w68 : FSpec := s68 (fun x y => decide (List.length (α := Wrd) x.1 ≤ 1048576 ∧ 1 ≤ List.length (α := Part) y.1.1)) fun x y => (optI' (findN (isW x.1 (rget partk y.1.1 (0 : Int)).1) (List.length (α := Wrd) x.1) 0), y.1.1)
theorem wk68 : SpecOK Tryd.prog E0 68 w68 := by
  refine k68 (fun l g H => ?_) (L := ls_ok (lcs := [lc Tryd.f68 0]) (rgs := []) (by kernel_rfl) (by kernel_rfl) L68 trivial)
  have H : List.length (α := Wrd) l ≤ 1048576 ∧ 1 ≤ List.length (α := Part) g := of_decide_eq_true H
  simp only [d68, Tr.val, H, and_self, decide_true, cond_true]
  cases findN (isW l (rget partk g (0 : Int)).1) l.length 0 <;> rfl
def readV (k : Int) (p : Part) (op a b : Int) (on : Bool) (t : ByteArray) : Bool × Int × Int × Int × Bool × ByteArray :=
  bif decide (k = 65) then ((numV p.1 p.2.1).2, op, (numV p.1 p.2.1).1, b, on, t) else bif decide (k = 66) then ((numV p.1 p.2.1).2, op, a, (numV p.1 p.2.1).1, on, t) else
  bif decide (k = 111) then (!p.2.1 && decide (p.1 = truth (decide (p.1 = ⟨#[111, 110]⟩))), op, a, b, decide (p.1 = ⟨#[111, 110]⟩), t) else bif decide (k = 116) then (p.2.1, op, a, b, on, p.1) else (false, op, a, b, on, t)
abbrev w70 : FSpec := s70 (fun x _ => decide (ByteArray.size x.2.1.1 ≤ 1048576)) fun x y => readV x.1 x.2.1 y.1.1 y.1.2.1 y.1.2.2.1 y.1.2.2.2.1 y.1.2.2.2.2.1
theorem wk70 : SpecOK Tryd.prog E0 70 w70 := k70 fun k s q op a b on t H => by
  have H : decide (s.size ≤ 1048576) = true := H
  show _ = some (readV k (s, q, ()) op a b on t)
  unfold readV
  simp only [d70, Tr.val, H, cond_true]
  cases decide (k = 65) with
  | true => rfl
  | false =>
    cases decide (k = 66) with
    | true => rfl
    | false =>
      cases decide (k = 111) with
      | true => cases q <;> rfl
      | false => cases decide (k = 116) <;> rfl
abbrev G27 : List (Nat × FSpec) := [(67, w67), (68, w68), (70, w70), (33, w33)]
theorem AG27 : AllFn Tryd.prog E0 G27 := .cons wk67 (.cons wk68 (.cons wk70 (.cons wk33 .nil)))
def live27 (key : Nat) : Lv :=
  bif Nat.beq key 13 then { ls := [2, 4, 7, 50] } else bif Nat.beq key 1013 then { ls := [2, 3, 7] } else
  { ls := [] }
abbrev M27 (ls : Nat → VS → Option (Tr (Ex × VS))) : Env := (E0.withFns G27).loops live27 ls
@[reducible] def p27_0 : LP := { n := 69, sl := [.c (Leaf.ptr ( 0) ( 0)), .c (Leaf.ptr ( 1) ( 0)), .c (Leaf.ptr ( 2) ( 0)), .c (Leaf.ptr ( 3) ( 0))], bl := [(0, .box [.d (.int .i64), .d (.int .i64), .d (.int .i64), .d (Kd.bool), .d (Kd.str)]), (1, .box [.d (Kd.sl (Kd.pr Kd.str (Kd.pr Kd.bool Kd.un)))]), (2, .box [.d (.int .i64), .d (.int .i64), .d (.int .i64), .d (Kd.bool), .d (Kd.str)]), (3, .sit)] }
def B27_0 (h0_0 : Int) (h0_1 : Int) (h0_2 : Int) (h0_3 : Bool) (h0_4 : ByteArray) (h1_0 : List (ByteArray × Bool × Unit)) (h2_0 : Int) (h2_1 : Int) (h2_2 : Int) (h2_3 : Bool) (h2_4 : ByteArray) (h3_s : ByteArray) (h3_p : Int) : Tr (p27_0.T ⊕ (Int × Int × Int × Int × Bool × ByteArray × Int × Int × Int × Bool × ByteArray ⊕ Int × Int × Int × Bool × ByteArray × Int × Int × Int × Bool × ByteArray)) :=
 let v1 : Int := (IntKind.wrap IntKind.i64 ((1 : Int) + h3_p))
 let v2 : Bool := (decide (h3_p < (↑(ByteArray.size h3_s) : Int)))
 let v3 : Bool × Int × Int × Int × Bool × ByteArray := (readV (rnAt h3_s h3_p) (rget (Kd.pr Kd.str (Kd.pr Kd.bool Kd.un)) h1_0 v1) h2_0 h2_1 h2_2 h2_3 h2_4)
 let v4 : Int × Int × Int × Bool × ByteArray := (v3.snd)
 let v5 : Int × Int × Bool × ByteArray := (v4.snd)
 let v6 : Int := (v4.fst)
 let v7 : Int × Bool × ByteArray := (v5.snd)
 let v8 : Int := (v5.fst)
 let v9 : Bool × ByteArray := (v7.snd)
 let v10 : Int := (v7.fst)
 let v11 : Bool := (v9.fst)
 let v12 : ByteArray := (v9.snd)
 Tr.ite v2 (Tr.ite v2 (Tr.ite v2 (Tr.ite (inB v1 (List.length h1_0)) (Tr.ite (decide (ByteArray.size (rget (Kd.pr Kd.str (Kd.pr Kd.bool Kd.un)) h1_0 v1).fst ≤ (1048576 : Nat))) (Tr.ite (!v3.fst) (Tr.ret (Sum.inr (Sum.inl ((4 : Int), (0 : Int), (0 : Int), (0 : Int), false, ByteArray.empty, v6, v8, v10, v11, v12)))) (Tr.ret (Sum.inl ((), (h0_0, h0_1, h0_2, h0_3, h0_4, ()), (h1_0, ()), (v6, v8, v10, v11, v12, ()), (h3_s, nxtP h3_s h3_p, ()), ())))) Tr.fail) Tr.fail) Tr.fail) Tr.fail) (Tr.ret (Sum.inr (Sum.inr (h0_0, h0_1, h0_2, h0_3, h0_4, h2_0, h2_1, h2_2, h2_3, h2_4))))
def X27_0 : (Int × Int × Int × Int × Bool × ByteArray × Int × Int × Int × Bool × ByteArray ⊕ Int × Int × Int × Bool × ByteArray × Int × Int × Int × Bool × ByteArray) → Ex × VS
  | (.inl r) => Prod.mk Ex.ret { n := 69, v := [Slot.av (AV.one (Leaf.ptr ( 0) ( 0))), Slot.av (AV.one (Leaf.dat (.int .i64) r.fst)), Slot.av (AV.one (Leaf.ptr ( 1) ( 0)))], h := [( 0, Blk.box [Leaf.dat (.int .i64) r.snd.fst, Leaf.dat (.int .i64) r.snd.snd.fst, Leaf.dat (.int .i64) r.snd.snd.snd.fst, Leaf.dat Kd.bool r.snd.snd.snd.snd.fst, Leaf.dat Kd.str r.snd.snd.snd.snd.snd.fst]), ( 1, Blk.box [Leaf.dat (.int .i64) r.snd.snd.snd.snd.snd.snd.fst, Leaf.dat (.int .i64) r.snd.snd.snd.snd.snd.snd.snd.fst, Leaf.dat (.int .i64) r.snd.snd.snd.snd.snd.snd.snd.snd.fst, Leaf.dat Kd.bool r.snd.snd.snd.snd.snd.snd.snd.snd.snd.fst, Leaf.dat Kd.str r.snd.snd.snd.snd.snd.snd.snd.snd.snd.snd])] }
  | (.inr r) => Prod.mk (Ex.exit ( 0)) { n := 69, v := [Slot.av (AV.one (Leaf.ptr ( 0) ( 0))), Slot.av (AV.one Leaf.undef), Slot.av (AV.one (Leaf.ptr ( 1) ( 0)))], h := [( 0, Blk.box [Leaf.dat (.int .i64) r.fst, Leaf.dat (.int .i64) r.snd.fst, Leaf.dat (.int .i64) r.snd.snd.fst, Leaf.dat Kd.bool r.snd.snd.snd.fst, Leaf.dat Kd.str r.snd.snd.snd.snd.fst]), ( 1, Blk.box [Leaf.dat (.int .i64) r.snd.snd.snd.snd.snd.fst, Leaf.dat (.int .i64) r.snd.snd.snd.snd.snd.snd.fst, Leaf.dat (.int .i64) r.snd.snd.snd.snd.snd.snd.snd.fst, Leaf.dat Kd.bool r.snd.snd.snd.snd.snd.snd.snd.snd.fst, Leaf.dat Kd.str r.snd.snd.snd.snd.snd.snd.snd.snd.snd])] }
def b27_0 : p27_0.T → Tr (p27_0.T ⊕ (Int × Int × Int × Int × Bool × ByteArray × Int × Int × Int × Bool × ByteArray ⊕ Int × Int × Int × Bool × ByteArray × Int × Int × Int × Bool × ByteArray)) := fun ⟨_, ⟨⟨h0_0, ⟨h0_1, ⟨h0_2, ⟨h0_3, ⟨h0_4, _⟩⟩⟩⟩⟩, ⟨⟨h1_0, _⟩, ⟨⟨h2_0, ⟨h2_1, ⟨h2_2, ⟨h2_3, ⟨h2_4, _⟩⟩⟩⟩⟩, ⟨⟨h3_s, ⟨h3_p, _⟩⟩, _⟩⟩⟩⟩⟩ => B27_0 h0_0 h0_1 h0_2 h0_3 h0_4 h1_0 h2_0 h2_1 h2_2 h2_3 h2_4 h3_s h3_p
theorem h27_0 (ls : Nat → VS → Option (Tr (Ex × VS))) (x : p27_0.T) : (evC (evI 2) (lc Tryd.f27 0) (Env.lend (M27 ls) 0) (unV (live27 13) (p27_0.V x))).map (decL 0 (live27 13) (live27 1013)) = (b27_0 x).map (encR p27_0.V X27_0) := by
  obtain ⟨_, ⟨⟨h0_0, ⟨h0_1, ⟨h0_2, ⟨h0_3, ⟨h0_4, _⟩⟩⟩⟩⟩, ⟨⟨h1_0, _⟩, ⟨⟨h2_0, ⟨h2_1, ⟨h2_2, ⟨h2_3, ⟨h2_4, _⟩⟩⟩⟩⟩, ⟨⟨h3_s, ⟨h3_p, _⟩⟩, _⟩⟩⟩⟩⟩ := x; kernel_rfl
theorem c27_0 (x : p27_0.T) : canV 0 (live27 13) (unV (live27 13) (p27_0.V x)) = p27_0.V x := by
  obtain ⟨_, ⟨⟨h0_0, ⟨h0_1, ⟨h0_2, ⟨h0_3, ⟨h0_4, _⟩⟩⟩⟩⟩, ⟨⟨h1_0, _⟩, ⟨⟨h2_0, ⟨h2_1, ⟨h2_2, ⟨h2_3, ⟨h2_4, _⟩⟩⟩⟩⟩, ⟨⟨h3_s, ⟨h3_p, _⟩⟩, _⟩⟩⟩⟩⟩ := x; kernel_rfl
theorem l27_0 {T : p27_0.T → Tr (Int × Int × Int × Int × Bool × ByteArray × Int × Int × Int × Bool × ByteArray ⊕ Int × Int × Int × Bool × ByteArray × Int × Int × Int × Bool × ByteArray)} {ls : Nat → VS → Option (Tr (Ex × VS))} (hls : ∀ x, (Env.lend (M27 ls) 0).ls 13 x = p27_0.ls (fun a => (T a).map X27_0) x) (hS : ∀ x r, (T x).val = some r → Rounds b27_0 x r) : LoopOK (evI 2) (Env.lend (M27 ls) 0) (lc Tryd.f27 0) :=
  loopA 13 (live27 13) (live27 1013) p27_0 b27_0 X27_0 T (by kernel_rfl) rfl rfl hls (h27_0 ls) c27_0 hS
def readC (k : Int) (p : Part) (c : C5) : Bool × C5 := readV k p c.1 c.2.1 c.2.2.1 c.2.2.2.1 c.2.2.2.2
def pD : Part := (ByteArray.empty, false, ())
def readsI : List Int → List Part → Nat → C5 → Bool × C5
  | [], _, _, c => (true, c)
  | k :: r, l, i, c => bif (readC k (l.getD i pD) c).1 then readsI r l (i + 1) (readC k (l.getD i pD) c).2 else (false, (readC k (l.getD i pD) c).2)
theorem rgetP (l : List Part) (i : Nat) : rget partk l (i : Int) = l.getD i pD := by rw [rget_nat]; rfl
def smallP (l : List Part) : Bool := l.all fun p => decide (p.1.size ≤ 1048576)
def T27 (x : p27_0.T) : Tr (Int × Int × Int × Int × Bool × ByteArray × Int × Int × Int × Bool × ByteArray ⊕ Int × Int × Int × Bool × ByteArray × Int × Int × Int × Bool × ByteArray) :=
  match x with
  | ⟨_, ⟨o0, o1, o2, o3, o4, _⟩, ⟨l, _⟩, ⟨op, a, b, on, t, _⟩, ⟨s, p, _⟩, _⟩ =>
    .ite (decide ((p : Int) = 0 ∧ List.length (α := Part) l = 1 + ByteArray.size s ∧ List.length (α := Part) l ≤ 1048576) && (isHas s && smallP l))
      (.ite (readsI (bytesL s) l 1 (op, a, b, on, t)).1 (.ret (.inr (o0, o1, o2, o3, o4, (readsI (bytesL s) l 1 (op, a, b, on, t)).2)))
        (.ret (.inl (4, 0, 0, 0, false, ByteArray.empty, (readsI (bytesL s) l 1 (op, a, b, on, t)).2)))) .fail
abbrev E27 : Env := M27 fun key x => bif Nat.beq key 13 then p27_0.ls (fun a => (T27 a).map X27_0) x else none
theorem round27 {o0 o1 o2 : Int} {o3 : Bool} {o4 : ByteArray} {l : List Part} {c : C5} {s : ByteArray} {i n : Nat} {k : Int} (hi : i < s.size) (hs : s.size ≤ 10) (hl : l.length = 1 + s.size) (h2 : smallP l = true) (hr : rnAt s (i : Int) = k) (hn : nxtP s (i : Int) = (n : Int)) :
    (b27_0 ((), (o0, o1, o2, o3, o4, ()), (l, ()), (c.1, c.2.1, c.2.2.1, c.2.2.2.1, c.2.2.2.2, ()), (s, (i : Int), ()), ())).val =
      bif (readC k (l.getD (1 + i) pD) c).1 then some (.inl ((), (o0, o1, o2, o3, o4, ()), (l, ()), ((readC k (l.getD (1 + i) pD) c).2.1, (readC k (l.getD (1 + i) pD) c).2.2.1, (readC k (l.getD (1 + i) pD) c).2.2.2.1, (readC k (l.getD (1 + i) pD) c).2.2.2.2.1, (readC k (l.getD (1 + i) pD) c).2.2.2.2.2, ()), (s, (n : Int), ()), ()))
      else some (.inr (.inl (4, 0, 0, 0, false, ByteArray.empty, (readC k (l.getD (1 + i) pD) c).2))) := by
  have lt : decide ((i : Int) < (s.size : Int)) = true := decide_eq_true (by omega)
  have w : IntKind.wrap IntKind.i64 (1 + (i : Int)) = ((1 + i : Nat) : Int) := by rw [Go.Ev.w64 (by omega) (by omega)]; omega
  have il : inB ((1 + i : Nat) : Int) l.length = true := inB_nat (by omega)
  have sz : decide ((l.getD (1 + i) pD).1.size ≤ 1048576) = true := by
    unfold smallP at h2
    rw [List.all_eq_true] at h2
    rw [getD_el (by omega)]
    exact h2 _ (List.getElem_mem _)
  unfold readC
  simp only [b27_0, B27_0, Tr.val, lt, w, il, rgetP, sz, hr, hn, cond_true]
  cases (readV k (l.getD (1 + i) pD) c.1 c.2.1 c.2.2.1 c.2.2.2.1 c.2.2.2.2).1 <;> rfl
theorem L27 : LoopOK (evI 2) (E27.lend 0) (lc Tryd.f27 0) := by
  refine l27_0 (T := T27) (fun x => rfl) ?_
  rintro ⟨z0, ⟨o0, o1, o2, o3, o4, z1⟩, ⟨l, z2⟩, ⟨op, a, b, on, t, z3⟩, ⟨s, p, z4⟩, z5⟩ r h
  obtain ⟨g1, g2⟩ := pre_val h
  rw [Bool.and_eq_true, Bool.and_eq_true] at g1
  obtain ⟨g0, e2, hp⟩ := g1
  obtain ⟨e1, hl, hl2⟩ : (p : Int) = 0 ∧ List.length (α := Part) l = 1 + s.size ∧ List.length (α := Part) l ≤ 1048576 := of_decide_eq_true g0
  have hp : smallP l = true := hp
  subst e1
  have main : Rounds b27_0 (z0, (o0, o1, o2, o3, o4, z1), (l, z2), (op, a, b, on, t, z3), (s, (0 : Int), z4), z5) (bif (readsI (bytesL s) l 1 (op, a, b, on, t)).1 then .inr (o0, o1, o2, o3, o4, (readsI (bytesL s) l 1 (op, a, b, on, t)).2)
      else .inl (4, 0, 0, 0, false, ByteArray.empty, (readsI (bytesL s) l 1 (op, a, b, on, t)).2)) := by
    unfold isHas at e2
    simp only [Bool.or_eq_true, decide_eq_true_eq] at e2
    have one : ∀ (k : Int) (s : ByteArray), bytesL s = [k] → l.length = 1 + s.size → rnAt s ((0 : Nat) : Int) = k → nxtP s ((0 : Nat) : Int) = ((1 : Nat) : Int) →
        Rounds b27_0 (z0, (o0, o1, o2, o3, o4, z1), (l, z2), (op, a, b, on, t, z3), (s, (0 : Int), z4), z5) (bif (readsI (bytesL s) l 1 (op, a, b, on, t)).1 then .inr (o0, o1, o2, o3, o4, (readsI (bytesL s) l 1 (op, a, b, on, t)).2)
          else .inl (4, 0, 0, 0, false, ByteArray.empty, (readsI (bytesL s) l 1 (op, a, b, on, t)).2)) := by
      intro k s hb hl hr hn
      have hz : s.size = 1 := by rw [← bytesL_size, hb]; rfl
      have h1 := round27 (o0 := o0) (o1 := o1) (o2 := o2) (o3 := o3) (o4 := o4) (c := (op, a, b, on, t)) (i := 0) (by omega) (by omega) hl hp hr hn
      rw [hb]
      unfold readsI
      cases hc : (readC k (l.getD 1 pD) (op, a, b, on, t)).1 with
      | false =>
        rw [show 1 + 0 = 1 from rfl, hc] at h1
        exact .exit h1
      | true =>
        rw [show 1 + 0 = 1 from rfl, hc] at h1
        refine .step h1 (.exit ?_)
        simp only [b27_0, B27_0, Tr.val, hz, show ¬ (((1 : Nat) : Int) < ((1 : Nat) : Int)) by omega, decide_false, cond_false]
        rfl
    have two : ∀ (k k' : Int) (s : ByteArray), bytesL s = [k, k'] → l.length = 1 + s.size → rnAt s ((0 : Nat) : Int) = k → nxtP s ((0 : Nat) : Int) = ((1 : Nat) : Int) → rnAt s ((1 : Nat) : Int) = k' → nxtP s ((1 : Nat) : Int) = ((2 : Nat) : Int) →
        Rounds b27_0 (z0, (o0, o1, o2, o3, o4, z1), (l, z2), (op, a, b, on, t, z3), (s, (0 : Int), z4), z5) (bif (readsI (bytesL s) l 1 (op, a, b, on, t)).1 then .inr (o0, o1, o2, o3, o4, (readsI (bytesL s) l 1 (op, a, b, on, t)).2)
          else .inl (4, 0, 0, 0, false, ByteArray.empty, (readsI (bytesL s) l 1 (op, a, b, on, t)).2)) := by
      intro k k' s hb hl hr hn hr' hn'
      have hz : s.size = 2 := by rw [← bytesL_size, hb]; rfl
      have h1 := round27 (o0 := o0) (o1 := o1) (o2 := o2) (o3 := o3) (o4 := o4) (c := (op, a, b, on, t)) (i := 0) (by omega) (by omega) hl hp hr hn
      have h2 := round27 (o0 := o0) (o1 := o1) (o2 := o2) (o3 := o3) (o4 := o4) (c := (readC k (l.getD 1 pD) (op, a, b, on, t)).2) (i := 1) (by omega) (by omega) hl hp hr' hn'
      rw [hb]
      have e0 : readsI [k, k'] l 1 (op, a, b, on, t) = bif (readC k (l.getD 1 pD) (op, a, b, on, t)).1 then (bif (readC k' (l.getD 2 pD) (readC k (l.getD 1 pD) (op, a, b, on, t)).2).1 then (true, (readC k' (l.getD 2 pD) (readC k (l.getD 1 pD) (op, a, b, on, t)).2).2) else
        (false, (readC k' (l.getD 2 pD) (readC k (l.getD 1 pD) (op, a, b, on, t)).2).2)) else (false, (readC k (l.getD 1 pD) (op, a, b, on, t)).2) := rfl
      rw [e0]
      cases hc : (readC k (l.getD 1 pD) (op, a, b, on, t)).1 with
      | false =>
        rw [show 1 + 0 = 1 from rfl, hc] at h1
        exact .exit h1
      | true =>
        rw [show 1 + 0 = 1 from rfl, hc] at h1
        refine .step h1 ?_
        rw [cond_true]
        cases hc2 : (readC k' (l.getD 2 pD) (readC k (l.getD 1 pD) (op, a, b, on, t)).2).1 with
        | false =>
          rw [show 1 + 1 = 2 from rfl, hc2] at h2
          exact .exit h2
        | true =>
          rw [show 1 + 1 = 2 from rfl, hc2] at h2
          refine .step h2 (.exit ?_)
          simp only [b27_0, B27_0, Tr.val, hz, show ¬ (((2 : Nat) : Int) < ((2 : Nat) : Int)) by omega, decide_false, cond_false]
          rfl
    rcases e2 with rfl | rfl | rfl | rfl | rfl
    · exact .exit rfl
    · exact one 65 _ rfl hl (by decide +kernel) (by decide +kernel)
    · exact two 65 66 _ rfl hl (by decide +kernel) (by decide +kernel) (by decide +kernel) (by decide +kernel)
    · exact one 111 _ rfl hl (by decide +kernel) (by decide +kernel)
    · exact one 116 _ rfl hl (by decide +kernel) (by decide +kernel)
  cases hc : (readsI (bytesL s) l 1 (op, a, b, on, t)).1 <;> rw [hc] at g2 main <;> cases g2 <;> exact main
def d27 (xa : ByteArray) : Tr (Int × Int × Int × Bool × ByteArray × Int) :=
 let v1 : List Part := ((okV (cutV (bytesL xa))).fst)
 let v2 : Int := ((↑(List.length v1) : Int))
 let v3 : Int := (optI' (findN (isW U.wordsL (rget partk v1 (0 : Int)).fst) (22 : Nat) (0 : Nat)))
 let v4 : Bool := (inB v3 (22 : Nat))
 let v5 : Int := (IntKind.wrap IntKind.i64 ((1 : Int) + (↑(ByteArray.size (rget wordk U.wordsL v3).snd.fst) : Int)))
 let v6 : Bool × C5 := (readsI (bytesL (rget wordk U.wordsL v3).snd.fst) v1 (1 : Nat) (v3, (0 : Int), (0 : Int), false, ByteArray.empty))
 let v7 : Int := (v6.snd.fst)
 let v8 : Int × Int × Bool × ByteArray := (v6.snd.snd)
 let v9 : Int × Bool × ByteArray := (v8.snd)
 let v10 : Int := (v8.fst)
 let v11 : Int := (v9.fst)
 let v12 : Bool × ByteArray := (v9.snd)
 let v13 : Bool := (v12.fst)
 let v14 : ByteArray := (v12.snd)
 Tr.ite (decide (ByteArray.size xa ≤ (1048576 : Nat))) (Tr.ite (!(okV (cutV (bytesL xa))).snd) (Tr.ret ((0 : Int), (0 : Int), (0 : Int), false, ByteArray.empty, (4 : Int))) (Tr.ite (decide (v2 = (0 : Int))) (Tr.ret ((0 : Int), (0 : Int), (0 : Int), false, ByteArray.empty, (5 : Int))) (Tr.ite (inB (0 : Int) (List.length v1)) (Tr.ite (rget (Kd.pr Kd.str (Kd.pr Kd.bool Kd.un)) v1 (0 : Int)).snd.fst (Tr.ret ((0 : Int), (0 : Int), (0 : Int), false, ByteArray.empty, (5 : Int))) (Tr.ite (decide ((22 : Nat) ≤ (1048576 : Nat) ∧ (1 : Nat) ≤ List.length v1)) (Tr.ite (decide (v3 < (0 : Int))) (Tr.ret ((0 : Int), (0 : Int), (0 : Int), false, ByteArray.empty, (5 : Int))) (Tr.ite v4 (Tr.ite (!decide (v2 = v5)) (Tr.ret ((0 : Int), (0 : Int), (0 : Int), false, ByteArray.empty, (4 : Int))) (Tr.ite v4 (Tr.ite (decide ((0 : Int) = (0 : Int) ∧ List.length v1 = (1 : Nat) + ByteArray.size (rget wordk U.wordsL v3).snd.fst ∧ List.length v1 ≤ (1048576 : Nat)) && (isHas (rget wordk U.wordsL v3).snd.fst && smallP v1)) (Tr.ite v6.fst (Tr.ite (decide (ByteArray.size v14 ≤ (1048576 : Nat))) (Tr.ite (!rightV v7 v10 v11 v13 v14) (Tr.ret ((0 : Int), (0 : Int), (0 : Int), false, ByteArray.empty, (4 : Int))) (Tr.ret (v7, v10, v11, v13, v14, (0 : Int)))) Tr.fail) (Tr.ret ((0 : Int), (0 : Int), (0 : Int), false, ByteArray.empty, (4 : Int)))) Tr.fail) Tr.fail)) Tr.fail)) Tr.fail)) Tr.fail))) Tr.fail
def e27 (r : Int × Int × Int × Bool × ByteArray × Int) : FRes := { rs := Slot.tup [AV.agg [Leaf.dat (.int .i64) r.fst, Leaf.dat (.int .i64) r.snd.fst, Leaf.dat (.int .i64) r.snd.snd.fst, Leaf.dat Kd.bool r.snd.snd.snd.fst, Leaf.dat Kd.str r.snd.snd.snd.snd.fst], AV.one (Leaf.dat (.int .i64) r.snd.snd.snd.snd.snd)], upd := [], new := [] }
@[reducible] def a27 : List AK := [AK.d Kd.str]
@[reducible] def b27 : List BK := []
theorem t27 (xa : ByteArray) : evFn (E27) Tryd.f27 [PM.data cmdk, PM.data (.int .i64)] (akAV a27 (xa, ())) (bkBs b27 ()) = (d27 xa).map e27 := by kernel_rfl
def s27 (C : akT a27 → Bool) (G : akT a27 → Int × Int × Int × Bool × ByteArray × Int) : FSpec := aspec a27 b27 e27 (fun x _ => C x) (fun x _ => G x)
theorem k27 {C : akT a27 → Bool} {G : akT a27 → Int × Int × Int × Bool × ByteArray × Int} (hd : ∀ (xa : ByteArray), C (xa, ()) = true → (d27 xa).val = some (G (xa, ()))) (IO : ItOK Tryd.prog (E27) := by exact itOK_none rfl) (L : ∀ c, Tryd.f27.body = some c → LsOK (evI 2) ((E27).lend 0) c := by exact fun c _ => LsOK_none rfl c) : SpecOK Tryd.prog E0 27 (s27 C G) :=
  aspec_ok (ak := a27) (bl := b27) (e := e27) (c := fun x _ => C x) (g := fun x _ => G x) (E0 := E0) (E := E27) tab AG27 rfl rfl hm Tryd.func27 (by kernel_rfl) [PM.data cmdk, PM.data (.int .i64)] (fun X Y H => by obtain ⟨xa, _⟩ := X; exact val_of (t27 xa) (hd xa H)) IO L
theorem strOf_size (l : List Int) : (strOf l).size = l.length := by
  unfold strOf
  show (List.map _ _).toArray.size = _
  simp
theorem cut_small : ∀ (n : Nat) (l : List Int), l.length ≤ n → (cutN n l).1.length ≤ l.length ∧ ∀ p ∈ (cutN n l).1, p.1.size ≤ l.length
  | 0, l, _ => ⟨Nat.zero_le _, fun p hp => by cases hp⟩
  | n + 1, [], _ => ⟨Nat.zero_le _, fun p hp => by cases hp⟩
  | n + 1, c :: r, h => by
    simp only [List.length_cons] at h ⊢
    unfold cutN
    cases decide (c = 32) with
    | true =>
      obtain ⟨h1, h2⟩ := cut_small n r (by omega)
      exact ⟨Nat.le_trans h1 (Nat.le_succ _), fun p hp => Nat.le_trans (h2 p hp) (Nat.le_succ _)⟩
    | false =>
      rw [cond_false]
      cases decide (c = 34) with
      | true =>
        rw [cond_true]
        cases hq : quoN r with
        | none => exact ⟨Nat.zero_le _, fun p hp => by cases hp⟩
        | some x =>
          have hl := quoN_len _ _ _ (Nat.le_refl _) hq
          simp only []
          cases badR x.2 with
          | true => exact ⟨Nat.zero_le _, fun p hp => by cases hp⟩
          | false =>
            obtain ⟨h1, h2⟩ := cut_small n x.2 (by omega)
            rw [cond_false]
            refine ⟨by simp only [List.length_cons]; omega, fun p hp => ?_⟩
            rw [List.mem_cons] at hp
            rcases hp with rfl | hp
            · rw [strOf_size]; omega
            · have := h2 p hp; omega
      | false =>
        rw [cond_false]
        have hl := dropW_len notB r
        have hl2 : (r.takeWhile notB).length ≤ r.length := by
          have := congrArg List.length (List.takeWhile_append_dropWhile (p := notB) (l := r))
          rw [List.length_append] at this; omega
        obtain ⟨h1, h2⟩ := cut_small n (r.dropWhile notB) (by omega)
        refine ⟨by simp only [List.length_cons]; omega, fun p hp => ?_⟩
        rw [List.mem_cons] at hp
        rcases hp with rfl | hp
        · rw [strOf_size, List.length_cons]; omega
        · have := h2 p hp; omega
theorem ok_small {s : ByteArray} (hs : s.size ≤ 1048576) : (okV (cutV (bytesL s))).1.length ≤ 1048576 ∧ smallP (okV (cutV (bytesL s))).1 = true := by
  have hl := bytesL_size s
  obtain ⟨h1, h2⟩ := cut_small _ (bytesL s) (Nat.le_refl _)
  unfold okV smallP
  cases (cutV (bytesL s)).2 with
  | false => exact ⟨Nat.zero_le _, rfl⟩
  | true =>
    refine ⟨Nat.le_trans h1 (by omega), ?_⟩
    rw [List.all_eq_true]
    intro p hp
    have := h2 p hp
    exact decide_eq_true (by omega)
theorem small_at {l : List Part} (h : smallP l = true) (i : Nat) : (l.getD i pD).1.size ≤ 1048576 := by
  by_cases hi : i < l.length
  · unfold smallP at h
    rw [List.all_eq_true] at h
    rw [getD_el hi]
    exact of_decide_eq_true (h _ (List.getElem_mem _))
  · rw [List.getD_eq_getElem?_getD, List.getElem?_eq_none (by omega)]
    exact Nat.zero_le _
theorem read_small {k : Int} {p : Part} {c : C5} (hp : p.1.size ≤ 1048576) (hc : c.2.2.2.2.size ≤ 1048576) : (readC k p c).2.2.2.2.2.size ≤ 1048576 := by
  unfold readC readV
  cases decide (k = 65) with
  | true => exact hc
  | false =>
    cases decide (k = 66) with
    | true => exact hc
    | false =>
      cases decide (k = 111) with
      | true => exact hc
      | false =>
        cases decide (k = 116) with
        | true => exact hp
        | false => exact hc
theorem reads_small {l : List Part} (h : smallP l = true) : ∀ (ks : List Int) (i : Nat) (c : C5), c.2.2.2.2.size ≤ 1048576 → (readsI ks l i c).2.2.2.2.2.size ≤ 1048576
  | [], i, c, hc => hc
  | k :: r, i, c, hc => by
    unfold readsI
    have h1 := read_small (k := k) (c := c) (small_at h i) hc
    cases (readC k (l.getD i pD) c).1 with
    | true => exact reads_small h r (i + 1) _ h1
    | false => exact h1
abbrev P6 := Int × Int × Int × Bool × ByteArray × Int
def errV (e : Int) : P6 := (0, 0, 0, false, ByteArray.empty, e)
def endV (y : Bool × C5) : P6 := bif y.1 && rightV y.2.1 y.2.2.1 y.2.2.2.1 y.2.2.2.2.1 y.2.2.2.2.2 then (y.2.1, y.2.2.1, y.2.2.2.1, y.2.2.2.2.1, y.2.2.2.2.2, 0) else errV 4
def opV (l : List Part) (op : Nat) : P6 := bif decide (l.length = 1 + (U.wordsL.getD op dW).2.1.size) then endV (readsI (bytesL (U.wordsL.getD op dW).2.1) l 1 ((op : Int), 0, 0, false, ByteArray.empty)) else errV 4
def parseL (y : List Part × Bool) : P6 :=
  bif !y.2 then errV 4 else match y.1 with
  | [] => errV 5
  | p :: r => bif p.2.1 then errV 5 else match findN (isW U.wordsL p.1) 22 0 with
    | none => errV 5
    | some op => opV (p :: r) op
def parseV (s : ByteArray) : P6 := parseL (okV (cutV (bytesL s)))
theorem findN_range {p : Nat → Bool} : ∀ {k i j : Nat}, findN p k i = some j → i ≤ j ∧ j < i + k
  | 0, i, j, h => by cases h
  | k + 1, i, j, h => by
    unfold findN at h
    cases hp : p i <;> rw [hp] at h
    · have := findN_range h; omega
    · cases h; omega
abbrev w27 : FSpec := s27 (fun x => decide (ByteArray.size x.1 ≤ 1048576)) fun x => parseV x.1
theorem wk27 : SpecOK Tryd.prog E0 27 w27 := by
  refine k27 (fun s H => ?_) (L := ls_ok (lcs := [lc Tryd.f27 0]) (rgs := []) (by kernel_rfl) (by kernel_rfl) L27 trivial)
  have H : s.size ≤ 1048576 := of_decide_eq_true H
  obtain ⟨h1, h2⟩ := ok_small H
  show _ = some (parseV s)
  unfold parseV parseL
  generalize hy : okV (cutV (bytesL s)) = y at h1 h2
  obtain ⟨l, b⟩ := y
  cases b with
  | false => simp only [d27, Tr.val, H, hy, decide_true, cond_true, Bool.not_false]; rfl
  | true =>
    simp only [Bool.not_true, cond_false]
    cases l with
    | nil => simp only [d27, Tr.val, H, hy, List.length_nil, decide_true, cond_true, cond_false, Bool.not_true]; rfl
    | cons p r =>
      have e0 : rget (Kd.pr Kd.str (Kd.pr Kd.bool Kd.un)) (p :: r) (0 : Int) = p := rfl
      have e0' : rget partk (p :: r) (0 : Int) = p := rfl
      have i0 : inB (0 : Int) (p :: r).length = true := by rw [inB_iff, List.length_cons]; omega
      have z0 : decide ((((p :: r).length : Nat) : Int) = 0) = false := decide_eq_false (by rw [List.length_cons]; omega)
      have c1 : decide ((22 : Nat) ≤ 1048576 ∧ 1 ≤ (p :: r).length) = true := decide_eq_true (by rw [List.length_cons]; omega)
      cases hq : p.2.1 with
      | true => simp only [d27, Tr.val, H, hy, e0, i0, z0, hq, decide_true, cond_true, cond_false, Bool.not_true]; rfl
      | false =>
        simp only [cond_false]
        cases hf : findN (isW U.wordsL p.1) 22 0 with
        | none => simp only [d27, Tr.val, H, hy, e0, e0', i0, z0, c1, hq, hf, optI', show ((-1 : Int) < 0) by decide, decide_true, cond_true, cond_false, Bool.not_true]; rfl
        | some op =>
          have hop := findN_range hf
          have hi : inB ((op : Nat) : Int) 22 = true := inB_nat (by omega)
          have hh : isHas (U.wordsL.getD op dW).2.1 = true := by
            have := isHas_ops ⟨op, by omega⟩
            rw [rgetW] at this
            exact this
          have hsz : (U.wordsL.getD op dW).2.1.size ≤ 2 := by
            unfold isHas at hh
            simp only [Bool.or_eq_true, decide_eq_true_eq] at hh
            rcases hh with e | e | e | e | e <;> rw [e] <;> decide
          have w : IntKind.wrap IntKind.i64 (1 + ((U.wordsL.getD op dW).2.1.size : Int)) = ((1 + (U.wordsL.getD op dW).2.1.size : Nat) : Int) := by rw [Go.Ev.w64 (by omega) (by omega)]; omega
          simp only []
          unfold opV
          by_cases hl : (p :: r).length = 1 + (U.wordsL.getD op dW).2.1.size
          · have hr := reads_small h2 (bytesL (U.wordsL.getD op dW).2.1) 1 ((op : Int), 0, 0, false, ByteArray.empty) (Nat.zero_le _)
            have c2 : decide (True ∧ (p :: r).length = 1 + (U.wordsL.getD op dW).2.1.size ∧ (p :: r).length ≤ 1048576) = true := decide_eq_true ⟨trivial, hl, h1⟩
            have c3 : decide ((((p :: r).length : Nat) : Int) = ((1 + (U.wordsL.getD op dW).2.1.size : Nat) : Int)) = true := decide_eq_true (by omega)
            unfold endV
            simp only [d27, Tr.val, H, hy, e0, e0', i0, z0, c1, c2, c3, hq, hf, optI', hi, hh, h2, w, rgetW, hr, decide_eq_true hl, show ¬ (((op : Nat) : Int) < 0) by omega, decide_true, decide_false, cond_true, cond_false, Bool.not_true, Bool.not_false, Bool.and_self]
            cases (readsI (bytesL (U.wordsL.getD op dW).2.1) (p :: r) 1 ((op : Int), 0, 0, false, ByteArray.empty)).1 with
            | false => rfl
            | true =>
              simp only [cond_true, Bool.true_and]
              cases rightV _ _ _ _ _ <;> rfl
          · have c3 : decide ((((p :: r).length : Nat) : Int) = ((1 + (U.wordsL.getD op dW).2.1.size : Nat) : Int)) = false := decide_eq_false (by omega)
            simp only [d27, Tr.val, H, hy, e0, e0', i0, z0, c1, c3, hq, hf, optI', hi, w, rgetW, decide_eq_false hl, show ¬ (((op : Nat) : Int) < 0) by omega, decide_true, decide_false, cond_true, cond_false, Bool.not_true, Bool.not_false]
            rfl
end Cm
end Go.Proofs.YtdlbnlbajnafdaaDoor
end
section
set_option linter.unusedVariables false
set_option linter.unusedSimpArgs false
set_option maxRecDepth 20000
set_option maxHeartbeats 4000000
open Go Go.Ev
namespace Go.Proofs.YtdlbnlbajnafdaaDoor
namespace Cm
theorem num_itoa : ∀ n : Fin 2001, numR (itoaB ((n.val : Int) - 1000)) false = (n.val : Int) - 1000 ∧ atoiV (itoaB ((n.val : Int) - 1000)) = ((n.val : Int) - 1000, true) := by decide +kernel
theorem num_near {n : Int} (h : near n = true) : numR (itoaB n) false = n ∧ atoiV (itoaB n) = (n, true) := by
  obtain ⟨h1, h2⟩ := near_iff.1 h
  have := num_itoa ⟨(n + 1000).toNat, by omega⟩
  rw [show (((n + 1000).toNat : Nat) : Int) - 1000 = n by omega] at this
  exact this
theorem dig1 : ∀ a : Fin 10, bytesL (itoaB (a.val : Int)) = [48 + (a.val : Int)] := by decide +kernel
theorem dig2 : ∀ a b : Fin 10, a.val ≠ 0 → bytesL (itoaB (10 * (a.val : Int) + (b.val : Int))) = [48 + (a.val : Int), 48 + (b.val : Int)] := by decide +kernel
theorem dig3 : ∀ a b c : Fin 10, a.val ≠ 0 → bytesL (itoaB (100 * (a.val : Int) + 10 * (b.val : Int) + (c.val : Int))) = [48 + (a.val : Int), 48 + (b.val : Int), 48 + (c.val : Int)] := by decide +kernel
theorem neg_itoa : ∀ n : Fin 1001, n.val ≠ 0 → bytesL (itoaB (0 - (n.val : Int))) = 45 :: bytesL (itoaB (n.val : Int)) := by decide +kernel
theorem digS_cons {c : Int} {r : List Int} {n : Int} (h : (digS (c :: r) n).1 = true) : 48 ≤ c ∧ c ≤ 57 ∧ digS (c :: r) n = digS r (10 * n + (c - 48)) := by
  have e : digS (c :: r) n = bif decide (c < 48) || decide (57 < c) then (false, n) else digS r (10 * n + (c - 48)) := rfl
  rw [e] at h ⊢
  by_cases c1 : c < 48
  · rw [decide_eq_true c1] at h; cases h
  · by_cases c2 : 57 < c
    · rw [decide_eq_true c2, Bool.or_true] at h; cases h
    · rw [decide_eq_false c1, decide_eq_false c2] at h ⊢
      exact ⟨by omega, by omega, rfl⟩
theorem fin_of {c : Int} (h1 : 48 ≤ c) (h2 : c ≤ 57) : ∃ a : Fin 10, c = 48 + (a.val : Int) := ⟨⟨(c - 48).toNat, by omega⟩, by show c = 48 + (((c - 48).toNat : Nat) : Int); omega⟩
theorem dig_txt {l : List Int} (h0 : l ≠ []) (h4 : l.length ≤ 4) (hz : ∀ c r, l = c :: r → r ≠ [] → c ≠ 48) (h1 : (digS l 0).1 = true) (h2 : (digS l 0).2 ≤ 1000) : bytesL (itoaB (digS l 0).2) = l := by
  match l, h0, h4 with
  | [a], _, _ =>
    obtain ⟨p, q, e⟩ := digS_cons h1
    obtain ⟨a', rfl⟩ := fin_of p q
    rw [e]
    show bytesL (itoaB (10 * 0 + (48 + (a'.val : Int) - 48))) = _
    rw [show 10 * 0 + (48 + (a'.val : Int) - 48) = (a'.val : Int) by omega, dig1]
  | [a, b], _, _ =>
    obtain ⟨p, q, e⟩ := digS_cons h1
    rw [e] at h1
    obtain ⟨p2, q2, e2⟩ := digS_cons h1
    have hz := hz a [b] rfl (by intro h; cases h)
    obtain ⟨a', rfl⟩ := fin_of p q
    obtain ⟨b', rfl⟩ := fin_of p2 q2
    rw [e, e2]
    show bytesL (itoaB (10 * (10 * 0 + (48 + (a'.val : Int) - 48)) + (48 + (b'.val : Int) - 48))) = _
    rw [show 10 * (10 * 0 + (48 + (a'.val : Int) - 48)) + (48 + (b'.val : Int) - 48) = 10 * (a'.val : Int) + (b'.val : Int) by omega, dig2 _ _ (by omega)]
  | [a, b, c], _, _ =>
    obtain ⟨p, q, e⟩ := digS_cons h1
    rw [e] at h1
    obtain ⟨p2, q2, e2⟩ := digS_cons h1
    rw [e2] at h1
    obtain ⟨p3, q3, e3⟩ := digS_cons h1
    have hz := hz a [b, c] rfl (by intro h; cases h)
    obtain ⟨a', rfl⟩ := fin_of p q
    obtain ⟨b', rfl⟩ := fin_of p2 q2
    obtain ⟨c', rfl⟩ := fin_of p3 q3
    rw [e, e2, e3]
    show bytesL (itoaB (10 * (10 * (10 * 0 + (48 + (a'.val : Int) - 48)) + (48 + (b'.val : Int) - 48)) + (48 + (c'.val : Int) - 48))) = _
    rw [show 10 * (10 * (10 * 0 + (48 + (a'.val : Int) - 48)) + (48 + (b'.val : Int) - 48)) + (48 + (c'.val : Int) - 48) = 100 * (a'.val : Int) + 10 * (b'.val : Int) + (c'.val : Int) by omega, dig3 _ _ _ (by omega)]
  | [a, b, c, d], _, _ =>
    obtain ⟨p, q, e⟩ := digS_cons h1
    rw [e] at h1
    obtain ⟨p2, q2, e2⟩ := digS_cons h1
    rw [e2] at h1
    obtain ⟨p3, q3, e3⟩ := digS_cons h1
    rw [e3] at h1
    obtain ⟨p4, q4, e4⟩ := digS_cons h1
    have hz := hz a [b, c, d] rfl (by intro h; cases h)
    rw [e, e2, e3, e4] at h2 ⊢
    have h2 : 10 * (10 * (10 * (10 * 0 + (a - 48)) + (b - 48)) + (c - 48)) + (d - 48) ≤ 1000 := h2
    have ea : a = 49 := by omega
    have eb : b = 48 := by omega
    have ec : c = 48 := by omega
    have ed : d = 48 := by omega
    subst ea; subst eb; subst ec; subst ed
    decide +kernel
theorem bytes_one (s : ByteArray) (h : 0 < s.size) : bytesL s = bt s 0 :: bytesL (s.extract 1 s.size) := by
  rw [bytes_drop]
  have hl := bytesL_size s
  have h2 := byte_at (s := s) (i := 0) (by omega)
  cases hb : bytesL s with
  | nil => rw [hb] at hl; simp at hl; omega
  | cons c r =>
    simp only [hb, List.getElem_cons_zero] at h2
    rw [h2]; rfl
theorem numT_txt {s : ByteArray} {less : Bool} (h : near (numT s less) = true) : s ≠ ⟨#[]⟩ ∧ (digS (bytesL s) 0).2 ≤ 1000 ∧ 0 ≤ (digS (bytesL s) 0).2 ∧ s = itoaB (digS (bytesL s) 0).2 ∧ numT s less = (if less then 0 - (digS (bytesL s) 0).2 else (digS (bytesL s) 0).2) ∧ (less = true → s ≠ ⟨#[48]⟩) := by
  have bad : near 5000 = false := by decide
  unfold numT at h ⊢
  have g := dig_ge (bytesL s) 0 (Int.le_refl 0)
  cases h1 : decide (s.size = 0) with
  | true => rw [h1, cond_true, bad] at h; cases h
  | false =>
    rw [h1, cond_false] at h
    cases h2 : decide (4 < s.size) with
    | true => rw [h2, cond_true, bad] at h; cases h
    | false =>
      rw [h2, cond_false] at h
      cases h3 : decide (1 < s.size) && decide (bt s 0 = 48) with
      | true => rw [h3, cond_true, bad] at h; cases h
      | false =>
        rw [h3, cond_false] at h
        cases h4 : less && decide (s = ⟨#[48]⟩) with
        | true => rw [h4, cond_true, bad] at h; cases h
        | false =>
          rw [h4, cond_false] at h
          cases h5 : (digS (bytesL s) 0).1 with
          | false => rw [h5] at h; rw [Bool.not_false, cond_true, bad] at h; cases h
          | true =>
            rw [h5] at h
            rw [Bool.not_true, cond_false] at h
            cases h6 : decide (1000 < (digS (bytesL s) 0).2) with
            | true => rw [h6, cond_true, bad] at h; cases h
            | false =>
              have z0 : s.size ≠ 0 := of_decide_eq_false h1
              have z1 : ¬ 4 < s.size := of_decide_eq_false h2
              have z2 : ¬ 1000 < (digS (bytesL s) 0).2 := of_decide_eq_false h6
              have hl := bytesL_size s
              have tx := dig_txt (l := bytesL s) (by intro e; rw [e] at hl; simp at hl; omega) (by omega) (fun c r e hr hc => by
                have hb := bytes_one s (by omega)
                rw [e] at hb
                injection hb with hb _
                have h6 : 1 < s.size := by
                  rw [← hl, e]
                  cases r with
                  | nil => exact absurd rfl hr
                  | cons _ _ => simp only [List.length_cons]; omega
                rw [decide_eq_true h6, ← hb, hc] at h3
                exact absurd h3 (by decide)) h5 (by omega)
              refine ⟨ba_ne z0, by omega, g, ?_, ?_, fun hl2 e => ?_⟩
              · have := congrArg strOf tx
                rw [U.strOf_bytes, U.strOf_bytes] at this
                exact this.symm
              · simp only [Bool.not_true, cond_false]
                cases less <;> rfl
              · rw [hl2, decide_eq_true e] at h4; cases h4
theorem numR_txt {s : ByteArray} (h : near (numR s false) = true) : s = itoaB (numR s false) := by
  unfold numR at h ⊢
  rw [cond_false] at h ⊢
  cases h1 : decide (0 < s.size) && decide (bt s 0 = 45) with
  | false =>
    rw [h1, cond_false] at h
    rw [cond_false]
    obtain ⟨_, _, _, e, f, _⟩ := numT_txt h
    rw [if_neg (by decide)] at f
    rw [f]; exact e
  | true =>
    rw [h1, cond_true] at h
    rw [cond_true]
    rw [Bool.and_eq_true, decide_eq_true_eq, decide_eq_true_eq] at h1
    obtain ⟨a, b, c, e, f, g⟩ := numT_txt h
    rw [if_pos rfl] at f
    rw [f]
    generalize hv : (digS (bytesL (s.extract 1 s.size)) 0).2 = v at *
    have vz : v ≠ 0 := fun hz => g rfl (by rw [e, hz]; decide +kernel)
    have ng := neg_itoa ⟨v.toNat, by omega⟩ (by show v.toNat ≠ 0; omega)
    rw [show (((⟨v.toNat, by omega⟩ : Fin 1001).val : Nat) : Int) = v by show ((v.toNat : Nat) : Int) = v; omega] at ng
    have hb := bytes_one s h1.1
    rw [h1.2, e, ← ng] at hb
    have := congrArg strOf hb
    rw [U.strOf_bytes, U.strOf_bytes] at this
    exact this
theorem num_same (s : ByteArray) (q : Bool) : near (numR s q) = ((numV s q).2 && near (numV s q).1) ∧ (near (numR s q) = true → (numV s q).1 = numR s q) := by
  cases q with
  | true =>
    have : numR s true = 5000 := rfl
    rw [this]
    have h : (numV s true).2 = false := by unfold numV; simp
    rw [h]
    exact ⟨rfl, fun h => absurd h (by decide)⟩
  | false =>
    by_cases h : near (numR s false) = true
    · have e := numR_txt h
      have n := (num_near h).2
      rw [← e] at n
      unfold numV
      rw [n, ← e, h]
      simp
    · rw [Bool.not_eq_true] at h
      refine ⟨?_, fun h2 => by rw [h] at h2; cases h2⟩
      rw [h]
      cases h2 : (numV s false).2 && near (numV s false).1 with
      | false => rfl
      | true =>
        rw [Bool.and_eq_true] at h2
        unfold numV at h2
        simp only [Bool.and_eq_true, Bool.not_false, Bool.true_and, decide_eq_true_eq] at h2
        have n := (num_near h2.2).1
        rw [h2.1.2] at n
        rw [n, h2.2] at h
        cases h
end Cm
end Go.Proofs.YtdlbnlbajnafdaaDoor
end
section
set_option linter.unusedVariables false
set_option linter.unusedSimpArgs false
set_option maxRecDepth 20000
set_option maxHeartbeats 4000000
open Go Go.Ev
namespace Go.Proofs.YtdlbnlbajnafdaaDoor
namespace Cm
abbrev G28 : List (Nat × FSpec) := [(71, w71), (72, w72), (73, w73), (74, w74), (34, w34)]
theorem AG28 : AllFn Tryd.prog E0 G28 := .cons wk71 (.cons wk72 (.cons wk73 (.cons wk74 (.cons wk34 .nil))))
def live28 (key : Nat) : Lv :=
  bif Nat.beq key 6 then { ls := [2, 3, 4, 5] } else bif Nat.beq key 1006 then { ls := [2, 3, 4] } else
  { ls := [] }
abbrev M28 (ls : Nat → VS → Option (Tr (Ex × VS))) : Env := (E0.withFns G28).loops live28 ls
@[reducible] def p28_0 : LP := { n := 129, sl := [.c (Leaf.ptr ( 0) ( 0)), .c (Leaf.ptr ( 1) ( 0)), .c (Leaf.ptr ( 2) ( 0)), .d (.int .i64)], bl := [(0, .box [.d (.int .i64), .d (.int .i64), .d (.int .i64), .d (Kd.bool), .d (Kd.str), .d (.int .i64)]), (1, .box [.d (Kd.sl (Kd.pr Kd.str (Kd.pr Kd.bool Kd.un))), .d (Kd.bool)]), (2, .box [.d (.int .i64), .d (.int .i64), .d (.int .i64), .d (Kd.bool), .d (Kd.str)])] }
def B28_0 (x3 : Int) (h0_0 : Int) (h0_1 : Int) (h0_2 : Int) (h0_3 : Bool) (h0_4 : ByteArray) (h0_5 : Int) (h1_0 : List (ByteArray × Bool × Unit)) (h1_1 : Bool) (h2_0 : Int) (h2_1 : Int) (h2_2 : Int) (h2_3 : Bool) (h2_4 : ByteArray) : Tr (p28_0.T ⊕ (Int × Int × Int × Bool × ByteArray × Int × List (ByteArray × Bool × Unit) × Bool × Int × Int × Int × Bool × ByteArray)) :=
 let v1 : Int := ((↑(List.length h1_0) : Int))
 let v2 : Bool := (inB (0 : Int) (List.length h1_0))
 let v3 : ByteArray := ((List.getD U.wordsL (Int.toNat x3) ({ data := #[] }, { data := #[] }, ())).fst)
 Tr.ite (decide (x3 < (22 : Int))) (Tr.ite (decide ((0 : Int) < v1)) (Tr.ite v2 (Tr.ite (!(rget (Kd.pr Kd.str (Kd.pr Kd.bool Kd.un)) h1_0 (0 : Int)).snd.fst) (Tr.ite v2 (Tr.ite (inB x3 (22 : Nat)) (Tr.ite (decide ((rget (Kd.pr Kd.str (Kd.pr Kd.bool Kd.un)) h1_0 (0 : Int)).fst = v3)) (Tr.ret (Sum.inl ((IntKind.wrap IntKind.i64 (x3 + (1 : Int)), ()), (h0_0, h0_1, h0_2, h0_3, h0_4, h0_5, ()), (h1_0, h1_1, ()), (x3, h2_1, h2_2, h2_3, h2_4, ()), ()))) (Tr.ret (Sum.inl ((IntKind.wrap IntKind.i64 (x3 + (1 : Int)), ()), (h0_0, h0_1, h0_2, h0_3, h0_4, h0_5, ()), (h1_0, h1_1, ()), (h2_0, h2_1, h2_2, h2_3, h2_4, ()), ())))) Tr.fail) Tr.fail) (Tr.ret (Sum.inl ((IntKind.wrap IntKind.i64 (x3 + (1 : Int)), ()), (h0_0, h0_1, h0_2, h0_3, h0_4, h0_5, ()), (h1_0, h1_1, ()), (h2_0, h2_1, h2_2, h2_3, h2_4, ()), ())))) Tr.fail) (Tr.ret (Sum.inl ((IntKind.wrap IntKind.i64 (x3 + (1 : Int)), ()), (h0_0, h0_1, h0_2, h0_3, h0_4, h0_5, ()), (h1_0, h1_1, ()), (h2_0, h2_1, h2_2, h2_3, h2_4, ()), ())))) (Tr.ret (Sum.inr (h0_0, h0_1, h0_2, h0_3, h0_4, h0_5, h1_0, h1_1, h2_0, h2_1, h2_2, h2_3, h2_4)))
def X28_0 (r : (Int × Int × Int × Bool × ByteArray × Int × List (ByteArray × Bool × Unit) × Bool × Int × Int × Int × Bool × ByteArray)) : Ex × VS := Prod.mk (Ex.exit ( 0)) { n := 129, v := [Slot.av (AV.one (Leaf.ptr ( 0) ( 0))), Slot.av (AV.one (Leaf.ptr ( 1) ( 0))), Slot.av (AV.one (Leaf.ptr ( 2) ( 0)))], h := [( 0, Blk.box [Leaf.dat (.int .i64) r.fst, Leaf.dat (.int .i64) r.snd.fst, Leaf.dat (.int .i64) r.snd.snd.fst, Leaf.dat Kd.bool r.snd.snd.snd.fst, Leaf.dat Kd.str r.snd.snd.snd.snd.fst, Leaf.dat (.int .i64) r.snd.snd.snd.snd.snd.fst]), ( 1, Blk.box [Leaf.dat (Kd.sl (Kd.pr Kd.str (Kd.pr Kd.bool Kd.un))) r.snd.snd.snd.snd.snd.snd.fst, Leaf.dat Kd.bool r.snd.snd.snd.snd.snd.snd.snd.fst]), ( 2, Blk.box [Leaf.dat (.int .i64) r.snd.snd.snd.snd.snd.snd.snd.snd.fst, Leaf.dat (.int .i64) r.snd.snd.snd.snd.snd.snd.snd.snd.snd.fst, Leaf.dat (.int .i64) r.snd.snd.snd.snd.snd.snd.snd.snd.snd.snd.fst, Leaf.dat Kd.bool r.snd.snd.snd.snd.snd.snd.snd.snd.snd.snd.snd.fst, Leaf.dat Kd.str r.snd.snd.snd.snd.snd.snd.snd.snd.snd.snd.snd.snd])] }
def b28_0 : p28_0.T → Tr (p28_0.T ⊕ (Int × Int × Int × Bool × ByteArray × Int × List (ByteArray × Bool × Unit) × Bool × Int × Int × Int × Bool × ByteArray)) := fun ⟨⟨x3, _⟩, ⟨⟨h0_0, ⟨h0_1, ⟨h0_2, ⟨h0_3, ⟨h0_4, ⟨h0_5, _⟩⟩⟩⟩⟩⟩, ⟨⟨h1_0, ⟨h1_1, _⟩⟩, ⟨⟨h2_0, ⟨h2_1, ⟨h2_2, ⟨h2_3, ⟨h2_4, _⟩⟩⟩⟩⟩, _⟩⟩⟩⟩ => B28_0 x3 h0_0 h0_1 h0_2 h0_3 h0_4 h0_5 h1_0 h1_1 h2_0 h2_1 h2_2 h2_3 h2_4
theorem h28_0 (ls : Nat → VS → Option (Tr (Ex × VS))) (x : p28_0.T) : (evC (evI 2) (lc Tryd.f28 0) (Env.lend (M28 ls) 0) (unV (live28 6) (p28_0.V x))).map (decL 0 (live28 6) (live28 1006)) = (b28_0 x).map (encR p28_0.V X28_0) := by
  obtain ⟨⟨x3, _⟩, ⟨⟨h0_0, ⟨h0_1, ⟨h0_2, ⟨h0_3, ⟨h0_4, ⟨h0_5, _⟩⟩⟩⟩⟩⟩, ⟨⟨h1_0, ⟨h1_1, _⟩⟩, ⟨⟨h2_0, ⟨h2_1, ⟨h2_2, ⟨h2_3, ⟨h2_4, _⟩⟩⟩⟩⟩, _⟩⟩⟩⟩ := x; kernel_rfl
theorem c28_0 (x : p28_0.T) : canV 0 (live28 6) (unV (live28 6) (p28_0.V x)) = p28_0.V x := by
  obtain ⟨⟨x3, _⟩, ⟨⟨h0_0, ⟨h0_1, ⟨h0_2, ⟨h0_3, ⟨h0_4, ⟨h0_5, _⟩⟩⟩⟩⟩⟩, ⟨⟨h1_0, ⟨h1_1, _⟩⟩, ⟨⟨h2_0, ⟨h2_1, ⟨h2_2, ⟨h2_3, ⟨h2_4, _⟩⟩⟩⟩⟩, _⟩⟩⟩⟩ := x; kernel_rfl
theorem l28_0 {T : p28_0.T → Tr (Int × Int × Int × Bool × ByteArray × Int × List (ByteArray × Bool × Unit) × Bool × Int × Int × Int × Bool × ByteArray)} {ls : Nat → VS → Option (Tr (Ex × VS))} (hls : ∀ x, (Env.lend (M28 ls) 0).ls 6 x = p28_0.ls (fun a => (T a).map X28_0) x) (hS : ∀ x r, (T x).val = some r → Rounds b28_0 x r) : LoopOK (evI 2) (Env.lend (M28 ls) 0) (lc Tryd.f28 0) :=
  loopA 6 (live28 6) (live28 1006) p28_0 b28_0 X28_0 T (by kernel_rfl) rfl rfl hls (h28_0 ls) c28_0 hS
def hitP (l : List Part) (i : Nat) : Bool := decide ((0 : Int) < ((l.length : Nat) : Int)) && (!(l.getD 0 pD).2.1 && decide ((l.getD 0 pD).1 = (U.wordsL.getD i dW).1))
def opF (l : List Part) (o : Int) : Int := (List.range' 1 21).foldl (fun s i => bif hitP l i then (i : Int) else s) o
def T28 (x : p28_0.T) : Tr (Int × Int × Int × Bool × ByteArray × Int × List (ByteArray × Bool × Unit) × Bool × Int × Int × Int × Bool × ByteArray) :=
  match x with
  | ⟨⟨i, _⟩, ⟨a0, a1, a2, a3, a4, a5, _⟩, ⟨l, y, _⟩, ⟨b0, b1, b2, b3, b4, _⟩, _⟩ => .ite (decide ((i : Int) = 1)) (.ret (a0, a1, a2, a3, a4, a5, l, y, opF l b0, b1, b2, b3, b4)) .fail
abbrev E28 : Env := M28 fun key x => bif Nat.beq key 6 then p28_0.ls (fun a => (T28 a).map X28_0) x else none
theorem L28 : LoopOK (evI 2) (E28.lend 0) (lc Tryd.f28 0) := by
  refine l28_0 (T := T28) (fun x => rfl) ?_
  rintro ⟨⟨i, z0⟩, ⟨a0, a1, a2, a3, a4, a5, z1⟩, ⟨l, y, z2⟩, ⟨b0, b1, b2, b3, b4, z3⟩, z4⟩ r h
  obtain ⟨g1, g2⟩ := pre_val h
  have e1 : (i : Int) = 1 := of_decide_eq_true g1
  subst e1
  cases g2
  refine Rounds.uptoA (B := b28_0) (N := 22) (fun i s => ((((i : Nat) : Int), ()), (a0, a1, a2, a3, a4, a5, ()), (l, y, ()), (s, b1, b2, b3, b4, ()), ())) (fun i s => bif hitP l i then (i : Int) else s) (fun s => (a0, a1, a2, a3, a4, a5, l, y, s, b1, b2, b3, b4)) (fun i _ => True) (fun i s hi _ => ⟨?_, trivial⟩) (fun s _ => rfl) 21 1 b0 rfl trivial
  have e0 : rget (Kd.pr Kd.str (Kd.pr Kd.bool Kd.un)) l (0 : Int) = l.getD 0 pD := rgetP l 0
  have eW : (List.getD U.wordsL (Int.toNat ((i : Nat) : Int)) ((⟨#[]⟩ : ByteArray), (⟨#[]⟩ : ByteArray), ())).1 = (U.wordsL.getD i dW).1 := rfl
  unfold hitP
  by_cases hl : 0 < l.length
  · simp only [b28_0, B28_0, Tr.val, e0, eW, show ((i : Nat) : Int) < 22 by omega, inB_nat hi, show inB (0 : Int) l.length = true from inB_nat hl, show (0 : Int) < ((l.length : Nat) : Int) by omega, decide_true, cond_true, Bool.true_and, wrap64_nat (show i ≤ 1048576 by omega)]
    cases (l.getD 0 pD).2.1 with
    | true => rfl
    | false =>
      cases decide ((l.getD 0 pD).1 = (U.wordsL.getD i dW).1) <;> rfl
  · simp only [b28_0, B28_0, Tr.val, show ((i : Nat) : Int) < 22 by omega, show ¬ (0 : Int) < ((l.length : Nat) : Int) by omega, decide_true, decide_false, cond_true, cond_false, Bool.false_and, wrap64_nat (show i ≤ 1048576 by omega)]
def d28 (xa : ByteArray) : Tr (Int × Int × Int × Bool × ByteArray × Int) :=
 let v1 : List Part := ((okV (cutV (bytesL xa))).fst)
 let v2 : Int := (opF v1 (0 : Int))
 let v3 : Int := ((↑(List.length v1) : Int))
 let v4 : Bool := (inB (1 : Int) (List.length v1))
 let v5 : Bool := (inB (2 : Int) (List.length v1))
 let v6 : Int := (List.getD hasL (Int.toNat v2) (0 : Int))
 let v7 : Bool := (!(rget (Kd.pr Kd.str (Kd.pr Kd.bool Kd.un)) v1 (1 : Int)).snd.fst)
 let v8 : Int := (numR (rget (Kd.pr Kd.str (Kd.pr Kd.bool Kd.un)) v1 (1 : Int)).fst (rget (Kd.pr Kd.str (Kd.pr Kd.bool Kd.un)) v1 (1 : Int)).snd.fst)
 let v9 : Int := (numR (rget (Kd.pr Kd.str (Kd.pr Kd.bool Kd.un)) v1 (2 : Int)).fst (rget (Kd.pr Kd.str (Kd.pr Kd.bool Kd.un)) v1 (2 : Int)).snd.fst)
 let v10 : Bool := (decide (v6 = (4 : Int)))
 let v11 : Bool := (decide (v6 = (2 : Int)))
 let v12 : Bool := (decide (v6 = (3 : Int)))
 let v13 : Bool := (decide (ByteArray.size (rget (Kd.pr Kd.str (Kd.pr Kd.bool Kd.un)) v1 (1 : Int)).fst ≤ (1048576 : Nat)))
 let v14 : Bool := (decide ((rget (Kd.pr Kd.str (Kd.pr Kd.bool Kd.un)) v1 (1 : Int)).fst = { data := #[OfNat.ofNat (111 : Nat), OfNat.ofNat (110 : Nat)] }))
 let v15 : Bool := (!v14)
 let v16 : Bool := (!decide ((rget (Kd.pr Kd.str (Kd.pr Kd.bool Kd.un)) v1 (1 : Int)).fst = { data := #[OfNat.ofNat (111 : Nat), OfNat.ofNat (102 : Nat), OfNat.ofNat (102 : Nat)] }))
 Tr.ite (decide (ByteArray.size xa ≤ (1048576 : Nat))) (Tr.ite (!(okV (cutV (bytesL xa))).snd) (Tr.ret ((0 : Int), (0 : Int), (0 : Int), false, ByteArray.empty, (4 : Int))) (Tr.ite true (Tr.ite (decide (v2 = (0 : Int))) (Tr.ret ((0 : Int), (0 : Int), (0 : Int), false, ByteArray.empty, (5 : Int))) (Tr.ite (inB v2 (22 : Nat)) (Tr.ite (inB v6 (5 : Nat)) (Tr.ite (!decide (v3 = List.getD [(1 : Int), (2 : Int), (3 : Int), (2 : Int), (2 : Int)] (Int.toNat v6) (0 : Int))) (Tr.ret ((0 : Int), (0 : Int), (0 : Int), false, ByteArray.empty, (4 : Int))) (Tr.ite (decide (v6 = (1 : Int))) (Tr.ite v4 (Tr.ite v11 (Tr.ite v5 (Tr.ite v12 (Tr.ite v4 (Tr.ite v4 (Tr.ite (rget (Kd.pr Kd.str (Kd.pr Kd.bool Kd.un)) v1 (1 : Int)).snd.fst (Tr.ite v10 (Tr.ite v4 (Tr.ite v4 (Tr.ite v7 (Tr.ret ((0 : Int), (0 : Int), (0 : Int), false, ByteArray.empty, (4 : Int))) (Tr.ite v13 (Tr.ite (!rightV v2 v8 v9 v14 (rget (Kd.pr Kd.str (Kd.pr Kd.bool Kd.un)) v1 (1 : Int)).fst) (Tr.ret ((0 : Int), (0 : Int), (0 : Int), false, ByteArray.empty, (4 : Int))) (Tr.ret (v2, v8, v9, v14, (rget (Kd.pr Kd.str (Kd.pr Kd.bool Kd.un)) v1 (1 : Int)).fst, (0 : Int)))) Tr.fail)) Tr.fail) Tr.fail) (Tr.ret ((0 : Int), (0 : Int), (0 : Int), false, ByteArray.empty, (4 : Int)))) (Tr.ite v15 (Tr.ite v4 (Tr.ite v10 (Tr.ite v4 (Tr.ite v4 (Tr.ite v7 (Tr.ret ((0 : Int), (0 : Int), (0 : Int), false, ByteArray.empty, (4 : Int))) (Tr.ite v13 (Tr.ite (!rightV v2 v8 v9 v14 (rget (Kd.pr Kd.str (Kd.pr Kd.bool Kd.un)) v1 (1 : Int)).fst) (Tr.ret ((0 : Int), (0 : Int), (0 : Int), false, ByteArray.empty, (4 : Int))) (Tr.ret (v2, v8, v9, v14, (rget (Kd.pr Kd.str (Kd.pr Kd.bool Kd.un)) v1 (1 : Int)).fst, (0 : Int)))) Tr.fail)) Tr.fail) Tr.fail) (Tr.ite v16 (Tr.ret ((0 : Int), (0 : Int), (0 : Int), false, ByteArray.empty, (4 : Int))) (Tr.ite true (Tr.ite (!rightV v2 v8 v9 v14 ByteArray.empty) (Tr.ret ((0 : Int), (0 : Int), (0 : Int), false, ByteArray.empty, (4 : Int))) (Tr.ret (v2, v8, v9, v14, ByteArray.empty, (0 : Int)))) Tr.fail))) Tr.fail) (Tr.ite v10 (Tr.ite v4 (Tr.ite v4 (Tr.ite v7 (Tr.ret ((0 : Int), (0 : Int), (0 : Int), false, ByteArray.empty, (4 : Int))) (Tr.ite v13 (Tr.ite (!rightV v2 v8 v9 v14 (rget (Kd.pr Kd.str (Kd.pr Kd.bool Kd.un)) v1 (1 : Int)).fst) (Tr.ret ((0 : Int), (0 : Int), (0 : Int), false, ByteArray.empty, (4 : Int))) (Tr.ret (v2, v8, v9, v14, (rget (Kd.pr Kd.str (Kd.pr Kd.bool Kd.un)) v1 (1 : Int)).fst, (0 : Int)))) Tr.fail)) Tr.fail) Tr.fail) (Tr.ite true (Tr.ite (!rightV v2 v8 v9 v14 ByteArray.empty) (Tr.ret ((0 : Int), (0 : Int), (0 : Int), false, ByteArray.empty, (4 : Int))) (Tr.ret (v2, v8, v9, v14, ByteArray.empty, (0 : Int)))) Tr.fail)))) Tr.fail) Tr.fail) (Tr.ite v10 (Tr.ite v4 (Tr.ite v4 (Tr.ite v7 (Tr.ret ((0 : Int), (0 : Int), (0 : Int), false, ByteArray.empty, (4 : Int))) (Tr.ite v13 (Tr.ite (!rightV v2 v8 v9 false (rget (Kd.pr Kd.str (Kd.pr Kd.bool Kd.un)) v1 (1 : Int)).fst) (Tr.ret ((0 : Int), (0 : Int), (0 : Int), false, ByteArray.empty, (4 : Int))) (Tr.ret (v2, v8, v9, false, (rget (Kd.pr Kd.str (Kd.pr Kd.bool Kd.un)) v1 (1 : Int)).fst, (0 : Int)))) Tr.fail)) Tr.fail) Tr.fail) (Tr.ite true (Tr.ite (!rightV v2 v8 v9 false ByteArray.empty) (Tr.ret ((0 : Int), (0 : Int), (0 : Int), false, ByteArray.empty, (4 : Int))) (Tr.ret (v2, v8, v9, false, ByteArray.empty, (0 : Int)))) Tr.fail))) Tr.fail) (Tr.ite v12 (Tr.ite v4 (Tr.ite v4 (Tr.ite (rget (Kd.pr Kd.str (Kd.pr Kd.bool Kd.un)) v1 (1 : Int)).snd.fst (Tr.ite v10 (Tr.ite v4 (Tr.ite v4 (Tr.ite v7 (Tr.ret ((0 : Int), (0 : Int), (0 : Int), false, ByteArray.empty, (4 : Int))) (Tr.ite v13 (Tr.ite (!rightV v2 v8 (0 : Int) v14 (rget (Kd.pr Kd.str (Kd.pr Kd.bool Kd.un)) v1 (1 : Int)).fst) (Tr.ret ((0 : Int), (0 : Int), (0 : Int), false, ByteArray.empty, (4 : Int))) (Tr.ret (v2, v8, (0 : Int), v14, (rget (Kd.pr Kd.str (Kd.pr Kd.bool Kd.un)) v1 (1 : Int)).fst, (0 : Int)))) Tr.fail)) Tr.fail) Tr.fail) (Tr.ret ((0 : Int), (0 : Int), (0 : Int), false, ByteArray.empty, (4 : Int)))) (Tr.ite v15 (Tr.ite v4 (Tr.ite v10 (Tr.ite v4 (Tr.ite v4 (Tr.ite v7 (Tr.ret ((0 : Int), (0 : Int), (0 : Int), false, ByteArray.empty, (4 : Int))) (Tr.ite v13 (Tr.ite (!rightV v2 v8 (0 : Int) v14 (rget (Kd.pr Kd.str (Kd.pr Kd.bool Kd.un)) v1 (1 : Int)).fst) (Tr.ret ((0 : Int), (0 : Int), (0 : Int), false, ByteArray.empty, (4 : Int))) (Tr.ret (v2, v8, (0 : Int), v14, (rget (Kd.pr Kd.str (Kd.pr Kd.bool Kd.un)) v1 (1 : Int)).fst, (0 : Int)))) Tr.fail)) Tr.fail) Tr.fail) (Tr.ite v16 (Tr.ret ((0 : Int), (0 : Int), (0 : Int), false, ByteArray.empty, (4 : Int))) (Tr.ite true (Tr.ite (!rightV v2 v8 (0 : Int) v14 ByteArray.empty) (Tr.ret ((0 : Int), (0 : Int), (0 : Int), false, ByteArray.empty, (4 : Int))) (Tr.ret (v2, v8, (0 : Int), v14, ByteArray.empty, (0 : Int)))) Tr.fail))) Tr.fail) (Tr.ite v10 (Tr.ite v4 (Tr.ite v4 (Tr.ite v7 (Tr.ret ((0 : Int), (0 : Int), (0 : Int), false, ByteArray.empty, (4 : Int))) (Tr.ite v13 (Tr.ite (!rightV v2 v8 (0 : Int) v14 (rget (Kd.pr Kd.str (Kd.pr Kd.bool Kd.un)) v1 (1 : Int)).fst) (Tr.ret ((0 : Int), (0 : Int), (0 : Int), false, ByteArray.empty, (4 : Int))) (Tr.ret (v2, v8, (0 : Int), v14, (rget (Kd.pr Kd.str (Kd.pr Kd.bool Kd.un)) v1 (1 : Int)).fst, (0 : Int)))) Tr.fail)) Tr.fail) Tr.fail) (Tr.ite true (Tr.ite (!rightV v2 v8 (0 : Int) v14 ByteArray.empty) (Tr.ret ((0 : Int), (0 : Int), (0 : Int), false, ByteArray.empty, (4 : Int))) (Tr.ret (v2, v8, (0 : Int), v14, ByteArray.empty, (0 : Int)))) Tr.fail)))) Tr.fail) Tr.fail) (Tr.ite v10 (Tr.ite v4 (Tr.ite v4 (Tr.ite v7 (Tr.ret ((0 : Int), (0 : Int), (0 : Int), false, ByteArray.empty, (4 : Int))) (Tr.ite v13 (Tr.ite (!rightV v2 v8 (0 : Int) false (rget (Kd.pr Kd.str (Kd.pr Kd.bool Kd.un)) v1 (1 : Int)).fst) (Tr.ret ((0 : Int), (0 : Int), (0 : Int), false, ByteArray.empty, (4 : Int))) (Tr.ret (v2, v8, (0 : Int), false, (rget (Kd.pr Kd.str (Kd.pr Kd.bool Kd.un)) v1 (1 : Int)).fst, (0 : Int)))) Tr.fail)) Tr.fail) Tr.fail) (Tr.ite true (Tr.ite (!rightV v2 v8 (0 : Int) false ByteArray.empty) (Tr.ret ((0 : Int), (0 : Int), (0 : Int), false, ByteArray.empty, (4 : Int))) (Tr.ret (v2, v8, (0 : Int), false, ByteArray.empty, (0 : Int)))) Tr.fail)))) Tr.fail) (Tr.ite v11 (Tr.ite v4 (Tr.ite v11 (Tr.ite v5 (Tr.ite v12 (Tr.ite v4 (Tr.ite v4 (Tr.ite (rget (Kd.pr Kd.str (Kd.pr Kd.bool Kd.un)) v1 (1 : Int)).snd.fst (Tr.ite v10 (Tr.ite v4 (Tr.ite v4 (Tr.ite v7 (Tr.ret ((0 : Int), (0 : Int), (0 : Int), false, ByteArray.empty, (4 : Int))) (Tr.ite v13 (Tr.ite (!rightV v2 v8 v9 v14 (rget (Kd.pr Kd.str (Kd.pr Kd.bool Kd.un)) v1 (1 : Int)).fst) (Tr.ret ((0 : Int), (0 : Int), (0 : Int), false, ByteArray.empty, (4 : Int))) (Tr.ret (v2, v8, v9, v14, (rget (Kd.pr Kd.str (Kd.pr Kd.bool Kd.un)) v1 (1 : Int)).fst, (0 : Int)))) Tr.fail)) Tr.fail) Tr.fail) (Tr.ret ((0 : Int), (0 : Int), (0 : Int), false, ByteArray.empty, (4 : Int)))) (Tr.ite v15 (Tr.ite v4 (Tr.ite v10 (Tr.ite v4 (Tr.ite v4 (Tr.ite v7 (Tr.ret ((0 : Int), (0 : Int), (0 : Int), false, ByteArray.empty, (4 : Int))) (Tr.ite v13 (Tr.ite (!rightV v2 v8 v9 v14 (rget (Kd.pr Kd.str (Kd.pr Kd.bool Kd.un)) v1 (1 : Int)).fst) (Tr.ret ((0 : Int), (0 : Int), (0 : Int), false, ByteArray.empty, (4 : Int))) (Tr.ret (v2, v8, v9, v14, (rget (Kd.pr Kd.str (Kd.pr Kd.bool Kd.un)) v1 (1 : Int)).fst, (0 : Int)))) Tr.fail)) Tr.fail) Tr.fail) (Tr.ite v16 (Tr.ret ((0 : Int), (0 : Int), (0 : Int), false, ByteArray.empty, (4 : Int))) (Tr.ite true (Tr.ite (!rightV v2 v8 v9 v14 ByteArray.empty) (Tr.ret ((0 : Int), (0 : Int), (0 : Int), false, ByteArray.empty, (4 : Int))) (Tr.ret (v2, v8, v9, v14, ByteArray.empty, (0 : Int)))) Tr.fail))) Tr.fail) (Tr.ite v10 (Tr.ite v4 (Tr.ite v4 (Tr.ite v7 (Tr.ret ((0 : Int), (0 : Int), (0 : Int), false, ByteArray.empty, (4 : Int))) (Tr.ite v13 (Tr.ite (!rightV v2 v8 v9 v14 (rget (Kd.pr Kd.str (Kd.pr Kd.bool Kd.un)) v1 (1 : Int)).fst) (Tr.ret ((0 : Int), (0 : Int), (0 : Int), false, ByteArray.empty, (4 : Int))) (Tr.ret (v2, v8, v9, v14, (rget (Kd.pr Kd.str (Kd.pr Kd.bool Kd.un)) v1 (1 : Int)).fst, (0 : Int)))) Tr.fail)) Tr.fail) Tr.fail) (Tr.ite true (Tr.ite (!rightV v2 v8 v9 v14 ByteArray.empty) (Tr.ret ((0 : Int), (0 : Int), (0 : Int), false, ByteArray.empty, (4 : Int))) (Tr.ret (v2, v8, v9, v14, ByteArray.empty, (0 : Int)))) Tr.fail)))) Tr.fail) Tr.fail) (Tr.ite v10 (Tr.ite v4 (Tr.ite v4 (Tr.ite v7 (Tr.ret ((0 : Int), (0 : Int), (0 : Int), false, ByteArray.empty, (4 : Int))) (Tr.ite v13 (Tr.ite (!rightV v2 v8 v9 false (rget (Kd.pr Kd.str (Kd.pr Kd.bool Kd.un)) v1 (1 : Int)).fst) (Tr.ret ((0 : Int), (0 : Int), (0 : Int), false, ByteArray.empty, (4 : Int))) (Tr.ret (v2, v8, v9, false, (rget (Kd.pr Kd.str (Kd.pr Kd.bool Kd.un)) v1 (1 : Int)).fst, (0 : Int)))) Tr.fail)) Tr.fail) Tr.fail) (Tr.ite true (Tr.ite (!rightV v2 v8 v9 false ByteArray.empty) (Tr.ret ((0 : Int), (0 : Int), (0 : Int), false, ByteArray.empty, (4 : Int))) (Tr.ret (v2, v8, v9, false, ByteArray.empty, (0 : Int)))) Tr.fail))) Tr.fail) (Tr.ite v12 (Tr.ite v4 (Tr.ite v4 (Tr.ite (rget (Kd.pr Kd.str (Kd.pr Kd.bool Kd.un)) v1 (1 : Int)).snd.fst (Tr.ite v10 (Tr.ite v4 (Tr.ite v4 (Tr.ite v7 (Tr.ret ((0 : Int), (0 : Int), (0 : Int), false, ByteArray.empty, (4 : Int))) (Tr.ite v13 (Tr.ite (!rightV v2 v8 (0 : Int) v14 (rget (Kd.pr Kd.str (Kd.pr Kd.bool Kd.un)) v1 (1 : Int)).fst) (Tr.ret ((0 : Int), (0 : Int), (0 : Int), false, ByteArray.empty, (4 : Int))) (Tr.ret (v2, v8, (0 : Int), v14, (rget (Kd.pr Kd.str (Kd.pr Kd.bool Kd.un)) v1 (1 : Int)).fst, (0 : Int)))) Tr.fail)) Tr.fail) Tr.fail) (Tr.ret ((0 : Int), (0 : Int), (0 : Int), false, ByteArray.empty, (4 : Int)))) (Tr.ite v15 (Tr.ite v4 (Tr.ite v10 (Tr.ite v4 (Tr.ite v4 (Tr.ite v7 (Tr.ret ((0 : Int), (0 : Int), (0 : Int), false, ByteArray.empty, (4 : Int))) (Tr.ite v13 (Tr.ite (!rightV v2 v8 (0 : Int) v14 (rget (Kd.pr Kd.str (Kd.pr Kd.bool Kd.un)) v1 (1 : Int)).fst) (Tr.ret ((0 : Int), (0 : Int), (0 : Int), false, ByteArray.empty, (4 : Int))) (Tr.ret (v2, v8, (0 : Int), v14, (rget (Kd.pr Kd.str (Kd.pr Kd.bool Kd.un)) v1 (1 : Int)).fst, (0 : Int)))) Tr.fail)) Tr.fail) Tr.fail) (Tr.ite v16 (Tr.ret ((0 : Int), (0 : Int), (0 : Int), false, ByteArray.empty, (4 : Int))) (Tr.ite true (Tr.ite (!rightV v2 v8 (0 : Int) v14 ByteArray.empty) (Tr.ret ((0 : Int), (0 : Int), (0 : Int), false, ByteArray.empty, (4 : Int))) (Tr.ret (v2, v8, (0 : Int), v14, ByteArray.empty, (0 : Int)))) Tr.fail))) Tr.fail) (Tr.ite v10 (Tr.ite v4 (Tr.ite v4 (Tr.ite v7 (Tr.ret ((0 : Int), (0 : Int), (0 : Int), false, ByteArray.empty, (4 : Int))) (Tr.ite v13 (Tr.ite (!rightV v2 v8 (0 : Int) v14 (rget (Kd.pr Kd.str (Kd.pr Kd.bool Kd.un)) v1 (1 : Int)).fst) (Tr.ret ((0 : Int), (0 : Int), (0 : Int), false, ByteArray.empty, (4 : Int))) (Tr.ret (v2, v8, (0 : Int), v14, (rget (Kd.pr Kd.str (Kd.pr Kd.bool Kd.un)) v1 (1 : Int)).fst, (0 : Int)))) Tr.fail)) Tr.fail) Tr.fail) (Tr.ite true (Tr.ite (!rightV v2 v8 (0 : Int) v14 ByteArray.empty) (Tr.ret ((0 : Int), (0 : Int), (0 : Int), false, ByteArray.empty, (4 : Int))) (Tr.ret (v2, v8, (0 : Int), v14, ByteArray.empty, (0 : Int)))) Tr.fail)))) Tr.fail) Tr.fail) (Tr.ite v10 (Tr.ite v4 (Tr.ite v4 (Tr.ite v7 (Tr.ret ((0 : Int), (0 : Int), (0 : Int), false, ByteArray.empty, (4 : Int))) (Tr.ite v13 (Tr.ite (!rightV v2 v8 (0 : Int) false (rget (Kd.pr Kd.str (Kd.pr Kd.bool Kd.un)) v1 (1 : Int)).fst) (Tr.ret ((0 : Int), (0 : Int), (0 : Int), false, ByteArray.empty, (4 : Int))) (Tr.ret (v2, v8, (0 : Int), false, (rget (Kd.pr Kd.str (Kd.pr Kd.bool Kd.un)) v1 (1 : Int)).fst, (0 : Int)))) Tr.fail)) Tr.fail) Tr.fail) (Tr.ite true (Tr.ite (!rightV v2 v8 (0 : Int) false ByteArray.empty) (Tr.ret ((0 : Int), (0 : Int), (0 : Int), false, ByteArray.empty, (4 : Int))) (Tr.ret (v2, v8, (0 : Int), false, ByteArray.empty, (0 : Int)))) Tr.fail)))) Tr.fail) (Tr.ite v11 (Tr.ite v5 (Tr.ite v12 (Tr.ite v4 (Tr.ite v4 (Tr.ite (rget (Kd.pr Kd.str (Kd.pr Kd.bool Kd.un)) v1 (1 : Int)).snd.fst (Tr.ite v10 (Tr.ite v4 (Tr.ite v4 (Tr.ite v7 (Tr.ret ((0 : Int), (0 : Int), (0 : Int), false, ByteArray.empty, (4 : Int))) (Tr.ite v13 (Tr.ite (!rightV v2 (0 : Int) v9 v14 (rget (Kd.pr Kd.str (Kd.pr Kd.bool Kd.un)) v1 (1 : Int)).fst) (Tr.ret ((0 : Int), (0 : Int), (0 : Int), false, ByteArray.empty, (4 : Int))) (Tr.ret (v2, (0 : Int), v9, v14, (rget (Kd.pr Kd.str (Kd.pr Kd.bool Kd.un)) v1 (1 : Int)).fst, (0 : Int)))) Tr.fail)) Tr.fail) Tr.fail) (Tr.ret ((0 : Int), (0 : Int), (0 : Int), false, ByteArray.empty, (4 : Int)))) (Tr.ite v15 (Tr.ite v4 (Tr.ite v10 (Tr.ite v4 (Tr.ite v4 (Tr.ite v7 (Tr.ret ((0 : Int), (0 : Int), (0 : Int), false, ByteArray.empty, (4 : Int))) (Tr.ite v13 (Tr.ite (!rightV v2 (0 : Int) v9 v14 (rget (Kd.pr Kd.str (Kd.pr Kd.bool Kd.un)) v1 (1 : Int)).fst) (Tr.ret ((0 : Int), (0 : Int), (0 : Int), false, ByteArray.empty, (4 : Int))) (Tr.ret (v2, (0 : Int), v9, v14, (rget (Kd.pr Kd.str (Kd.pr Kd.bool Kd.un)) v1 (1 : Int)).fst, (0 : Int)))) Tr.fail)) Tr.fail) Tr.fail) (Tr.ite v16 (Tr.ret ((0 : Int), (0 : Int), (0 : Int), false, ByteArray.empty, (4 : Int))) (Tr.ite true (Tr.ite (!rightV v2 (0 : Int) v9 v14 ByteArray.empty) (Tr.ret ((0 : Int), (0 : Int), (0 : Int), false, ByteArray.empty, (4 : Int))) (Tr.ret (v2, (0 : Int), v9, v14, ByteArray.empty, (0 : Int)))) Tr.fail))) Tr.fail) (Tr.ite v10 (Tr.ite v4 (Tr.ite v4 (Tr.ite v7 (Tr.ret ((0 : Int), (0 : Int), (0 : Int), false, ByteArray.empty, (4 : Int))) (Tr.ite v13 (Tr.ite (!rightV v2 (0 : Int) v9 v14 (rget (Kd.pr Kd.str (Kd.pr Kd.bool Kd.un)) v1 (1 : Int)).fst) (Tr.ret ((0 : Int), (0 : Int), (0 : Int), false, ByteArray.empty, (4 : Int))) (Tr.ret (v2, (0 : Int), v9, v14, (rget (Kd.pr Kd.str (Kd.pr Kd.bool Kd.un)) v1 (1 : Int)).fst, (0 : Int)))) Tr.fail)) Tr.fail) Tr.fail) (Tr.ite true (Tr.ite (!rightV v2 (0 : Int) v9 v14 ByteArray.empty) (Tr.ret ((0 : Int), (0 : Int), (0 : Int), false, ByteArray.empty, (4 : Int))) (Tr.ret (v2, (0 : Int), v9, v14, ByteArray.empty, (0 : Int)))) Tr.fail)))) Tr.fail) Tr.fail) (Tr.ite v10 (Tr.ite v4 (Tr.ite v4 (Tr.ite v7 (Tr.ret ((0 : Int), (0 : Int), (0 : Int), false, ByteArray.empty, (4 : Int))) (Tr.ite v13 (Tr.ite (!rightV v2 (0 : Int) v9 false (rget (Kd.pr Kd.str (Kd.pr Kd.bool Kd.un)) v1 (1 : Int)).fst) (Tr.ret ((0 : Int), (0 : Int), (0 : Int), false, ByteArray.empty, (4 : Int))) (Tr.ret (v2, (0 : Int), v9, false, (rget (Kd.pr Kd.str (Kd.pr Kd.bool Kd.un)) v1 (1 : Int)).fst, (0 : Int)))) Tr.fail)) Tr.fail) Tr.fail) (Tr.ite true (Tr.ite (!rightV v2 (0 : Int) v9 false ByteArray.empty) (Tr.ret ((0 : Int), (0 : Int), (0 : Int), false, ByteArray.empty, (4 : Int))) (Tr.ret (v2, (0 : Int), v9, false, ByteArray.empty, (0 : Int)))) Tr.fail))) Tr.fail) (Tr.ite v12 (Tr.ite v4 (Tr.ite v4 (Tr.ite (rget (Kd.pr Kd.str (Kd.pr Kd.bool Kd.un)) v1 (1 : Int)).snd.fst (Tr.ite v10 (Tr.ite v4 (Tr.ite v4 (Tr.ite v7 (Tr.ret ((0 : Int), (0 : Int), (0 : Int), false, ByteArray.empty, (4 : Int))) (Tr.ite v13 (Tr.ite (!rightV v2 (0 : Int) (0 : Int) v14 (rget (Kd.pr Kd.str (Kd.pr Kd.bool Kd.un)) v1 (1 : Int)).fst) (Tr.ret ((0 : Int), (0 : Int), (0 : Int), false, ByteArray.empty, (4 : Int))) (Tr.ret (v2, (0 : Int), (0 : Int), v14, (rget (Kd.pr Kd.str (Kd.pr Kd.bool Kd.un)) v1 (1 : Int)).fst, (0 : Int)))) Tr.fail)) Tr.fail) Tr.fail) (Tr.ret ((0 : Int), (0 : Int), (0 : Int), false, ByteArray.empty, (4 : Int)))) (Tr.ite v15 (Tr.ite v4 (Tr.ite v10 (Tr.ite v4 (Tr.ite v4 (Tr.ite v7 (Tr.ret ((0 : Int), (0 : Int), (0 : Int), false, ByteArray.empty, (4 : Int))) (Tr.ite v13 (Tr.ite (!rightV v2 (0 : Int) (0 : Int) v14 (rget (Kd.pr Kd.str (Kd.pr Kd.bool Kd.un)) v1 (1 : Int)).fst) (Tr.ret ((0 : Int), (0 : Int), (0 : Int), false, ByteArray.empty, (4 : Int))) (Tr.ret (v2, (0 : Int), (0 : Int), v14, (rget (Kd.pr Kd.str (Kd.pr Kd.bool Kd.un)) v1 (1 : Int)).fst, (0 : Int)))) Tr.fail)) Tr.fail) Tr.fail) (Tr.ite v16 (Tr.ret ((0 : Int), (0 : Int), (0 : Int), false, ByteArray.empty, (4 : Int))) (Tr.ite true (Tr.ite (!rightV v2 (0 : Int) (0 : Int) v14 ByteArray.empty) (Tr.ret ((0 : Int), (0 : Int), (0 : Int), false, ByteArray.empty, (4 : Int))) (Tr.ret (v2, (0 : Int), (0 : Int), v14, ByteArray.empty, (0 : Int)))) Tr.fail))) Tr.fail) (Tr.ite v10 (Tr.ite v4 (Tr.ite v4 (Tr.ite v7 (Tr.ret ((0 : Int), (0 : Int), (0 : Int), false, ByteArray.empty, (4 : Int))) (Tr.ite v13 (Tr.ite (!rightV v2 (0 : Int) (0 : Int) v14 (rget (Kd.pr Kd.str (Kd.pr Kd.bool Kd.un)) v1 (1 : Int)).fst) (Tr.ret ((0 : Int), (0 : Int), (0 : Int), false, ByteArray.empty, (4 : Int))) (Tr.ret (v2, (0 : Int), (0 : Int), v14, (rget (Kd.pr Kd.str (Kd.pr Kd.bool Kd.un)) v1 (1 : Int)).fst, (0 : Int)))) Tr.fail)) Tr.fail) Tr.fail) (Tr.ite true (Tr.ite (!rightV v2 (0 : Int) (0 : Int) v14 ByteArray.empty) (Tr.ret ((0 : Int), (0 : Int), (0 : Int), false, ByteArray.empty, (4 : Int))) (Tr.ret (v2, (0 : Int), (0 : Int), v14, ByteArray.empty, (0 : Int)))) Tr.fail)))) Tr.fail) Tr.fail) (Tr.ite v10 (Tr.ite v4 (Tr.ite v4 (Tr.ite v7 (Tr.ret ((0 : Int), (0 : Int), (0 : Int), false, ByteArray.empty, (4 : Int))) (Tr.ite v13 (Tr.ite (!rightV v2 (0 : Int) (0 : Int) false (rget (Kd.pr Kd.str (Kd.pr Kd.bool Kd.un)) v1 (1 : Int)).fst) (Tr.ret ((0 : Int), (0 : Int), (0 : Int), false, ByteArray.empty, (4 : Int))) (Tr.ret (v2, (0 : Int), (0 : Int), false, (rget (Kd.pr Kd.str (Kd.pr Kd.bool Kd.un)) v1 (1 : Int)).fst, (0 : Int)))) Tr.fail)) Tr.fail) Tr.fail) (Tr.ite true (Tr.ite (!rightV v2 (0 : Int) (0 : Int) false ByteArray.empty) (Tr.ret ((0 : Int), (0 : Int), (0 : Int), false, ByteArray.empty, (4 : Int))) (Tr.ret (v2, (0 : Int), (0 : Int), false, ByteArray.empty, (0 : Int)))) Tr.fail))))))) Tr.fail) Tr.fail)) Tr.fail)) Tr.fail
def e28 (r : Int × Int × Int × Bool × ByteArray × Int) : FRes := { rs := Slot.av (AV.agg [Leaf.dat (.int .i64) r.fst, Leaf.dat (.int .i64) r.snd.fst, Leaf.dat (.int .i64) r.snd.snd.fst, Leaf.dat Kd.bool r.snd.snd.snd.fst, Leaf.dat Kd.str r.snd.snd.snd.snd.fst, Leaf.dat (.int .i64) r.snd.snd.snd.snd.snd]), upd := [], new := [] }
@[reducible] def a28 : List AK := [AK.d Kd.str]
@[reducible] def b28 : List BK := []
theorem t28 (xa : ByteArray) : evFn (E28) Tryd.f28 [PM.data (Kd.pr cmdk (Kd.pr (.int .i64) Kd.un))] (akAV a28 (xa, ())) (bkBs b28 ()) = (d28 xa).map e28 := by kernel_rfl
def s28 (C : akT a28 → Bool) (G : akT a28 → Int × Int × Int × Bool × ByteArray × Int) : FSpec := aspec a28 b28 e28 (fun x _ => C x) (fun x _ => G x)
theorem k28 {C : akT a28 → Bool} {G : akT a28 → Int × Int × Int × Bool × ByteArray × Int} (hd : ∀ (xa : ByteArray), C (xa, ()) = true → (d28 xa).val = some (G (xa, ()))) (IO : ItOK Tryd.prog (E28) := by exact itOK_none rfl) (L : ∀ c, Tryd.f28.body = some c → LsOK (evI 2) ((E28).lend 0) c := by exact fun c _ => LsOK_none rfl c) : SpecOK Tryd.prog E0 28 (s28 C G) :=
  aspec_ok (ak := a28) (bl := b28) (e := e28) (c := fun x _ => C x) (g := fun x _ => G x) (E0 := E0) (E := E28) tab AG28 rfl rfl hm Tryd.func28 (by kernel_rfl) [PM.data (Kd.pr cmdk (Kd.pr (.int .i64) Kd.un))] (fun X Y H => by obtain ⟨xa, _⟩ := X; exact val_of (t28 xa) (hd xa H)) IO L
theorem foldl_none {σ : Type} (f : σ → Nat → σ) : ∀ (l : List Nat) (s : σ), (∀ i ∈ l, f s i = s) → l.foldl f s = s
  | [], s, _ => rfl
  | i :: l, s, h => by rw [List.foldl_cons, h i (List.mem_cons_self ..)]; exact foldl_none f l s fun j hj => h j (List.mem_cons_of_mem _ hj)
theorem opF_none {l : List Part} (h : ∀ i, 1 ≤ i → i < 22 → hitP l i = false) : opF l 0 = 0 := by
  unfold opF
  refine foldl_none _ _ _ fun i hi => ?_
  rw [List.mem_range'_1] at hi
  simp only [h i hi.1 (by omega), cond_false]
def opW (s : ByteArray) : Int := (List.range' 1 21).foldl (fun st i => bif decide (s = (U.wordsL.getD i dW).1) then (i : Int) else st) 0
theorem opW_words : ∀ n : Fin 22, n.val ≠ 0 → opW (wordOf (n.val : Int)) = (n.val : Int) ∧ findN (isW U.wordsL (wordOf (n.val : Int))) 22 0 = some n.val := by decide +kernel
theorem findN_none {p : Nat → Bool} : ∀ (k i : Nat), (∀ j, i ≤ j → j < i + k → p j = false) → findN p k i = none
  | 0, i, _ => rfl
  | k + 1, i, h => by
    unfold findN
    rw [h i (Nat.le_refl _) (by omega)]
    exact findN_none k (i + 1) fun j h1 h2 => h j (by omega) (by omega)
theorem findN_true {p : Nat → Bool} : ∀ {k i j : Nat}, findN p k i = some j → p j = true
  | 0, i, j, h => by cases h
  | k + 1, i, j, h => by
    unfold findN at h
    cases hp : p i <;> rw [hp] at h
    · exact findN_true h
    · cases h; exact hp
theorem opF_find (p : Part) (r : List Part) (hq : p.2.1 = false) : opF (p :: r) 0 = (match findN (isW U.wordsL p.1) 22 0 with | none => 0 | some op => ((op : Nat) : Int)) := by
  have hh : ∀ i, hitP (p :: r) i = decide (p.1 = (U.wordsL.getD i dW).1) := fun i => by
    unfold hitP
    rw [show ((p :: r).getD 0 pD) = p from rfl, hq, decide_eq_true (show (0 : Int) < (((p :: r).length : Nat) : Int) by rw [List.length_cons]; omega)]
    rfl
  have e : opF (p :: r) 0 = opW p.1 := by
    unfold opF opW
    congr 1
    funext s i
    rw [hh i]
  by_cases hw : ∃ n : Fin 22, n.val ≠ 0 ∧ wordOf (n.val : Int) = p.1
  · obtain ⟨n, h0, h1⟩ := hw
    have := opW_words n h0
    rw [h1] at this
    rw [e, this.1, this.2]
  · have no : ∀ i, 1 ≤ i → i < 22 → (U.wordsL.getD i dW).1 ≠ p.1 := fun i h1 h2 he => hw ⟨⟨i, h2⟩, by show i ≠ 0; omega, he⟩
    rw [opF_none fun i h1 h2 => by rw [hh i]; exact decide_eq_false fun he => no i h1 h2 he.symm]
    rw [findN_none 22 0 fun j _ h2 => ?_]
    unfold isW
    by_cases hj : j = 0
    · subst hj
      rw [show (U.wordsL.getD 0 dW).1 = ⟨#[]⟩ from rfl]
      rw [decide_eq_true rfl, Bool.not_true, Bool.and_false]
    · rw [decide_eq_false (no j (by omega) (by omega)), Bool.false_and]
theorem near_right {op a b : Int} {on : Bool} {t : ByteArray} (h : rightV op a b on t = true) : near a = true ∧ near b = true := ⟨(right_iff h).2.2.1, (right_iff h).2.2.2.1⟩
theorem read1 (k : Int) (l : List Part) (c c' : C5) (b : Bool) (h : readC k (l.getD 1 pD) c = (b, c')) : readsI [k] l 1 c = (b, c') := by
  show (bif (readC k (l.getD 1 pD) c).1 then (true, (readC k (l.getD 1 pD) c).2) else (false, (readC k (l.getD 1 pD) c).2)) = _
  rw [h]
  cases b <;> rfl
theorem read2 (k k' : Int) (l : List Part) (c c' c'' : C5) (b b' : Bool) (h : readC k (l.getD 1 pD) c = (b, c')) (h' : readC k' (l.getD 2 pD) c' = (b', c'')) : readsI [k, k'] l 1 c = bif b then (b', c'') else (false, c') := by
  show (bif (readC k (l.getD 1 pD) c).1 then (bif (readC k' (l.getD 2 pD) (readC k (l.getD 1 pD) c).2).1 then (true, (readC k' (l.getD 2 pD) (readC k (l.getD 1 pD) c).2).2) else (false, (readC k' (l.getD 2 pD) (readC k (l.getD 1 pD) c).2).2)) else (false, (readC k (l.getD 1 pD) c).2)) = _
  rw [h, h']
  cases b <;> cases b' <;> rfl
theorem right_a {op a b : Int} {on : Bool} {t : ByteArray} (h : near a = false) : rightV op a b on t = false := by
  cases hr : rightV op a b on t with
  | false => rfl
  | true => rw [(near_right hr).1] at h; cases h
theorem right_b {op a b : Int} {on : Bool} {t : ByteArray} (h : near b = false) : rightV op a b on t = false := by
  cases hr : rightV op a b on t with
  | false => rfl
  | true => rw [(near_right hr).2] at h; cases h
theorem fin_a (op b : Int) (on : Bool) (t s : ByteArray) (q : Bool) : (bif !rightV op (numR s q) b on t then some ((0 : Int), (0 : Int), (0 : Int), false, ByteArray.empty, (4 : Int)) else some (op, numR s q, b, on, t, (0 : Int))) =
    some (bif (numV s q).2 && rightV op (numV s q).1 b on t then (op, (numV s q).1, b, on, t, (0 : Int)) else errV 4) := by
  obtain ⟨h1, h2⟩ := num_same s q
  cases hn : near (numR s q) with
  | false =>
    rw [right_a hn]
    rw [hn] at h1
    cases hv : (numV s q).2 with
    | false => rfl
    | true =>
      rw [hv, Bool.true_and] at h1
      rw [right_a h1.symm]
      rfl
  | true =>
    rw [h2 hn]
    rw [hn] at h1
    cases hv : (numV s q).2 with
    | false => rw [hv] at h1; cases h1
    | true => cases rightV op (numR s q) b on t <;> rfl
theorem fin_b (op : Int) (on : Bool) (t s : ByteArray) (q : Bool) (s' : ByteArray) (q' : Bool) : (bif !rightV op (numR s q) (numR s' q') on t then some ((0 : Int), (0 : Int), (0 : Int), false, ByteArray.empty, (4 : Int)) else some (op, numR s q, numR s' q', on, t, (0 : Int))) =
    some (endV (bif (numV s q).2 then ((numV s' q').2, op, (numV s q).1, (numV s' q').1, on, t) else (false, op, (numV s q).1, 0, on, t))) := by
  obtain ⟨h1, h2⟩ := num_same s q
  obtain ⟨h3, h4⟩ := num_same s' q'
  unfold endV
  cases hn : near (numR s q) with
  | false =>
    rw [right_a hn]
    rw [hn] at h1
    cases hv : (numV s q).2 with
    | false => rfl
    | true =>
      rw [hv, Bool.true_and] at h1
      simp only [cond_true, right_a h1.symm, Bool.and_false]
      rfl
  | true =>
    rw [h2 hn]
    rw [hn] at h1
    cases hv : (numV s q).2 with
    | false => rw [hv] at h1; cases h1
    | true =>
      simp only [cond_true]
      cases hm : near (numR s' q') with
      | false =>
        rw [right_b hm]
        rw [hm] at h3
        cases hw : (numV s' q').2 with
        | false => rfl
        | true =>
          rw [hw, Bool.true_and] at h3
          rw [right_b h3.symm]
          rfl
      | true =>
        rw [h4 hm]
        rw [hm] at h3
        cases hw : (numV s' q').2 with
        | false => rw [hw] at h3; cases h3
        | true => cases rightV op (numR s q) (numR s' q') on t <;> rfl
abbrev w28 : FSpec := s28 (fun x => decide (ByteArray.size x.1 ≤ 1048576)) fun x => parseV x.1
theorem wk28 : SpecOK Tryd.prog E0 28 w28 := by
  refine k28 (fun s H => ?_) (L := ls_ok (lcs := [lc Tryd.f28 0]) (rgs := []) (by kernel_rfl) (by kernel_rfl) L28 trivial)
  have H : s.size ≤ 1048576 := of_decide_eq_true H
  obtain ⟨h1, h2⟩ := ok_small H
  show _ = some (parseV s)
  unfold parseV parseL
  generalize hy : okV (cutV (bytesL s)) = y at h1 h2
  obtain ⟨l, b⟩ := y
  cases b with
  | false => simp only [d28, Tr.val, H, hy, decide_true, cond_true, Bool.not_false]; rfl
  | true =>
    simp only [Bool.not_true, cond_false]
    cases l with
    | nil => simp only [d28, Tr.val, H, hy, show opF [] 0 = 0 from rfl, decide_true, cond_true, cond_false, Bool.not_true]; rfl
    | cons p r =>
      cases hq : p.2.1 with
      | true =>
        have e0 : opF (p :: r) 0 = 0 := opF_none fun i _ _ => by
          unfold hitP
          rw [show ((p :: r).getD 0 pD) = p from rfl, hq]
          simp
        simp only [d28, Tr.val, H, hy, e0, hq, decide_true, cond_true, cond_false, Bool.not_true]; rfl
      | false =>
        have e0 := opF_find p r hq
        simp only [cond_false]
        cases hf : findN (isW U.wordsL p.1) 22 0 with
        | none =>
          rw [hf] at e0
          simp only [d28, Tr.val, H, hy, e0, hq, decide_true, cond_true, cond_false, Bool.not_true]; rfl
        | some op =>
          rw [hf] at e0
          simp only [] at e0 ⊢
          have hop := (findN_range hf).2
          have hop0 : op ≠ 0 := fun h => by
            subst h
            have := findN_true hf
            unfold isW at this
            rw [show (U.wordsL.getD 0 dW).1 = ⟨#[]⟩ from rfl, decide_eq_true rfl, Bool.not_true, Bool.and_false] at this
            cases this
          have hi : inB ((op : Nat) : Int) 22 = true := inB_nat (by omega)
          obtain ⟨s1, s2, h3⟩ := has_str hi
          rw [rgetW] at s1
          have hh : hasL.getD (Int.toNat ((op : Nat) : Int)) 0 = hOf op := rfl
          have e1 : rget (Kd.pr Kd.str (Kd.pr Kd.bool Kd.un)) (p :: r) (1 : Int) = (p :: r).getD 1 pD := rgetP (p :: r) 1
          have e2 : rget (Kd.pr Kd.str (Kd.pr Kd.bool Kd.un)) (p :: r) (2 : Int) = (p :: r).getD 2 pD := rgetP (p :: r) 2
          have sz := small_at h2 1
          have z0 : ((op : Nat) : Int) ≠ 0 := by omega
          unfold opV
          rw [s1]
          simp only [d28, Tr.val, H, hy, hq, e0, hh, hi, e1, e2, sz, z0, decide_true, decide_false, cond_true, cond_false, Bool.not_true]
          generalize hl : (p :: r) = l at *
          unfold endV
          have d01 : decide ((0 : Int) = 1) = false := rfl
          have d02 : decide ((0 : Int) = 2) = false := rfl
          have d03 : decide ((0 : Int) = 3) = false := rfl
          have d04 : decide ((0 : Int) = 4) = false := rfl
          have d11 : decide ((1 : Int) = 1) = true := rfl
          have d12 : decide ((1 : Int) = 2) = false := rfl
          have d13 : decide ((1 : Int) = 3) = false := rfl
          have d14 : decide ((1 : Int) = 4) = false := rfl
          have d21 : decide ((2 : Int) = 1) = false := rfl
          have d22 : decide ((2 : Int) = 2) = true := rfl
          have d23 : decide ((2 : Int) = 3) = false := rfl
          have d24 : decide ((2 : Int) = 4) = false := rfl
          have d31 : decide ((3 : Int) = 1) = false := rfl
          have d32 : decide ((3 : Int) = 2) = false := rfl
          have d33 : decide ((3 : Int) = 3) = true := rfl
          have d34 : decide ((3 : Int) = 4) = false := rfl
          have d41 : decide ((4 : Int) = 1) = false := rfl
          have d42 : decide ((4 : Int) = 2) = false := rfl
          have d43 : decide ((4 : Int) = 3) = false := rfl
          have d44 : decide ((4 : Int) = 4) = true := rfl
          have g0 : List.getD [(1 : Int), 2, 3, 2, 2] (Int.toNat 0) 0 = 1 := rfl
          have g1 : List.getD [(1 : Int), 2, 3, 2, 2] (Int.toNat 1) 0 = 2 := rfl
          have g2 : List.getD [(1 : Int), 2, 3, 2, 2] (Int.toNat 2) 0 = 3 := rfl
          have g3 : List.getD [(1 : Int), 2, 3, 2, 2] (Int.toNat 3) 0 = 2 := rfl
          have g4 : List.getD [(1 : Int), 2, 3, 2, 2] (Int.toNat 4) 0 = 2 := rfl
          have i0 : inB (0 : Int) 5 = true := rfl
          have i1 : inB (1 : Int) 5 = true := rfl
          have i2 : inB (2 : Int) 5 = true := rfl
          have i3 : inB (3 : Int) 5 = true := rfl
          have i4 : inB (4 : Int) 5 = true := rfl
          rcases h3 with e | e | e | e | e <;> rw [e] <;> simp only [d01, d02, d03, d04, d11, d12, d13, d14, d21, d22, d23, d24, d31, d32, d33, d34, d41, d42, d43, d44, g0, g1, g2, g3, g4, i0, i1, i2, i3, i4, decide_true, cond_true, cond_false]
          · have hs : (hasS 0).size = 0 := rfl
            rw [hs]
            by_cases hn : l.length = 1
            · rw [decide_eq_true (show ((l.length : Nat) : Int) = 1 by omega), decide_eq_true (show l.length = 1 + 0 by omega)]
              show (bif !rightV op 0 0 false ByteArray.empty then some ((0 : Int), (0 : Int), (0 : Int), false, ByteArray.empty, (4 : Int)) else some (((op : Nat) : Int), (0 : Int), (0 : Int), false, ByteArray.empty, (0 : Int))) = some (bif true && rightV op 0 0 false ByteArray.empty then (((op : Nat) : Int), (0 : Int), (0 : Int), false, ByteArray.empty, (0 : Int)) else errV 4)
              cases rightV op 0 0 false ByteArray.empty <;> rfl
            · rw [decide_eq_false (show ¬ ((l.length : Nat) : Int) = 1 by omega), decide_eq_false (show ¬ l.length = 1 + 0 by omega)]
              rfl
          · have hs : (hasS 1).size = 1 := rfl
            have hb : bytesL (hasS 1) = [65] := rfl
            rw [hs, hb]
            by_cases hn : l.length = 2
            · rw [decide_eq_true (show ((l.length : Nat) : Int) = 2 by omega), decide_eq_true (show l.length = 1 + 1 by omega)]
              have j1 : inB (1 : Int) l.length = true := inB_nat (i := 1) (by omega)
              simp only [j1, cond_true, cond_false, Bool.not_true]
              have e5 : readsI [65] l 1 (((op : Nat) : Int), 0, 0, false, ByteArray.empty) = ((numV (l.getD 1 pD).1 (l.getD 1 pD).2.1).2, ((op : Nat) : Int), (numV (l.getD 1 pD).1 (l.getD 1 pD).2.1).1, 0, false, ByteArray.empty) := read1 65 l _ _ _ rfl
              rw [e5]
              exact fin_a _ _ _ _ _ _
            · rw [decide_eq_false (show ¬ ((l.length : Nat) : Int) = 2 by omega), decide_eq_false (show ¬ l.length = 1 + 1 by omega)]
              rfl
          · have hs : (hasS 2).size = 2 := rfl
            have hb : bytesL (hasS 2) = [65, 66] := rfl
            rw [hs, hb]
            by_cases hn : l.length = 3
            · rw [decide_eq_true (show ((l.length : Nat) : Int) = 3 by omega), decide_eq_true (show l.length = 1 + 2 by omega)]
              have j1 : inB (1 : Int) l.length = true := inB_nat (i := 1) (by omega)
              have j2 : inB (2 : Int) l.length = true := inB_nat (i := 2) (by omega)
              simp only [j1, j2, cond_true, cond_false, Bool.not_true]
              have e5 := read2 65 66 l (((op : Nat) : Int), 0, 0, false, ByteArray.empty) (((op : Nat) : Int), (numV (l.getD 1 pD).1 (l.getD 1 pD).2.1).1, 0, false, ByteArray.empty) (((op : Nat) : Int), (numV (l.getD 1 pD).1 (l.getD 1 pD).2.1).1, (numV (l.getD 2 pD).1 (l.getD 2 pD).2.1).1, false, ByteArray.empty) (numV (l.getD 1 pD).1 (l.getD 1 pD).2.1).2 (numV (l.getD 2 pD).1 (l.getD 2 pD).2.1).2 rfl rfl
              rw [e5]
              exact fin_b _ _ _ _ _ _ _
            · rw [decide_eq_false (show ¬ ((l.length : Nat) : Int) = 3 by omega), decide_eq_false (show ¬ l.length = 1 + 2 by omega)]
              rfl
          · have hs : (hasS 3).size = 1 := rfl
            have hb : bytesL (hasS 3) = [111] := rfl
            rw [hs, hb]
            by_cases hn : l.length = 2
            · rw [decide_eq_true (show ((l.length : Nat) : Int) = 2 by omega), decide_eq_true (show l.length = 1 + 1 by omega)]
              have j1 : inB (1 : Int) l.length = true := inB_nat (i := 1) (by omega)
              simp only [j1, cond_true, cond_false, Bool.not_true]
              generalize hq1 : l.getD 1 pD = q1
              have e5 : readsI [111] l 1 (((op : Nat) : Int), 0, 0, false, ByteArray.empty) = (!q1.2.1 && decide (q1.1 = truth (decide (q1.1 = ⟨#[111, 110]⟩))), ((op : Nat) : Int), 0, 0, decide (q1.1 = ⟨#[111, 110]⟩), ByteArray.empty) := by rw [← hq1]; exact read1 111 l _ _ _ rfl
              rw [e5]
              have o1 : ({ data := #[OfNat.ofNat (111 : Nat), OfNat.ofNat (110 : Nat)] } : ByteArray) = ⟨#[111, 110]⟩ := rfl
              have o2 : ({ data := #[OfNat.ofNat (111 : Nat), OfNat.ofNat (102 : Nat), OfNat.ofNat (102 : Nat)] } : ByteArray) = truth false := rfl
              rw [o1, o2]
              cases q1.2.1 with
              | true => rfl
              | false =>
                simp only [cond_false, Bool.not_false, Bool.true_and]
                by_cases ho : q1.1 = ⟨#[111, 110]⟩
                · rw [ho]
                  show (bif !rightV op 0 0 true ByteArray.empty then _ else _) = some (bif rightV op 0 0 true ByteArray.empty then _ else _)
                  cases rightV op 0 0 true ByteArray.empty <;> rfl
                · rw [decide_eq_false ho]
                  simp only [Bool.not_false, cond_true]
                  cases decide (q1.1 = truth false) with
                  | false => rfl
                  | true =>
                    simp only [Bool.not_true, cond_false, Bool.true_and]
                    cases rightV op 0 0 false ByteArray.empty <;> rfl
            · rw [decide_eq_false (show ¬ ((l.length : Nat) : Int) = 2 by omega), decide_eq_false (show ¬ l.length = 1 + 1 by omega)]
              rfl
          · have hs : (hasS 4).size = 1 := rfl
            have hb : bytesL (hasS 4) = [116] := rfl
            rw [hs, hb]
            by_cases hn : l.length = 2
            · rw [decide_eq_true (show ((l.length : Nat) : Int) = 2 by omega), decide_eq_true (show l.length = 1 + 1 by omega)]
              have j1 : inB (1 : Int) l.length = true := inB_nat (i := 1) (by omega)
              simp only [j1, cond_true, cond_false, Bool.not_true]
              have e5 : readsI [116] l 1 (((op : Nat) : Int), 0, 0, false, ByteArray.empty) = ((l.getD 1 pD).2.1, ((op : Nat) : Int), 0, 0, false, (l.getD 1 pD).1) := read1 116 l _ _ _ rfl
              rw [e5]
              generalize l.getD 1 pD = q1
              cases q1.2.1 with
              | false => rfl
              | true =>
                simp only [Bool.not_true, cond_false, Bool.true_and]
                cases rightV op 0 0 false q1.1 <;> rfl
            · rw [decide_eq_false (show ¬ ((l.length : Nat) : Int) = 2 by omega), decide_eq_false (show ¬ l.length = 1 + 1 by omega)]
              rfl
end Cm
end Go.Proofs.YtdlbnlbajnafdaaDoor
end
section
set_option linter.unusedVariables false
set_option linter.unusedSimpArgs false
set_option maxRecDepth 20000
set_option maxHeartbeats 4000000
open Go Go.Ev
namespace Go.Proofs.YtdlbnlbajnafdaaDoor
namespace Cm
def d29 : Tr (Bool) :=
 Tr.ite true (Tr.ite true (Tr.ret true) (Tr.ret false)) Tr.fail
def e29 (r : Bool) : FRes := { rs := Slot.av (AV.one (Leaf.dat Kd.bool r)), upd := [], new := [] }
@[reducible] def a29 : List AK := []
@[reducible] def b29 : List BK := []
theorem t29 : evFn (Env.withFns E0 [((27 : Nat), w27)]) Tryd.f29 [PM.data Kd.bool] (akAV a29 ()) (bkBs b29 ()) = (d29).map e29 := by kernel_rfl
def s29' (G : akT a29 → Bool) : FSpec := aspec0 a29 b29 e29 (fun x _ => G x)
theorem k29' {G : akT a29 → Bool} (hd : (d29).val = some (G ())) (IO : ItOK Tryd.prog (Env.withFns E0 [((27 : Nat), w27)]) := by exact itOK_none rfl) (L : ∀ c, Tryd.f29.body = some c → LsOK (evI 2) ((Env.withFns E0 [((27 : Nat), w27)]).lend 0) c := by exact fun c _ => LsOK_none rfl c) : SpecOK Tryd.prog E0 29 (s29' G) :=
  aspec0_ok (ak := a29) (bl := b29) (e := e29) (g := fun x _ => G x) (E0 := E0) (E := Env.withFns E0 [((27 : Nat), w27)]) tab (.cons wk27 .nil) rfl rfl hm Tryd.func29 (by kernel_rfl) [PM.data Kd.bool] (fun X Y => by exact val_of (t29) (hd)) IO L
abbrev w29 : FSpec := s29' fun _ => true
theorem wk29 : SpecOK Tryd.prog E0 29 w29 := k29' rfl
def d6 (xa : ByteArray) : Tr (Bool) :=
 let v1 : Int := (minI (↑(ByteArray.size xa) : Int) (200 : Int))
 let v2 : ByteArray := (ByteArray.extract xa (0 : Nat) (Int.toNat v1))
 let v3 : Int := ((parseV v2).fst)
 let v4 : Int × Int × Bool × ByteArray × Int := ((parseV v2).snd)
 let v5 : Int × Bool × ByteArray × Int := (v4.snd)
 let v6 : Int := (v4.fst)
 let v7 : Int := (v5.fst)
 let v8 : Bool × ByteArray × Int := (v5.snd)
 let v9 : ByteArray × Int := (v8.snd)
 let v10 : Bool := (v8.fst)
 let v11 : Int := (v9.snd)
 let v12 : ByteArray := (v9.fst)
 let v13 : Bool := (decide (ByteArray.size v2 ≤ (1048576 : Nat)))
 Tr.ite (decide ((0 : Int) ≤ v1 ∧ v1 ≤ (↑(ByteArray.size xa) : Int))) (Tr.ite v13 (Tr.ite v13 (Tr.ite true (Tr.ite (decide (v3 = v3) && (decide (v6 = v6) && (decide (v7 = v7) && (v10 == v10 && decide (v12 = v12))))) (Tr.ret (decide (v11 = v11))) (Tr.ret false)) (Tr.ret false)) Tr.fail) Tr.fail) Tr.fail
def e6 (r : Bool) : FRes := { rs := Slot.av (AV.one (Leaf.dat Kd.bool r)), upd := [], new := [] }
@[reducible] def a6 : List AK := [AK.d Kd.str]
@[reducible] def b6 : List BK := []
theorem t6 (xa : ByteArray) : evFn (Env.withFns E0 [((27 : Nat), w27), ((28 : Nat), w28), ((29 : Nat), w29)]) Tryd.f6 [PM.data Kd.bool] (akAV a6 (xa, ())) (bkBs b6 ()) = (d6 xa).map e6 := by kernel_rfl
def s6' (G : akT a6 → Bool) : FSpec := aspec0 a6 b6 e6 (fun x _ => G x)
theorem k6' {G : akT a6 → Bool} (hd : ∀ (xa : ByteArray), (d6 xa).val = some (G (xa, ()))) (IO : ItOK Tryd.prog (Env.withFns E0 [((27 : Nat), w27), ((28 : Nat), w28), ((29 : Nat), w29)]) := by exact itOK_none rfl) (L : ∀ c, Tryd.f6.body = some c → LsOK (evI 2) ((Env.withFns E0 [((27 : Nat), w27), ((28 : Nat), w28), ((29 : Nat), w29)]).lend 0) c := by exact fun c _ => LsOK_none rfl c) : SpecOK Tryd.prog E0 6 (s6' G) :=
  aspec0_ok (ak := a6) (bl := b6) (e := e6) (g := fun x _ => G x) (E0 := E0) (E := Env.withFns E0 [((27 : Nat), w27), ((28 : Nat), w28), ((29 : Nat), w29)]) tab (.cons wk27 (.cons wk28 (.cons wk29 .nil))) rfl rfl hm Tryd.func6 (by kernel_rfl) [PM.data Kd.bool] (fun X Y => by obtain ⟨xa, _⟩ := X; exact val_of (t6 xa) (hd xa)) IO L
abbrev w6 : FSpec := s6' fun _ => true
theorem cut_le {s : ByteArray} {k : Int} (hk : 0 ≤ k) : (0 ≤ minI (s.size : Int) k ∧ minI (s.size : Int) k ≤ (s.size : Int)) ∧ (s.extract 0 (minI (s.size : Int) k).toNat).size ≤ k.toNat := by
  have h : minI (s.size : Int) k ≤ k ∧ minI (s.size : Int) k ≤ (s.size : Int) ∧ 0 ≤ minI (s.size : Int) k := by unfold minI; split <;> omega
  refine ⟨⟨h.2.2, h.2.1⟩, ?_⟩
  rw [ByteArray.size_extract]
  omega
theorem wk6 : SpecOK Tryd.prog E0 6 w6 := k6' fun s => by
  obtain ⟨h1, h2⟩ := cut_le (s := s) (k := 200) (by omega)
  have h2 : (s.extract 0 (minI (s.size : Int) 200).toNat).size ≤ 1048576 := Nat.le_trans h2 (by decide)
  show _ = some true
  simp only [d6, Tr.val, h1, h2, and_self, decide_true, cond_true, Bool.and_true, beq_self_eq_true]
end Cm
end Go.Proofs.YtdlbnlbajnafdaaDoor
end
section
set_option linter.unusedVariables false
set_option linter.unusedSimpArgs false
namespace Go.Ev
open Go.RowKit Go.ChangeShapes Go.WideShapes
def Kd.flat : Kd → Bool
  | .int _ => true
  | .bool => true
  | .str => true
  | .un => true
  | .pr a b => a.flat && b.flat
  | _ => false
def Kd.vals : (k : Kd) → k.T → List Value
  | .int k, x => [.int k x]
  | .bool, x => [.bool x]
  | .str, x => [.string x]
  | .pr a b, x => a.vals x.1 ++ b.vals x.2
  | .un, _ => []
  | .sl _, _ => []
  | .tre, _ => []
  | .ifc, _ => []
def lits {H : Type} : (k : Kd) → k.T → List (DataW H)
  | .int k, x => [.lit (.int k x)]
  | .bool, x => [.lit (.bool x)]
  | .str, x => [.lit (.string x.data.toList)]
  | .pr a b, x => (bif a.isAgg then [.agg (lits a x.1)] else lits a x.1) ++ lits b x.2
  | .un, _ => []
  | .sl _, _ => []
  | .tre, _ => []
  | .ifc, _ => []
def dOf {H : Type} (k : Kd) (x : k.T) : DataW H := bif k.isAgg then .agg (lits k x) else (lits k x).headD .nil
theorem vals_R {w : World} {K : KSet} : ∀ {k : Kd} (x : k.T), k.flat = true → Kd.R w K k x (k.vals x)
  | .int _, _, _ => rfl
  | .bool, _, _ => rfl
  | .str, _, _ => rfl
  | .un, _, _ => rfl
  | .pr a b, x, h => by
    unfold Kd.flat at h
    rw [Bool.and_eq_true] at h
    exact ⟨_, _, rfl, vals_R _ h.1, vals_R _ h.2⟩
  | .sl _, _, h => by cases h
  | .tre, _, h => by cases h
  | .ifc, _, h => by cases h
theorem dOf_pr {H : Type} {a : Kd} (x : a.T) (h : a.flat = true) : (bif a.isAgg then [(.agg (lits a x) : DataW H)] else lits a x) = [dOf a x] := by
  unfold dOf
  cases a with
  | pr a b => rfl
  | un => rfl
  | int k => rfl
  | bool => rfl
  | str => rfl
  | sl k => cases h
  | tre => cases h
  | ifc => cases h
section
variable {H : Type} {enc : TypeId × Value → H} {P : Program} {w : World}
theorem read_flat (base : Nat) (sp : Nat → Bool) (held : Bool) : ∀ (n : Nat) {t : TypeId} {k : Kd} {cs : List Value} {x : DataW H × List MemPlace}, TK P t k → k.flat = true →
    DataW.trod enc P w base sp held n t cs = some x → ∃ y : k.T, cs = k.vals y ∧ x.1 = dOf k y := by
  intro n
  induction n with
  | zero => intro t k cs x hk hf h; simp [DataW.trod] at h
  | succ n ih =>
    intro t k cs x hk hfl h
    cases hk with
    | int ht =>
      obtain ⟨i, rfl, rfl, hw⟩ := DataW.trod_int ht h
      exact ⟨i, rfl, rfl⟩
    | bool ht =>
      obtain ⟨b, rfl, rfl⟩ := DataW.trod_bool ht h
      exact ⟨b, rfl, rfl⟩
    | str ht =>
      obtain ⟨s, rfl, rfl, hs⟩ := DataW.trod_string ht h
      exact ⟨s, rfl, rfl⟩
    | sl => cases hfl
    | @struct _ fs k ht hf hs =>
      obtain ⟨xs, m, hm, rfl, hl, hlen, hat⟩ := DataW.trod_struct ht h
      cases hm
      have go : ∀ {o : Nat} {gs : List Field} {k' : Kd} (j : Nat), TKF P o gs k' → k'.flat = true → gs = fs.toList.drop j → cs.length = o + k'.sz → ∃ y : k'.T, cs.drop o = k'.vals y ∧ (xs.drop j).map (·.1) = lits k' y := by
        intro o gs
        induction gs generalizing o with
        | nil =>
          intro k' j h _ hin hl'
          cases h
          refine ⟨(), ?_, ?_⟩
          · show _ = []
            rw [List.drop_eq_nil_of_le]
            simp only [Kd.sz] at hl'
            omega
          · have : fs.toList.length ≤ j := by
              have := congrArg List.length hin
              simp at this
              simp
              omega
            rw [List.drop_eq_nil_of_le (by simp at this; omega)]
            rfl
        | cons f gs ihg =>
          intro k' j h hfl' hin hl'
          cases h with
          | @cons _ _ _ a b ho ha hs' hb =>
            simp only [Kd.sz] at hl'
            unfold Kd.flat at hfl'
            rw [Bool.and_eq_true] at hfl'
            have hj : j < fs.toList.length := by
              have := congrArg List.length hin
              simp at this
              simp
              omega
            rw [List.drop_eq_getElem_cons hj] at hin
            injection hin with hf1 hf2
            obtain ⟨y2, hy2, ok2⟩ := ihg (j + 1) hb hfl'.2 hf2 (by omega)
            have hj2 : j < xs.length := by simp at hj; omega
            have h1 := hat j f (by rw [hf1]; simp)
            rw [List.getElem?_eq_getElem hj2, ho, hs'] at h1
            obtain ⟨y1, hy1, ok1⟩ := ih ha hfl'.1 h1
            refine ⟨(y1, y2), ?_, ?_⟩
            · show _ = a.vals y1 ++ b.vals y2
              rw [← hy1, ← hy2, ← List.drop_drop, List.take_append_drop]
            · rw [List.drop_eq_getElem_cons hj2, List.map_cons, ok2, ok1]
              show _ = (bif a.isAgg then [.agg (lits a y1)] else lits a y1) ++ lits b y2
              rw [dOf_pr _ hfl'.1]
              rfl
      obtain ⟨y, hy, hd⟩ := go 0 hf hfl (by simp) (by rw [hl, hs]; simp)
      refine ⟨y, by simpa using hy, ?_⟩
      show DataW.agg (xs.map (·.1)) = _
      have ha := hf.agg
      unfold dOf
      rw [ha, cond_true, ← hd, List.drop_zero]
theorem lits_inj : ∀ {k : Kd} {x y : k.T}, k.flat = true → (lits k x : List (DataW H)) = lits k y → x = y
  | .int _, x, y, _, h => by injection h with h; injection h with h; injection h
  | .bool, x, y, _, h => by injection h with h; injection h with h; injection h
  | .str, x, y, _, h => by
    injection h with h; injection h with h; injection h with h
    obtain ⟨⟨l⟩⟩ := x
    obtain ⟨⟨m⟩⟩ := y
    have : l = m := h
    rw [this]
  | .un, _, _, _, _ => rfl
  | .pr a b, x, y, hf, h => by
    unfold Kd.flat at hf
    rw [Bool.and_eq_true] at hf
    have h : (bif a.isAgg then [(.agg (lits a x.1) : DataW H)] else lits a x.1) ++ lits b x.2 = (bif a.isAgg then [.agg (lits a y.1)] else lits a y.1) ++ lits b y.2 := h
    rw [dOf_pr _ hf.1, dOf_pr _ hf.1] at h
    injection h with h1 h2
    have e2 : x.2 = y.2 := lits_inj hf.2 h2
    have e1 : x.1 = y.1 := by
      unfold dOf at h1
      cases ha : a.isAgg with
      | true =>
        rw [ha] at h1
        injection h1 with h1
        exact lits_inj hf.1 h1
      | false =>
        rw [ha, cond_false, cond_false] at h1
        refine lits_inj hf.1 ?_
        clear h h2 e2
        cases a with
        | int k => exact congrArg (fun d => [d]) h1
        | bool => exact congrArg (fun d => [d]) h1
        | str => exact congrArg (fun d => [d]) h1
        | un => rfl
        | pr a b => cases ha
        | sl k => cases hf.1
        | tre => cases hf.1
        | ifc => cases hf.1
    exact Prod.ext e1 e2
  | .sl _, _, _, h, _ => by cases h
  | .tre, _, _, h, _ => by cases h
  | .ifc, _, _, h, _ => by cases h
theorem dOf_inj {k : Kd} {x y : k.T} (hf : k.flat = true) (h : (dOf k x : DataW H) = dOf k y) : x = y := by
  unfold dOf at h
  cases ha : k.isAgg with
  | true => rw [ha] at h; injection h with h; exact lits_inj hf h
  | false =>
    rw [ha, cond_false, cond_false] at h
    refine lits_inj hf (H := H) ?_
    cases k with
    | int k => exact congrArg (fun d => [d]) h
    | bool => exact congrArg (fun d => [d]) h
    | str => exact congrArg (fun d => [d]) h
    | un => rfl
    | pr a b => cases ha
    | sl k => cases hf
    | tre => cases hf
    | ifc => cases hf
theorem read_arr {base : Nat} {sp : Nat → Bool} {held : Bool} {n : Nat} {t e : TypeId} {m : Nat} {k : Kd} {cs : List Value} {p : List MemPlace} {ys : List k.T} (ht : P.underlying t = some (.array m e)) (hk : TK P e k) (hf : k.flat = true) (hs : P.cellsOf e = k.sz)
    (h : DataW.trod enc P w base sp held n t cs = some (.agg (ys.map (dOf k)), p)) : ∀ i, i < ys.length → (cs.drop (i * k.sz)).take k.sz = k.vals (ys.getD i k.dflt) := by
  obtain ⟨xs, n', rfl, hx, hl, hxl, hat⟩ := DataW.trod_array ht h
  have hxs : xs.map (·.1) = ys.map (dOf k) := by
    have := congrArg Prod.fst hx
    simpa using this.symm
  have hlen : xs.length = ys.length := by simpa using congrArg List.length hxs
  intro i hi
  have h1 := hat i (by omega)
  rw [List.getElem?_eq_getElem (by omega), hs] at h1
  obtain ⟨y, hy, hd⟩ := read_flat base sp held n' hk hf h1
  have h2 : xs[i].1 = dOf k ys[i] := by
    have := congrArg (fun l => l[i]?) hxs
    simp only [List.getElem?_map, List.getElem?_eq_getElem hi, List.getElem?_eq_getElem (show i < xs.length by omega), Option.map_some] at this
    exact Option.some.inj this
  rw [hy, List.getD_eq_getElem?_getD, List.getElem?_eq_getElem hi]
  rw [h2] at hd
  rw [dOf_inj hf hd]
  rfl
theorem glob_arr {W : World} {g : Nat} {cs : Array Value} {t : TypeId} {fr : Nat × Nat} {k : Kd} {ys : List k.T} {A : Asg} (hf : k.flat = true) (hc : W.heap[g]? = some (.cells cs t fr))
    (h : ∀ i, i < ys.length → (cs.toList.drop (i * k.sz)).take k.sz = k.vals (ys.getD i k.dflt)) (hu : k.beq (.int .u64) = false) : LeafR W (allK W) A [] (GV.arr k ys).leaf (.pointer (some ⟨g, 0, none⟩)) := by
  refine ⟨g, 0, cs, t, fr, rfl, (Array.getElem?_eq_some_iff.1 hc).1, hc, fun i hi => ?_, fun h => by rw [hu] at h; cases h⟩
  rw [Nat.zero_add]
  unfold cellsAt
  rw [h i hi]
  exact vals_R _ hf
end
end Go.Ev
end
section
set_option linter.unusedVariables false
set_option maxRecDepth 100000
namespace Go.Proofs.YtdlbnlbajnafdaaDoor
open Go.ChangeShapes Go.WideShapes Go.ChangeAt Go.RowKit Go.Ev Go.Lib Go.Shelf
abbrev atG (W : World) (g : Nat) (p : GV) : Prop := LeafR W (allK W) noA [] p.leaf (.pointer (some ⟨g, 0, none⟩))
theorem words_eq : (Rows.laid_backseat_cmd_words : DataW Unit) = .agg (U.wordsL.map (dOf wordk)) := by kernel_rfl
theorem tk_word : TK Tryd.prog 117 wordk := .struct Tryd.underlying117 (.cons rfl (.str Tryd.underlying9) (by kernel_rfl) (.cons rfl (.str Tryd.underlying9) (by kernel_rfl) .nil)) (by kernel_rfl)
theorem var_cells {W : World} {n : String} {g : Nat} {cs : Array Value} (hg : Tryd.prog.globalNamed n = some g) (h : W.var? Tryd.prog n = some cs) : ∃ t fr, W.heap[g]? = some (.cells cs t fr) := by
  unfold World.var? at h
  rw [hg] at h
  have h : (match (W.heap[g]? : Option Obj) with | some (Obj.cells cs _ _) => some cs | _ => none) = some cs := h
  split at h
  · rename_i c t fr hc
    cases h
    exact ⟨t, fr, hc⟩
  · cases h
theorem words_at {W : World} (r : VarReads Tryd.prog W "backseat/cmd.words" Rows.laid_backseat_cmd_words) : atG W 0 (.arr wordk U.wordsL) := by
  rw [words_eq] at r
  obtain ⟨g, t, cs, fuel, p, hg, hty, hvar, hd⟩ := r
  obtain rfl := Option.some.inj ((show Tryd.prog.globalNamed "backseat/cmd.words" = some 0 by kernel_rfl).symm.trans hg)
  obtain rfl := Option.some.inj ((show (Tryd.prog.globals[0]?).map (·.type) = some 118 by kernel_rfl).symm.trans hty)
  obtain ⟨t, fr, hc⟩ := var_cells hg hvar
  exact glob_arr rfl hc (read_arr Tryd.underlying118 tk_word rfl (by kernel_rfl) hd) rfl
theorem err_at {W : World} {n : String} {g : Nat} {s : String} {d : DataW Unit} (h1 : Tryd.prog.globalNamed n = some g) (h2 : (Tryd.prog.globals[g]?).map (·.type) = some 146) (r : VarReads Tryd.prog W n (.iface s d)) : atG W g (.dat .ifc false) := by
  obtain ⟨g', t, cs, fuel, p, hg, hty, hvar, hd⟩ := r
  obtain rfl := Option.some.inj (h1.symm.trans hg)
  obtain rfl := Option.some.inj (h2.symm.trans hty)
  obtain ⟨t, fr, hc⟩ := var_cells hg hvar
  have : ∃ u v, cs.toList = [.iface u v] := by
    cases fuel with
    | zero => simp [DataW.trod] at hd
    | succ n =>
      unfold DataW.trod at hd
      rw [Tryd.underlying146] at hd
      split at hd <;> simp_all
  obtain ⟨u, v, e⟩ := this
  refine ⟨g, 0, cs, t, fr, rfl, (Array.getElem?_eq_some_iff.1 hc).1, hc, ?_⟩
  show Kd.R W (allK W) .ifc false (cellsAt cs 0 1)
  unfold cellsAt
  rw [e]
  exact ⟨_, rfl, .inr ⟨rfl, _, _, rfl⟩⟩
namespace Cm
def Tabs (W : World) : Prop := Go.Proofs.YtdlbnlbajnafdaaDoor.Tabs W ∧ atG W 0 (.arr wordk U.wordsL) ∧ atG W 6 (.dat .ifc false) ∧ atG W 7 (.dat .ifc false)
def laidL : List (String × DataW Unit) := [("math/bits.deBruijn32tab", Rows.laid_math_bits_deBruijn32tab), ("math/bits.deBruijn64tab", Rows.laid_math_bits_deBruijn64tab), ("internal/strconv.uint64pow10", Rows.laid_internal_strconv_uint64pow10), ("unicode/utf8.acceptRanges", Rows.laid_unicode_utf8_acceptRanges), ("strconv.ErrRange", Rows.laid_strconv_ErrRange), ("strconv.ErrSyntax", Rows.laid_strconv_ErrSyntax), ("backseat/cmd.words", Rows.laid_backseat_cmd_words), ("unicode/utf8.first", Rows.laid_unicode_utf8_first)]
end Cm
theorem tabs_met {l : List (String × DataW Unit)} {W : World} (h' : laidMet Tryd.prog l W) (m1 : ("unicode/utf8.first", Rows.laid_unicode_utf8_first) ∈ l) (m2 : ("unicode/utf8.acceptRanges", Rows.laid_unicode_utf8_acceptRanges) ∈ l)
    (m3 : ("internal/strconv.uint64pow10", Rows.laid_internal_strconv_uint64pow10) ∈ l) : Tabs W := by
  have r1 := laidMet.reads h' m1
  have r2 := laidMet.reads h' m2
  have r3 := laidMet.reads h' m3
  rw [fst_eq] at r1
  rw [acc_eq] at r2
  rw [pow_eq] at r3
  refine ⟨utf8Tabs_of_readsT ty8 ex8 r1 r2, ?_⟩
  obtain ⟨g, t, cs, fuel, p, hg, hty, hvar, hd⟩ := r3
  obtain rfl := Option.some.inj ((show Tryd.prog.globalNamed "internal/strconv.uint64pow10" = some 5 by kernel_rfl).symm.trans hg)
  obtain rfl := Option.some.inj ((show (Tryd.prog.globals[5]?).map (·.type) = some 241 by kernel_rfl).symm.trans hty)
  unfold TabIs
  rw [hvar, ← cells_of_tab Tryd.underlying241 Tryd.underlying193 (by kernel_rfl) (by kernel_rfl) hd]
namespace Cm
theorem tabs_of {l : List (String × DataW Unit)} {W : World} (h' : laidMet Tryd.prog l W) (m1 : ("unicode/utf8.first", Rows.laid_unicode_utf8_first) ∈ l) (m2 : ("unicode/utf8.acceptRanges", Rows.laid_unicode_utf8_acceptRanges) ∈ l)
    (m3 : ("internal/strconv.uint64pow10", Rows.laid_internal_strconv_uint64pow10) ∈ l) (m4 : ("backseat/cmd.words", Rows.laid_backseat_cmd_words) ∈ l) (m5 : ("strconv.ErrSyntax", Rows.laid_strconv_ErrSyntax) ∈ l) (m6 : ("strconv.ErrRange", Rows.laid_strconv_ErrRange) ∈ l) : Tabs W :=
  ⟨tabs_met h' m1 m2 m3, words_at (laidMet.reads h' m4), err_at (by kernel_rfl) (by kernel_rfl) (laidMet.reads h' m5), err_at (by kernel_rfl) (by kernel_rfl) (laidMet.reads h' m6)⟩
theorem tabs {W : World} (h : laidMetH Tryd.prog laidL W) : Tabs W := tabs_of (l := laidL) h (by simp [laidL]) (by simp [laidL]) (by simp [laidL]) (by simp [laidL]) (by simp [laidL]) (by simp [laidL])
theorem globs {W : World} (hT : Tabs W) : ∀ g p, E0.glob g = some p → LeafR W (allK W) noA [] p.leaf (.pointer (some ⟨g, 0, none⟩)) := by
  obtain ⟨h, h0, h6, h7⟩ := hT
  intro g p hp
  have hp : gl g = some p := hp
  unfold gl at hp
  cases e0 : Nat.beq g 0 with
  | true => rw [e0] at hp; cases hp; rw [Nat.eq_of_beq_eq_true e0]; exact h0
  | false =>
    cases e6 : Nat.beq g 6 with
    | true => rw [e0, e6] at hp; cases hp; rw [Nat.eq_of_beq_eq_true e6]; exact h6
    | false =>
      cases e7 : Nat.beq g 7 with
      | true => rw [e0, e6, e7] at hp; cases hp; rw [Nat.eq_of_beq_eq_true e7]; exact h7
      | false =>
        rw [e0, e6, e7] at hp
        exact Go.Proofs.YtdlbnlbajnafdaaDoor.globs h g p hp
def layA {k : Kd} (xs : List k.T) : Obj → Obj
  | .cells _ t frozen => .cells (xs.flatMap k.vals).toArray t frozen
  | o => o
def layI (b : Nat) : Obj → Obj
  | .cells _ t frozen => .cells #[.iface 261 (.pointer (some ⟨b, 0, none⟩))] t frozen
  | o => o
def sSyntax : ByteArray := ⟨#[105, 110, 118, 97, 108, 105, 100, 32, 115, 121, 110, 116, 97, 120]⟩
def sRange : ByteArray := ⟨#[118, 97, 108, 117, 101, 32, 111, 117, 116, 32, 111, 102, 32, 114, 97, 110, 103, 101]⟩
noncomputable def laidWorld (os : Os) : World :=
  let W := Go.Proofs.YtdlbnlbajnafdaaDoor.laidWorld os
  let n := W.heap.size
  { W with heap := (((((W.heap.modify 0 (layA (k := wordk) U.wordsL)).modify 1 (layA (k := bndk) U.boundL)).modify 6 (layI n)).modify 7 (layI (n + 1))).push (.cells #[.string sSyntax] 263)).push (.cells #[.string sRange] 263) }
end Cm
end Go.Proofs.YtdlbnlbajnafdaaDoor
end
