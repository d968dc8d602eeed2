/- Part 4 of what the proof leans on: an evaluator of Go code over plain data, with its soundness; contracts of functions; laws of plain data. -/
import Derived.Test.YtdlbnlbajnafdaaDoorZq3
section
set_option linter.unusedVariables false
set_option linter.unusedSimpArgs false
set_option maxRecDepth 20000
set_option maxHeartbeats 4000000
open Go Go.Ev
namespace Go.Proofs.YtdlbnlbajnafdaaDoor
namespace Cm
abbrev boxC : BK := .box [.d (.int .i64), .d (.int .i64), .d (.int .i64), .d .bool, .d .str]
def d33 (xa1 : Int) (xa2 : Int) (xa3 : Int) (xa4 : Bool) (xa5 : ByteArray) : Tr (Bool) :=
 let v1 : Bool := (inB xa1 (22 : Nat) && true)
 Tr.ite (decide (xa1 < (1 : Int))) (Tr.ret false) (Tr.ite (decide ((22 : Int) ≤ xa1)) (Tr.ret false) (Tr.ite (!near xa2) (Tr.ret false) (Tr.ite (!near xa3) (Tr.ret false) (Tr.ite (decide ((64 : Int) < (↑(ByteArray.size xa5) : Int))) (Tr.ret false) (Tr.ite (decide (ByteArray.size xa5 ≤ (1048576 : Nat))) (Tr.ite (!Lib.validD xa5.data.toList) (Tr.ret false) (Tr.ite v1 (Tr.ite (!hasB (rget wordk U.wordsL xa1).snd.fst (b0 { data := #[OfNat.ofNat (65 : Nat)] })) (Tr.ite (!decide (xa2 = (0 : Int))) (Tr.ret false) (Tr.ite v1 (Tr.ite (!hasB (rget wordk U.wordsL xa1).snd.fst (b0 { data := #[OfNat.ofNat (66 : Nat)] })) (Tr.ite (!decide (xa3 = (0 : Int))) (Tr.ret false) (Tr.ite v1 (Tr.ite (!hasB (rget wordk U.wordsL xa1).snd.fst (b0 { data := #[OfNat.ofNat (111 : Nat)] })) (Tr.ite xa4 (Tr.ret false) (Tr.ite v1 (Tr.ite (!hasB (rget wordk U.wordsL xa1).snd.fst (b0 { data := #[OfNat.ofNat (116 : Nat)] })) (Tr.ret !!decide (xa5 = { data := #[] })) (Tr.ret true)) Tr.fail)) (Tr.ite v1 (Tr.ite (!hasB (rget wordk U.wordsL xa1).snd.fst (b0 { data := #[OfNat.ofNat (116 : Nat)] })) (Tr.ret !!decide (xa5 = { data := #[] })) (Tr.ret true)) Tr.fail)) Tr.fail)) (Tr.ite v1 (Tr.ite (!hasB (rget wordk U.wordsL xa1).snd.fst (b0 { data := #[OfNat.ofNat (111 : Nat)] })) (Tr.ite xa4 (Tr.ret false) (Tr.ite v1 (Tr.ite (!hasB (rget wordk U.wordsL xa1).snd.fst (b0 { data := #[OfNat.ofNat (116 : Nat)] })) (Tr.ret !!decide (xa5 = { data := #[] })) (Tr.ret true)) Tr.fail)) (Tr.ite v1 (Tr.ite (!hasB (rget wordk U.wordsL xa1).snd.fst (b0 { data := #[OfNat.ofNat (116 : Nat)] })) (Tr.ret !!decide (xa5 = { data := #[] })) (Tr.ret true)) Tr.fail)) Tr.fail)) Tr.fail)) (Tr.ite v1 (Tr.ite (!hasB (rget wordk U.wordsL xa1).snd.fst (b0 { data := #[OfNat.ofNat (66 : Nat)] })) (Tr.ite (!decide (xa3 = (0 : Int))) (Tr.ret false) (Tr.ite v1 (Tr.ite (!hasB (rget wordk U.wordsL xa1).snd.fst (b0 { data := #[OfNat.ofNat (111 : Nat)] })) (Tr.ite xa4 (Tr.ret false) (Tr.ite v1 (Tr.ite (!hasB (rget wordk U.wordsL xa1).snd.fst (b0 { data := #[OfNat.ofNat (116 : Nat)] })) (Tr.ret !!decide (xa5 = { data := #[] })) (Tr.ret true)) Tr.fail)) (Tr.ite v1 (Tr.ite (!hasB (rget wordk U.wordsL xa1).snd.fst (b0 { data := #[OfNat.ofNat (116 : Nat)] })) (Tr.ret !!decide (xa5 = { data := #[] })) (Tr.ret true)) Tr.fail)) Tr.fail)) (Tr.ite v1 (Tr.ite (!hasB (rget wordk U.wordsL xa1).snd.fst (b0 { data := #[OfNat.ofNat (111 : Nat)] })) (Tr.ite xa4 (Tr.ret false) (Tr.ite v1 (Tr.ite (!hasB (rget wordk U.wordsL xa1).snd.fst (b0 { data := #[OfNat.ofNat (116 : Nat)] })) (Tr.ret !!decide (xa5 = { data := #[] })) (Tr.ret true)) Tr.fail)) (Tr.ite v1 (Tr.ite (!hasB (rget wordk U.wordsL xa1).snd.fst (b0 { data := #[OfNat.ofNat (116 : Nat)] })) (Tr.ret !!decide (xa5 = { data := #[] })) (Tr.ret true)) Tr.fail)) Tr.fail)) Tr.fail)) Tr.fail)) Tr.fail)))))
def e33 (r : Bool) : FRes := { rs := Slot.av (AV.one (Leaf.dat Kd.bool r)), upd := [], new := [] }
@[reducible] def a33 : List AK := [AK.d cmdk]
@[reducible] def b33 : List BK := []
theorem t33 (xa1 : Int) (xa2 : Int) (xa3 : Int) (xa4 : Bool) (xa5 : ByteArray) : evFn (Env.withFns E0 [((78 : Nat), w78), ((79 : Nat), w79), ((80 : Nat), w80)]) Tryd.f33 [PM.data Kd.bool] (akAV a33 ((xa1, xa2, xa3, xa4, xa5, ()), ())) (bkBs b33 ()) = (d33 xa1 xa2 xa3 xa4 xa5).map e33 := by kernel_rfl
def s33 (C : akT a33 → Bool) (G : akT a33 → Bool) : FSpec := aspec a33 b33 e33 (fun x _ => C x) (fun x _ => G x)
theorem k33 {C : akT a33 → Bool} {G : akT a33 → Bool} (hd : ∀ (xa1 : Int) (xa2 : Int) (xa3 : Int) (xa4 : Bool) (xa5 : ByteArray), C ((xa1, xa2, xa3, xa4, xa5, ()), ()) = true → (d33 xa1 xa2 xa3 xa4 xa5).val = some (G ((xa1, xa2, xa3, xa4, xa5, ()), ()))) (IO : ItOK Tryd.prog (Env.withFns E0 [((78 : Nat), w78), ((79 : Nat), w79), ((80 : Nat), w80)]) := by exact itOK_none rfl) (L : ∀ c, Tryd.f33.body = some c → LsOK (evI 2) ((Env.withFns E0 [((78 : Nat), w78), ((79 : Nat), w79), ((80 : Nat), w80)]).lend 0) c := by exact fun c _ => LsOK_none rfl c) : SpecOK Tryd.prog E0 33 (s33 C G) :=
  aspec_ok (ak := a33) (bl := b33) (e := e33) (c := fun x _ => C x) (g := fun x _ => G x) (E0 := E0) (E := Env.withFns E0 [((78 : Nat), w78), ((79 : Nat), w79), ((80 : Nat), w80)]) tab (.cons wk78 (.cons wk79 (.cons wk80 .nil))) rfl rfl hm Tryd.func33 (by kernel_rfl) [PM.data Kd.bool] (fun X Y H => by obtain ⟨⟨xa1, ⟨xa2, ⟨xa3, ⟨xa4, ⟨xa5, _⟩⟩⟩⟩⟩, _⟩ := X; exact val_of (t33 xa1 xa2 xa3 xa4 xa5) (hd xa1 xa2 xa3 xa4 xa5 H)) IO L
def d34 (xa1 : Int) (xa2 : Int) (xa3 : Int) (xa4 : Bool) (xa5 : ByteArray) : Tr (Bool) :=
 let v1 : Int := (List.getD hasL (Int.toNat xa1) (0 : Int))
 let v2 : Bool := (!decide (v1 = (2 : Int)))
 Tr.ite (decide (xa1 < (1 : Int))) (Tr.ret false) (Tr.ite (decide ((21 : Int) < xa1)) (Tr.ret false) (Tr.ite (!near xa2) (Tr.ret false) (Tr.ite (!near xa3) (Tr.ret false) (Tr.ite (decide ((64 : Int) < (↑(ByteArray.size xa5) : Int))) (Tr.ret false) (Tr.ite (decide (ByteArray.size xa5 ≤ (1048576 : Nat))) (Tr.ite (!Lib.validD (bl xa5)) (Tr.ret false) (Tr.ite (inB xa1 (22 : Nat)) (Tr.ite (!decide (v1 = (1 : Int))) (Tr.ite v2 (Tr.ite (!decide (xa2 = (0 : Int))) (Tr.ret false) (Tr.ite v2 (Tr.ite (!decide (xa3 = (0 : Int))) (Tr.ret false) (Tr.ite (decide (v1 = (3 : Int))) (Tr.ite (decide (v1 = (4 : Int))) (Tr.ret true) (Tr.ret (decide (xa5 = { data := #[] })))) (Tr.ite (!xa4) (Tr.ite (decide (v1 = (4 : Int))) (Tr.ret true) (Tr.ret (decide (xa5 = { data := #[] })))) (Tr.ret false)))) (Tr.ite (decide (v1 = (3 : Int))) (Tr.ite (decide (v1 = (4 : Int))) (Tr.ret true) (Tr.ret (decide (xa5 = { data := #[] })))) (Tr.ite (!xa4) (Tr.ite (decide (v1 = (4 : Int))) (Tr.ret true) (Tr.ret (decide (xa5 = { data := #[] })))) (Tr.ret false))))) (Tr.ite v2 (Tr.ite (!decide (xa3 = (0 : Int))) (Tr.ret false) (Tr.ite (decide (v1 = (3 : Int))) (Tr.ite (decide (v1 = (4 : Int))) (Tr.ret true) (Tr.ret (decide (xa5 = { data := #[] })))) (Tr.ite (!xa4) (Tr.ite (decide (v1 = (4 : Int))) (Tr.ret true) (Tr.ret (decide (xa5 = { data := #[] })))) (Tr.ret false)))) (Tr.ite (decide (v1 = (3 : Int))) (Tr.ite (decide (v1 = (4 : Int))) (Tr.ret true) (Tr.ret (decide (xa5 = { data := #[] })))) (Tr.ite (!xa4) (Tr.ite (decide (v1 = (4 : Int))) (Tr.ret true) (Tr.ret (decide (xa5 = { data := #[] })))) (Tr.ret false))))) (Tr.ite v2 (Tr.ite (!decide (xa3 = (0 : Int))) (Tr.ret false) (Tr.ite (decide (v1 = (3 : Int))) (Tr.ite (decide (v1 = (4 : Int))) (Tr.ret true) (Tr.ret (decide (xa5 = { data := #[] })))) (Tr.ite (!xa4) (Tr.ite (decide (v1 = (4 : Int))) (Tr.ret true) (Tr.ret (decide (xa5 = { data := #[] })))) (Tr.ret false)))) (Tr.ite (decide (v1 = (3 : Int))) (Tr.ite (decide (v1 = (4 : Int))) (Tr.ret true) (Tr.ret (decide (xa5 = { data := #[] })))) (Tr.ite (!xa4) (Tr.ite (decide (v1 = (4 : Int))) (Tr.ret true) (Tr.ret (decide (xa5 = { data := #[] })))) (Tr.ret false))))) Tr.fail)) Tr.fail)))))
def e34 (r : Bool) : FRes := { rs := Slot.av (AV.one (Leaf.dat Kd.bool r)), upd := [], new := [] }
@[reducible] def a34 : List AK := [AK.d cmdk]
@[reducible] def b34 : List BK := []
theorem t34 (xa1 : Int) (xa2 : Int) (xa3 : Int) (xa4 : Bool) (xa5 : ByteArray) : evFn (Env.withFns E0 [((82 : Nat), w82), ((83 : Nat), w83), ((73 : Nat), w73)]) Tryd.f34 [PM.data Kd.bool] (akAV a34 ((xa1, xa2, xa3, xa4, xa5, ()), ())) (bkBs b34 ()) = (d34 xa1 xa2 xa3 xa4 xa5).map e34 := by kernel_rfl
def s34 (C : akT a34 → Bool) (G : akT a34 → Bool) : FSpec := aspec a34 b34 e34 (fun x _ => C x) (fun x _ => G x)
theorem k34 {C : akT a34 → Bool} {G : akT a34 → Bool} (hd : ∀ (xa1 : Int) (xa2 : Int) (xa3 : Int) (xa4 : Bool) (xa5 : ByteArray), C ((xa1, xa2, xa3, xa4, xa5, ()), ()) = true → (d34 xa1 xa2 xa3 xa4 xa5).val = some (G ((xa1, xa2, xa3, xa4, xa5, ()), ()))) (IO : ItOK Tryd.prog (Env.withFns E0 [((82 : Nat), w82), ((83 : Nat), w83), ((73 : Nat), w73)]) := by exact itOK_none rfl) (L : ∀ c, Tryd.f34.body = some c → LsOK (evI 2) ((Env.withFns E0 [((82 : Nat), w82), ((83 : Nat), w83), ((73 : Nat), w73)]).lend 0) c := by exact fun c _ => LsOK_none rfl c) : SpecOK Tryd.prog E0 34 (s34 C G) :=
  aspec_ok (ak := a34) (bl := b34) (e := e34) (c := fun x _ => C x) (g := fun x _ => G x) (E0 := E0) (E := Env.withFns E0 [((82 : Nat), w82), ((83 : Nat), w83), ((73 : Nat), w73)]) tab (.cons wk82 (.cons wk83 (.cons wk73 .nil))) rfl rfl hm Tryd.func34 (by kernel_rfl) [PM.data Kd.bool] (fun X Y H => by obtain ⟨⟨xa1, ⟨xa2, ⟨xa3, ⟨xa4, ⟨xa5, _⟩⟩⟩⟩⟩, _⟩ := X; exact val_of (t34 xa1 xa2 xa3 xa4 xa5) (hd xa1 xa2 xa3 xa4 xa5 H)) IO L
def d36 (xa1 : Int) (xa2 : Int) (xa3 : Int) (xa4 : Bool) (xa5 : ByteArray) : Tr (ByteArray) :=
 let v1 : Bool := (inB xa1 (22 : Nat))
 let v2 : Int := (List.getD hasL (Int.toNat xa1) (0 : Int))
 let v3 : ByteArray := ((List.getD U.wordsL (Int.toNat xa1) ({ data := #[] }, { data := #[] }, ())).fst)
 let v4 : ByteArray := (v3 ++ { data := #[OfNat.ofNat (32 : Nat)] })
 let v5 : ByteArray := (v4 ++ itoaB xa2)
 let v6 : Bool := (decide ((-9223372036854775808 : Int) ≤ xa2 ∧ xa2 ≤ (9223372036854775807 : Int)))
 let v7 : ByteArray := (v5 ++ { data := #[OfNat.ofNat (32 : Nat)] })
 let v8 : Bool := (decide (ByteArray.size v3 + (1 : Nat) ≤ (9223372036854775807 : Nat)))
 let v9 : Bool := (decide (ByteArray.size v4 + ByteArray.size (itoaB xa2) ≤ (9223372036854775807 : Nat)))
 Tr.ite v1 (Tr.ite v1 (Tr.ite (decide (v2 = (1 : Int))) (Tr.ite v8 (Tr.ite v6 (Tr.ite v9 (Tr.ret v5) Tr.fail) Tr.fail) Tr.fail) (Tr.ite (decide (v2 = (2 : Int))) (Tr.ite v8 (Tr.ite v6 (Tr.ite v9 (Tr.ite (decide (ByteArray.size v5 + (1 : Nat) ≤ (9223372036854775807 : Nat))) (Tr.ite (decide ((-9223372036854775808 : Int) ≤ xa3 ∧ xa3 ≤ (9223372036854775807 : Int))) (Tr.ite (decide (ByteArray.size v7 + ByteArray.size (itoaB xa3) ≤ (9223372036854775807 : Nat))) (Tr.ret (v7 ++ itoaB xa3)) Tr.fail) Tr.fail) Tr.fail) Tr.fail) Tr.fail) Tr.fail) (Tr.ite (decide (v2 = (3 : Int))) (Tr.ite xa4 (Tr.ite (decide (ByteArray.size v3 + (3 : Nat) ≤ (9223372036854775807 : Nat))) (Tr.ret (v3 ++ { data := #[OfNat.ofNat (32 : Nat), OfNat.ofNat (111 : Nat), OfNat.ofNat (110 : Nat)] })) Tr.fail) (Tr.ite (decide (ByteArray.size v3 + (4 : Nat) ≤ (9223372036854775807 : Nat))) (Tr.ret (v3 ++ { data := #[OfNat.ofNat (32 : Nat), OfNat.ofNat (111 : Nat), OfNat.ofNat (102 : Nat), OfNat.ofNat (102 : Nat)] })) Tr.fail)) (Tr.ite (decide (v2 = (4 : Int))) (Tr.ite v8 (Tr.ite (decide (ByteArray.size xa5 ≤ (1048576 : Nat))) (Tr.ite (decide (ByteArray.size v4 + ByteArray.size (quoB xa5) ≤ (9223372036854775807 : Nat))) (Tr.ret (v4 ++ quoB xa5)) Tr.fail) Tr.fail) Tr.fail) (Tr.ret v3))))) Tr.fail) Tr.fail
def e36 (r : ByteArray) : FRes := { rs := Slot.av (AV.one (Leaf.dat Kd.str r)), upd := [], new := [] }
@[reducible] def a36 : List AK := [AK.d cmdk]
@[reducible] def b36 : List BK := []
theorem t36 (xa1 : Int) (xa2 : Int) (xa3 : Int) (xa4 : Bool) (xa5 : ByteArray) : evFn (Env.withFns E0 [((72 : Nat), w72), ((73 : Nat), w73), ((51 : Nat), itoaS), ((85 : Nat), w85)]) Tryd.f36 [PM.data Kd.str] (akAV a36 ((xa1, xa2, xa3, xa4, xa5, ()), ())) (bkBs b36 ()) = (d36 xa1 xa2 xa3 xa4 xa5).map e36 := by kernel_rfl
def s36 (C : akT a36 → Bool) (G : akT a36 → ByteArray) : FSpec := aspec a36 b36 e36 (fun x _ => C x) (fun x _ => G x)
theorem k36 {C : akT a36 → Bool} {G : akT a36 → ByteArray} (hd : ∀ (xa1 : Int) (xa2 : Int) (xa3 : Int) (xa4 : Bool) (xa5 : ByteArray), C ((xa1, xa2, xa3, xa4, xa5, ()), ()) = true → (d36 xa1 xa2 xa3 xa4 xa5).val = some (G ((xa1, xa2, xa3, xa4, xa5, ()), ()))) (IO : ItOK Tryd.prog (Env.withFns E0 [((72 : Nat), w72), ((73 : Nat), w73), ((51 : Nat), itoaS), ((85 : Nat), w85)]) := by exact itOK_none rfl) (L : ∀ c, Tryd.f36.body = some c → LsOK (evI 2) ((Env.withFns E0 [((72 : Nat), w72), ((73 : Nat), w73), ((51 : Nat), itoaS), ((85 : Nat), w85)]).lend 0) c := by exact fun c _ => LsOK_none rfl c) : SpecOK Tryd.prog E0 36 (s36 C G) :=
  aspec_ok (ak := a36) (bl := b36) (e := e36) (c := fun x _ => C x) (g := fun x _ => G x) (E0 := E0) (E := Env.withFns E0 [((72 : Nat), w72), ((73 : Nat), w73), ((51 : Nat), itoaS), ((85 : Nat), w85)]) tab (.cons wk72 (.cons wk73 (.cons wk51 (.cons wk85 .nil)))) rfl rfl hm Tryd.func36 (by kernel_rfl) [PM.data Kd.str] (fun X Y H => by obtain ⟨⟨xa1, ⟨xa2, ⟨xa3, ⟨xa4, ⟨xa5, _⟩⟩⟩⟩⟩, _⟩ := X; exact val_of (t36 xa1 xa2 xa3 xa4 xa5) (hd xa1 xa2 xa3 xa4 xa5 H)) IO L
def hOf (op : Int) : Int := hasL.getD (Int.toNat op) 0
def rightV (op a b : Int) (on : Bool) (t : ByteArray) : Bool :=
  !decide (op < 1) && (!decide (22 ≤ op) && (near a && (near b && (!decide ((64 : Int) < (t.size : Int)) && (Lib.validD (bl t) &&
    ((decide (hOf op = 1) || (decide (hOf op = 2) || decide (a = 0))) && ((decide (hOf op = 2) || decide (b = 0)) && ((decide (hOf op = 3) || !on) && (decide (hOf op = 4) || decide (t = ⟨#[]⟩))))))))))
theorem has_ops : ∀ n : Fin 22, hasB (rget wordk U.wordsL (n.val : Int)).2.1 (b0 ⟨#[65]⟩) = (decide (hOf n.val = 1) || decide (hOf n.val = 2)) ∧ hasB (rget wordk U.wordsL (n.val : Int)).2.1 (b0 ⟨#[66]⟩) = decide (hOf n.val = 2) ∧
    hasB (rget wordk U.wordsL (n.val : Int)).2.1 (b0 ⟨#[111]⟩) = decide (hOf n.val = 3) ∧ hasB (rget wordk U.wordsL (n.val : Int)).2.1 (b0 ⟨#[116]⟩) = decide (hOf n.val = 4) := by decide +kernel
theorem has_op {op : Int} (h : inB op 22 = true) : hasB (rget wordk U.wordsL op).2.1 (b0 ⟨#[65]⟩) = (decide (hOf op = 1) || decide (hOf op = 2)) ∧ hasB (rget wordk U.wordsL op).2.1 (b0 ⟨#[66]⟩) = decide (hOf op = 2) ∧
    hasB (rget wordk U.wordsL op).2.1 (b0 ⟨#[111]⟩) = decide (hOf op = 3) ∧ hasB (rget wordk U.wordsL op).2.1 (b0 ⟨#[116]⟩) = decide (hOf op = 4) := by
  obtain ⟨n, rfl⟩ := Int.eq_ofNat_of_zero_le (inB_iff.1 h).1
  have hn : n < 22 := Int.ofNat_lt.1 (inB_iff.1 h).2
  exact has_ops ⟨n, hn⟩
abbrev w33 : FSpec := s33 (fun x => decide (ByteArray.size x.1.2.2.2.2.1 ≤ 1048576)) fun x => rightV x.1.1 x.1.2.1 x.1.2.2.1 x.1.2.2.2.1 x.1.2.2.2.2.1
theorem wk33 : SpecOK Tryd.prog E0 33 w33 := k33 fun op a b on t H => by
  have H : t.size ≤ 1048576 := of_decide_eq_true H
  show _ = some (rightV op a b on t)
  unfold rightV
  by_cases c1 : op < 1
  · simp only [d33, Tr.val, c1, decide_true, cond_true, Bool.not_true, Bool.false_and]
  by_cases c2 : 22 ≤ op
  · simp only [d33, Tr.val, c1, c2, decide_true, decide_false, cond_true, cond_false, Bool.not_true, Bool.not_false, Bool.false_and, Bool.true_and]
  have hi : inB op 22 = true := inB_iff.2 ⟨by omega, by omega⟩
  obtain ⟨h1, h2, h3, h4⟩ := has_op hi
  have h1 : hasB (rget wordk U.wordsL op).2.1 (b0 { data := #[OfNat.ofNat (65 : Nat)] }) = _ := h1
  have h2 : hasB (rget wordk U.wordsL op).2.1 (b0 { data := #[OfNat.ofNat (66 : Nat)] }) = _ := h2
  have h3 : hasB (rget wordk U.wordsL op).2.1 (b0 { data := #[OfNat.ofNat (111 : Nat)] }) = _ := h3
  have h4 : hasB (rget wordk U.wordsL op).2.1 (b0 { data := #[OfNat.ofNat (116 : Nat)] }) = _ := h4
  simp only [d33, Tr.val, c1, c2, hi, H, h1, h2, h3, h4, decide_true, decide_false, cond_true, cond_false, Bool.not_true, Bool.not_false, Bool.false_and, Bool.true_and, Bool.not_not]
  show _ = some (near a && (near b && (!decide ((64 : Int) < (t.size : Int)) && (Lib.validD t.data.toList && _))))
  cases near a <;> cases near b <;> cases decide ((64 : Int) < (t.size : Int)) <;> cases Lib.validD t.data.toList <;> cases decide (hOf op = 1) <;> cases decide (hOf op = 2) <;> cases decide (a = 0) <;> cases decide (b = 0) <;> first | rfl |
    (cases decide (hOf op = 3) <;> cases on <;> cases decide (hOf op = 4) <;> cases decide (t = ⟨#[]⟩) <;> rfl)
abbrev w34 : FSpec := s34 (fun x => decide (ByteArray.size x.1.2.2.2.2.1 ≤ 1048576)) fun x => rightV x.1.1 x.1.2.1 x.1.2.2.1 x.1.2.2.2.1 x.1.2.2.2.2.1
theorem wk34 : SpecOK Tryd.prog E0 34 w34 := k34 fun op a b on t H => by
  have H : t.size ≤ 1048576 := of_decide_eq_true H
  show _ = some (rightV op a b on t)
  unfold rightV
  by_cases c1 : op < 1
  · simp only [d34, Tr.val, c1, decide_true, cond_true, Bool.not_true, Bool.false_and]
  by_cases c2 : 22 ≤ op
  · simp only [d34, Tr.val, c1, c2, show (21 : Int) < op by omega, decide_true, decide_false, cond_true, cond_false, Bool.not_true, Bool.not_false, Bool.false_and, Bool.true_and]
  have hi : inB op 22 = true := inB_iff.2 ⟨by omega, by omega⟩
  have hh : hasL.getD op.toNat 0 = hOf op := rfl
  simp only [d34, Tr.val, c1, c2, show ¬ ((21 : Int) < op) by omega, hi, H, hh, decide_true, decide_false, cond_true, cond_false, Bool.not_true, Bool.not_false, Bool.false_and, Bool.true_and, Bool.not_not]
  cases near a <;> cases near b <;> cases decide ((64 : Int) < (t.size : Int)) <;> cases Lib.validD (bl t) <;> cases decide (hOf op = 1) <;> cases decide (hOf op = 2) <;> cases decide (a = 0) <;> cases decide (b = 0) <;> first | rfl |
    (cases decide (hOf op = 3) <;> cases on <;> cases decide (hOf op = 4) <;> cases decide (t = ({ data := #[] } : ByteArray)) <;> rfl)
def wordOf (op : Int) : ByteArray := (U.wordsL.getD (Int.toNat op) (⟨#[]⟩, ⟨#[]⟩, ())).1
def sp : ByteArray := ⟨#[32]⟩
def textV (op a b : Int) (on : Bool) (t : ByteArray) : ByteArray :=
  bif decide (hOf op = 1) then wordOf op ++ sp ++ itoaB a else bif decide (hOf op = 2) then wordOf op ++ sp ++ itoaB a ++ sp ++ itoaB b else bif decide (hOf op = 3) then wordOf op ++ sp ++ truth on else
  bif decide (hOf op = 4) then wordOf op ++ sp ++ quoB t else wordOf op
theorem word_le : ∀ n : Fin 22, (wordOf (n.val : Int)).size ≤ 6 := by decide +kernel
theorem word_len {op : Int} (h : inB op 22 = true) : (wordOf op).size ≤ 6 := by
  obtain ⟨n, rfl⟩ := Int.eq_ofNat_of_zero_le (inB_iff.1 h).1
  exact word_le ⟨n, Int.ofNat_lt.1 (inB_iff.1 h).2⟩
theorem near_iff {n : Int} : near n = true ↔ -1000 ≤ n ∧ n ≤ 1000 := by unfold near; rw [Bool.and_eq_true, decide_eq_true_eq, decide_eq_true_eq]
theorem itoa_near : ∀ n : Fin 2001, (itoaB ((n.val : Int) - 1000)).size ≤ 5 := by decide +kernel
theorem itoa_le {n : Int} (h : near n = true) : (itoaB n).size ≤ 5 := by
  obtain ⟨h1, h2⟩ := near_iff.1 h
  have := itoa_near ⟨(n + 1000).toNat, by omega⟩
  rw [show (((n + 1000).toNat : Nat) : Int) - 1000 = n by omega] at this
  exact this
theorem quo_le (t : ByteArray) : (quoB t).size ≤ 2 * t.size + 2 := by
  have h1 := escL_len (bytesL t)
  have h2 := bytesL_size t
  have : (quoB t).size = (quoI (bytesL t)).length := by
    unfold quoB strOf
    show (List.map _ _).toArray.size = _
    simp
  rw [this]
  unfold quoI
  simp
  omega
abbrev w36 : FSpec := s36 (fun x => inB (x.1.1 : Int) 22 && (near x.1.2.1 && (near x.1.2.2.1 && decide (ByteArray.size x.1.2.2.2.2.1 ≤ 1048576)))) fun x => textV x.1.1 x.1.2.1 x.1.2.2.1 x.1.2.2.2.1 x.1.2.2.2.2.1
theorem wk36 : SpecOK Tryd.prog E0 36 w36 := k36 fun op a b on t H => by
  have H : (inB op 22 && (near a && (near b && decide (t.size ≤ 1048576)))) = true := H
  simp only [Bool.and_eq_true, decide_eq_true_eq] at H
  obtain ⟨hi, ha, hb, ht⟩ := H
  have la := itoa_le ha
  have lb := itoa_le hb
  have lw := word_len hi
  have lq := quo_le t
  have na := near_iff.1 ha
  have nb := near_iff.1 hb
  have hh : hasL.getD op.toNat 0 = hOf op := rfl
  have hw : (U.wordsL.getD op.toNat (({ data := #[] } : ByteArray), ({ data := #[] } : ByteArray), ())).1 = wordOf op := rfl
  have hs : ({ data := #[OfNat.ofNat (32 : Nat)] } : ByteArray) = sp := rfl
  have z : sp.size = 1 := rfl
  show _ = some (textV op a b on t)
  have r1 : decide (-9223372036854775808 ≤ a ∧ a ≤ (9223372036854775807 : Int)) = true := decide_eq_true (by omega)
  have r2 : decide (-9223372036854775808 ≤ b ∧ b ≤ (9223372036854775807 : Int)) = true := decide_eq_true (by omega)
  have q1 : decide ((wordOf op).size + 1 ≤ 9223372036854775807) = true := decide_eq_true (by omega)
  have q2 : decide ((wordOf op ++ sp).size + (itoaB a).size ≤ 9223372036854775807) = true := decide_eq_true (by rw [ByteArray.size_append]; omega)
  have q3 : decide ((wordOf op ++ sp ++ itoaB a).size + 1 ≤ 9223372036854775807) = true := decide_eq_true (by rw [ByteArray.size_append, ByteArray.size_append]; omega)
  have q4 : decide ((wordOf op ++ sp ++ itoaB a ++ sp).size + (itoaB b).size ≤ 9223372036854775807) = true := decide_eq_true (by rw [ByteArray.size_append, ByteArray.size_append, ByteArray.size_append]; omega)
  have q5 : decide ((wordOf op).size + 3 ≤ 9223372036854775807) = true := decide_eq_true (by omega)
  have q6 : decide ((wordOf op).size + 4 ≤ 9223372036854775807) = true := decide_eq_true (by omega)
  have q7 : decide ((wordOf op ++ sp).size + (quoB t).size ≤ 9223372036854775807) = true := decide_eq_true (by rw [ByteArray.size_append]; omega)
  unfold textV
  simp only [d36, Tr.val, hi, hh, hw, hs, r1, r2, q1, q2, q3, q4, q5, q6, q7, ht, decide_true, cond_true]
  have t1 : wordOf op ++ sp ++ truth true = wordOf op ++ ({ data := #[OfNat.ofNat (32 : Nat), OfNat.ofNat (111 : Nat), OfNat.ofNat (110 : Nat)] } : ByteArray) := by rw [ByteArray.append_assoc]; rfl
  have t2 : wordOf op ++ sp ++ truth false = wordOf op ++ ({ data := #[OfNat.ofNat (32 : Nat), OfNat.ofNat (111 : Nat), OfNat.ofNat (102 : Nat), OfNat.ofNat (102 : Nat)] } : ByteArray) := by rw [ByteArray.append_assoc]; rfl
  cases decide (hOf op = 1) <;> cases decide (hOf op = 2) <;> cases decide (hOf op = 3) <;> cases decide (hOf op = 4) <;> first | rfl | (cases on <;> simp only [cond_true, cond_false, t1, t2])
def partV (a b : Int) (on : Bool) (t : ByteArray) (k : Int) : List ByteArray :=
  bif decide (k = 65) then [itoaB a] else bif decide (k = 66) then [itoaB b] else bif decide (k = 111) then [truth on] else bif decide (k = 116) then [quoB t] else []
def partsV (a b : Int) (on : Bool) (t : ByteArray) (s : ByteArray) : List ByteArray := (bytesL s).flatMap (partV a b on t)
def isHas (s : ByteArray) : Bool := decide (s = ⟨#[]⟩) || (decide (s = ⟨#[65]⟩) || (decide (s = ⟨#[65, 66]⟩) || (decide (s = ⟨#[111]⟩) || decide (s = ⟨#[116]⟩))))
theorem isHas_ops : ∀ n : Fin 22, isHas (rget wordk U.wordsL (n.val : Int)).2.1 = true := by decide +kernel
abbrev G31 : List (Nat × FSpec) := [(33, w33), (51, itoaS), (75, w75), (76, w76), (77, w77)]
theorem AG31 : AllFn Tryd.prog E0 G31 := .cons wk33 (.cons wk51 (.cons wk75 (.cons wk76 (.cons wk77 .nil))))
def live31 (key : Nat) : Lv :=
  bif Nat.beq key 6 then { ls := [1, 5, 20] } else bif Nat.beq key 1006 then { ls := [5] } else
  { ls := [] }
abbrev M31 (ls : Nat → VS → Option (Tr (Ex × VS))) : Env := (E0.withFns G31).loops live31 ls
@[reducible] def p31_0 : LP := { n := 59, sl := [.c (Leaf.ptr ( 0) ( 0)), .c (Leaf.row ( 1)), .c (Leaf.ptr ( 2) ( 0))], bl := [(0, .box [.d (.int .i64), .d (.int .i64), .d (.int .i64), .d (Kd.bool), .d (Kd.str)]), (1, .row 9 (Kd.str)), (2, .sit)] }
def B31_0 (h0_0 : Int) (h0_1 : Int) (h0_2 : Int) (h0_3 : Bool) (h0_4 : ByteArray) (h1 : List ByteArray) (h2_s : ByteArray) (h2_p : Int) : Tr (p31_0.T ⊕ (List ByteArray)) :=
 let v1 : Bool := (decide (h2_p < (↑(ByteArray.size h2_s) : Int)))
 let v2 : Bool := (decide ((List.length h1 + (1 : Nat)) * (16 : Nat) ≤ (140737488355328 : Nat)))
 Tr.ite v1 (Tr.ite v1 (Tr.ite (decide (rnAt h2_s h2_p = (65 : Int))) (Tr.ite (decide ((-9223372036854775808 : Int) ≤ h0_1 ∧ h0_1 ≤ (9223372036854775807 : Int))) (Tr.ite v2 (Tr.ret (Sum.inl ((), (h0_0, h0_1, h0_2, h0_3, h0_4, ()), h1 ++ [itoaB h0_1], (h2_s, nxtP h2_s h2_p, ()), ()))) Tr.fail) Tr.fail) (Tr.ite (decide (rnAt h2_s h2_p = (66 : Int))) (Tr.ite (decide ((-9223372036854775808 : Int) ≤ h0_2 ∧ h0_2 ≤ (9223372036854775807 : Int))) (Tr.ite v2 (Tr.ret (Sum.inl ((), (h0_0, h0_1, h0_2, h0_3, h0_4, ()), h1 ++ [itoaB h0_2], (h2_s, nxtP h2_s h2_p, ()), ()))) Tr.fail) Tr.fail) (Tr.ite (decide (rnAt h2_s h2_p = (111 : Int))) (Tr.ite v2 (Tr.ret (Sum.inl ((), (h0_0, h0_1, h0_2, h0_3, h0_4, ()), h1 ++ [truth h0_3], (h2_s, nxtP h2_s h2_p, ()), ()))) Tr.fail) (Tr.ite (decide (rnAt h2_s h2_p = (116 : Int))) (Tr.ite (decide (ByteArray.size h0_4 ≤ (1048576 : Nat))) (Tr.ite v2 (Tr.ret (Sum.inl ((), (h0_0, h0_1, h0_2, h0_3, h0_4, ()), h1 ++ [quoB h0_4], (h2_s, nxtP h2_s h2_p, ()), ()))) Tr.fail) Tr.fail) (Tr.ret (Sum.inl ((), (h0_0, h0_1, h0_2, h0_3, h0_4, ()), h1, (h2_s, nxtP h2_s h2_p, ()), ()))))))) Tr.fail) (Tr.ret (Sum.inr h1))
def X31_0 (r : (List ByteArray)) : Ex × VS := Prod.mk (Ex.exit ( 0)) { n := 59, v := [Slot.av (AV.one (Leaf.row ( 0)))], h := [( 0, Blk.row ( 9) Kd.str r)] }
def b31_0 : p31_0.T → Tr (p31_0.T ⊕ (List ByteArray)) := fun ⟨_, ⟨⟨h0_0, ⟨h0_1, ⟨h0_2, ⟨h0_3, ⟨h0_4, _⟩⟩⟩⟩⟩, ⟨h1, ⟨⟨h2_s, ⟨h2_p, _⟩⟩, _⟩⟩⟩⟩ => B31_0 h0_0 h0_1 h0_2 h0_3 h0_4 h1 h2_s h2_p
theorem h31_0 (ls : Nat → VS → Option (Tr (Ex × VS))) (x : p31_0.T) : (evC (evI 2) (lc Tryd.f31 0) (Env.lend (M31 ls) 0) (unV (live31 6) (p31_0.V x))).map (decL 0 (live31 6) (live31 1006)) = (b31_0 x).map (encR p31_0.V X31_0) := by
  obtain ⟨_, ⟨⟨h0_0, ⟨h0_1, ⟨h0_2, ⟨h0_3, ⟨h0_4, _⟩⟩⟩⟩⟩, ⟨h1, ⟨⟨h2_s, ⟨h2_p, _⟩⟩, _⟩⟩⟩⟩ := x; kernel_rfl
theorem c31_0 (x : p31_0.T) : canV 0 (live31 6) (unV (live31 6) (p31_0.V x)) = p31_0.V x := by
  obtain ⟨_, ⟨⟨h0_0, ⟨h0_1, ⟨h0_2, ⟨h0_3, ⟨h0_4, _⟩⟩⟩⟩⟩, ⟨h1, ⟨⟨h2_s, ⟨h2_p, _⟩⟩, _⟩⟩⟩⟩ := x; kernel_rfl
theorem l31_0 {T : p31_0.T → Tr (List ByteArray)} {ls : Nat → VS → Option (Tr (Ex × VS))} (hls : ∀ x, (Env.lend (M31 ls) 0).ls 6 x = p31_0.ls (fun a => (T a).map X31_0) x) (hS : ∀ x r, (T x).val = some r → Rounds b31_0 x r) : LoopOK (evI 2) (Env.lend (M31 ls) 0) (lc Tryd.f31 0) :=
  loopA 6 (live31 6) (live31 1006) p31_0 b31_0 X31_0 T (by kernel_rfl) rfl rfl hls (h31_0 ls) c31_0 hS
def T31 (x : p31_0.T) : Tr (List ByteArray) :=
  match x with
  | ⟨_, ⟨op, a, b, on, t, _⟩, out, ⟨s, p, _⟩, _⟩ => .ite (decide ((p : Int) = 0) && (isHas s && (near a && (near b && decide (ByteArray.size t ≤ 1048576 ∧ List.length (α := ByteArray) out ≤ 1)))))
    (.ret (List.append (α := ByteArray) out (partsV a b on t s))) .fail
abbrev E31 : Env := M31 fun key x => bif Nat.beq key 6 then p31_0.ls (fun a => (T31 a).map X31_0) x else none
theorem L31 : LoopOK (evI 2) (E31.lend 0) (lc Tryd.f31 0) := by
  refine l31_0 (T := T31) (fun x => rfl) ?_
  rintro ⟨z0, ⟨op, a, b, on, t, z1⟩, out, ⟨s, p, z2⟩, z3⟩ r h
  obtain ⟨g1, g2⟩ := pre_val h
  simp only [Bool.and_eq_true, decide_eq_true_eq] at g1
  obtain ⟨e1, e2, ha, hb, ht, ho⟩ := g1
  have rng : ∀ x : Int, near x = true → decide (-9223372036854775808 ≤ x ∧ x ≤ 9223372036854775807) = true := fun x h => decide_eq_true (by have := near_iff.1 h; omega)
  subst e1
  cases g2
  have r1 := rng a ha
  have r2 := rng b hb
  have q1 : decide ((out.length + 1) * 16 ≤ 140737488355328) = true := decide_eq_true (by omega)
  have q2 : decide (((out ++ [itoaB a]).length + 1) * 16 ≤ 140737488355328) = true := decide_eq_true (by rw [List.length_append]; show (out.length + 1 + 1) * 16 ≤ _; omega)
  unfold isHas at e2
  simp only [Bool.or_eq_true, decide_eq_true_eq] at e2
  rcases e2 with rfl | rfl | rfl | rfl | rfl
  · refine .exit ?_
    show some _ = some (Sum.inr (out ++ []))
    rw [List.append_nil]
  · refine .step (y := (z0, (op, a, b, on, t, ()), out ++ [itoaB a], (⟨#[65]⟩, 1, ()), ())) ?_ (.exit rfl)
    have k1 : rnAt ⟨#[65]⟩ 0 = 65 := by decide +kernel
    have k2 : nxtP ⟨#[65]⟩ 0 = 1 := by decide +kernel
    have k3 : decide ((0 : Int) < ((⟨#[65]⟩ : ByteArray).size : Int)) = true := rfl
    simp only [b31_0, B31_0, Tr.val, k1, k2, k3, r1, q1, decide_true, cond_true]
  · refine .step (y := (z0, (op, a, b, on, t, ()), out ++ [itoaB a], (⟨#[65, 66]⟩, 1, ()), ())) ?_ (.step (y := (z0, (op, a, b, on, t, ()), out ++ [itoaB a] ++ [itoaB b], (⟨#[65, 66]⟩, 2, ()), ())) ?_ (.exit ?_))
    · have k1 : rnAt ⟨#[65, 66]⟩ 0 = 65 := by decide +kernel
      have k2 : nxtP ⟨#[65, 66]⟩ 0 = 1 := by decide +kernel
      have k3 : decide ((0 : Int) < ((⟨#[65, 66]⟩ : ByteArray).size : Int)) = true := rfl
      simp only [b31_0, B31_0, Tr.val, k1, k2, k3, r1, q1, decide_true, cond_true]
    · have k1 : rnAt ⟨#[65, 66]⟩ 1 = 66 := by decide +kernel
      have k2 : nxtP ⟨#[65, 66]⟩ 1 = 2 := by decide +kernel
      have k3 : decide ((1 : Int) < ((⟨#[65, 66]⟩ : ByteArray).size : Int)) = true := rfl
      simp only [b31_0, B31_0, Tr.val, k1, k2, k3, r2, q2, show ¬ ((66 : Int) = 65) by decide, decide_true, decide_false, cond_true, cond_false]
    · show some (Sum.inr _) = some (Sum.inr (out ++ ([itoaB a] ++ [itoaB b])))
      rw [← List.append_assoc]
  · refine .step (y := (z0, (op, a, b, on, t, ()), out ++ [truth on], (⟨#[111]⟩, 1, ()), ())) ?_ (.exit rfl)
    have k1 : rnAt ⟨#[111]⟩ 0 = 111 := by decide +kernel
    have k2 : nxtP ⟨#[111]⟩ 0 = 1 := by decide +kernel
    have k3 : decide ((0 : Int) < ((⟨#[111]⟩ : ByteArray).size : Int)) = true := rfl
    simp only [b31_0, B31_0, Tr.val, k1, k2, k3, q1, show ¬ ((111 : Int) = 65) by decide, show ¬ ((111 : Int) = 66) by decide, decide_true, decide_false, cond_true, cond_false]
  · refine .step (y := (z0, (op, a, b, on, t, ()), out ++ [quoB t], (⟨#[116]⟩, 1, ()), ())) ?_ (.exit rfl)
    have k1 : rnAt ⟨#[116]⟩ 0 = 116 := by decide +kernel
    have k2 : nxtP ⟨#[116]⟩ 0 = 1 := by decide +kernel
    have k3 : decide ((0 : Int) < ((⟨#[116]⟩ : ByteArray).size : Int)) = true := rfl
    simp only [b31_0, B31_0, Tr.val, k1, k2, k3, q1, ht, show ¬ ((116 : Int) = 65) by decide, show ¬ ((116 : Int) = 66) by decide, show ¬ ((116 : Int) = 111) by decide, decide_true, decide_false, cond_true, cond_false]
def d31 (xa1 : Int) (xa2 : Int) (xa3 : Int) (xa4 : Bool) (xa5 : ByteArray) : Tr (ByteArray × Int) :=
 let v1 : List ByteArray := (List.append [(rget wordk U.wordsL xa1).fst] (partsV xa2 xa3 xa4 xa5 (rget wordk U.wordsL xa1).snd.fst))
 Tr.ite (decide (ByteArray.size xa5 ≤ (1048576 : Nat))) (Tr.ite (!rightV xa1 xa2 xa3 xa4 xa5) (Tr.ret ({ data := #[] }, (1 : Int))) (Tr.ite (inB xa1 (22 : Nat)) (Tr.ite (true && (isHas (rget wordk U.wordsL xa1).snd.fst && (near xa2 && (near xa3 && decide (ByteArray.size xa5 ≤ (1048576 : Nat) ∧ (1 : Nat) ≤ (1 : Nat)))))) (Tr.ite (decide ((1 : Nat) ≤ (1 : Nat) ∧ (1 : Nat) ≤ (1048576 : Nat) ∧ List.length v1 ≤ (1048576 : Nat) ∧ U.sumS v1 + List.length v1 * (1 : Nat) ≤ (140737488355328 : Nat))) (Tr.ret (strOf (U.joinI { data := #[OfNat.ofNat (32 : Nat)] } v1), (0 : Int))) Tr.fail) Tr.fail) Tr.fail)) Tr.fail
def e31 (r : ByteArray × Int) : FRes := { rs := Slot.tup [AV.one (Leaf.dat Kd.str r.fst), AV.one (Leaf.dat (.int .i64) r.snd)], upd := [], new := [] }
@[reducible] def a31 : List AK := [AK.d cmdk]
@[reducible] def b31 : List BK := []
theorem t31 (xa1 : Int) (xa2 : Int) (xa3 : Int) (xa4 : Bool) (xa5 : ByteArray) : evFn (E31) Tryd.f31 [PM.data Kd.str, PM.data (.int .i64)] (akAV a31 ((xa1, xa2, xa3, xa4, xa5, ()), ())) (bkBs b31 ()) = (d31 xa1 xa2 xa3 xa4 xa5).map e31 := by kernel_rfl
def s31 (C : akT a31 → Bool) (G : akT a31 → ByteArray × Int) : FSpec := aspec a31 b31 e31 (fun x _ => C x) (fun x _ => G x)
theorem k31 {C : akT a31 → Bool} {G : akT a31 → ByteArray × Int} (hd : ∀ (xa1 : Int) (xa2 : Int) (xa3 : Int) (xa4 : Bool) (xa5 : ByteArray), C ((xa1, xa2, xa3, xa4, xa5, ()), ()) = true → (d31 xa1 xa2 xa3 xa4 xa5).val = some (G ((xa1, xa2, xa3, xa4, xa5, ()), ()))) (IO : ItOK Tryd.prog (E31) := by exact itOK_none rfl) (L : ∀ c, Tryd.f31.body = some c → LsOK (evI 2) ((E31).lend 0) c := by exact fun c _ => LsOK_none rfl c) : SpecOK Tryd.prog E0 31 (s31 C G) :=
  aspec_ok (ak := a31) (bl := b31) (e := e31) (c := fun x _ => C x) (g := fun x _ => G x) (E0 := E0) (E := E31) tab AG31 rfl rfl hm Tryd.func31 (by kernel_rfl) [PM.data Kd.str, PM.data (.int .i64)] (fun X Y H => by obtain ⟨⟨xa1, ⟨xa2, ⟨xa3, ⟨xa4, ⟨xa5, _⟩⟩⟩⟩⟩, _⟩ := X; exact val_of (t31 xa1 xa2 xa3 xa4 xa5) (hd xa1 xa2 xa3 xa4 xa5 H)) IO L
theorem right_iff {op a b : Int} {on : Bool} {t : ByteArray} (h : rightV op a b on t = true) : inB op 22 = true ∧ 1 ≤ op ∧ near a = true ∧ near b = true ∧ t.size ≤ 64 ∧ Lib.validD (bl t) = true := by
  unfold rightV at h
  rw [Bool.and_eq_true, Bool.and_eq_true, Bool.and_eq_true, Bool.and_eq_true, Bool.and_eq_true, Bool.and_eq_true] at h
  obtain ⟨h1, h2, h3, h4, h5, h6, _⟩ := h
  rw [Bool.not_eq_true', decide_eq_false_iff_not] at h1 h2 h5
  exact ⟨inB_iff.2 ⟨by omega, by omega⟩, by omega, h3, h4, by omega, h6⟩
def hasS (h : Int) : ByteArray := bif decide (h = 1) then ⟨#[65]⟩ else bif decide (h = 2) then ⟨#[65, 66]⟩ else bif decide (h = 3) then ⟨#[111]⟩ else bif decide (h = 4) then ⟨#[116]⟩ else ⟨#[]⟩
theorem has_strs : ∀ n : Fin 22, (rget wordk U.wordsL (n.val : Int)).2.1 = hasS (hOf n.val) ∧ (rget wordk U.wordsL (n.val : Int)).1 = wordOf n.val ∧ (hOf n.val = 0 ∨ hOf n.val = 1 ∨ hOf n.val = 2 ∨ hOf n.val = 3 ∨ hOf n.val = 4) := by decide +kernel
theorem has_str {op : Int} (h : inB op 22 = true) : (rget wordk U.wordsL op).2.1 = hasS (hOf op) ∧ (rget wordk U.wordsL op).1 = wordOf op ∧ (hOf op = 0 ∨ hOf op = 1 ∨ hOf op = 2 ∨ hOf op = 3 ∨ hOf op = 4) := by
  obtain ⟨n, rfl⟩ := Int.eq_ofNat_of_zero_le (inB_iff.1 h).1
  exact has_strs ⟨n, Int.ofNat_lt.1 (inB_iff.1 h).2⟩
theorem join_text {op a b : Int} {on : Bool} {t : ByteArray} (h : inB op 22 = true) : strOf (U.joinI sp (wordOf op :: partsV a b on t (hasS (hOf op)))) = textV op a b on t := by
  obtain ⟨_, _, h3⟩ := has_str h
  unfold textV
  rcases h3 with e | e | e | e | e <;> rw [e]
  · show strOf (bytesL (wordOf op) ++ []) = wordOf op
    rw [List.append_nil, U.strOf_bytes]
  · show strOf (bytesL (wordOf op) ++ ((bytesL sp ++ bytesL (itoaB a)) ++ [])) = wordOf op ++ sp ++ itoaB a
    rw [List.append_nil, U.strOf_app, U.strOf_app, U.strOf_bytes, U.strOf_bytes, U.strOf_bytes, ByteArray.append_assoc]
  · show strOf (bytesL (wordOf op) ++ ((bytesL sp ++ bytesL (itoaB a)) ++ ((bytesL sp ++ bytesL (itoaB b)) ++ []))) = wordOf op ++ sp ++ itoaB a ++ sp ++ itoaB b
    rw [List.append_nil, U.strOf_app, U.strOf_app, U.strOf_app, U.strOf_app, U.strOf_bytes, U.strOf_bytes, U.strOf_bytes, U.strOf_bytes]
    simp only [ByteArray.append_assoc]
  · show strOf (bytesL (wordOf op) ++ ((bytesL sp ++ bytesL (truth on)) ++ [])) = wordOf op ++ sp ++ truth on
    rw [List.append_nil, U.strOf_app, U.strOf_app, U.strOf_bytes, U.strOf_bytes, U.strOf_bytes, ByteArray.append_assoc]
  · show strOf (bytesL (wordOf op) ++ ((bytesL sp ++ bytesL (quoB t)) ++ [])) = wordOf op ++ sp ++ quoB t
    rw [List.append_nil, U.strOf_app, U.strOf_app, U.strOf_bytes, U.strOf_bytes, U.strOf_bytes, ByteArray.append_assoc]
theorem parts_le {op a b : Int} {on : Bool} {t : ByteArray} (h : inB op 22 = true) (ha : near a = true) (hb : near b = true) (ht : t.size ≤ 64) :
    (wordOf op :: partsV a b on t (hasS (hOf op))).length ≤ 3 ∧ U.sumS (wordOf op :: partsV a b on t (hasS (hOf op))) ≤ 1000 := by
  obtain ⟨_, _, h3⟩ := has_str h
  have l0 := word_len h
  have l1 := itoa_le ha
  have l2 := itoa_le hb
  have l3 := quo_le t
  have l4 : (truth on).size ≤ 3 := by cases on <;> decide
  unfold U.sumS
  rcases h3 with e | e | e | e | e <;> rw [e]
  · exact ⟨show 1 ≤ 3 by omega, show (wordOf op).size + 0 ≤ 1000 by omega⟩
  · exact ⟨show 2 ≤ 3 by omega, show (wordOf op).size + ((itoaB a).size + 0) ≤ 1000 by omega⟩
  · exact ⟨show 3 ≤ 3 by omega, show (wordOf op).size + ((itoaB a).size + ((itoaB b).size + 0)) ≤ 1000 by omega⟩
  · exact ⟨show 2 ≤ 3 by omega, show (wordOf op).size + ((truth on).size + 0) ≤ 1000 by omega⟩
  · exact ⟨show 2 ≤ 3 by omega, show (wordOf op).size + ((quoB t).size + 0) ≤ 1000 by omega⟩
def printV (op a b : Int) (on : Bool) (t : ByteArray) : ByteArray × Int := bif rightV op a b on t then (textV op a b on t, 0) else (⟨#[]⟩, 1)
abbrev w31 : FSpec := s31 (fun x => decide (ByteArray.size x.1.2.2.2.2.1 ≤ 1048576)) fun x => printV x.1.1 x.1.2.1 x.1.2.2.1 x.1.2.2.2.1 x.1.2.2.2.2.1
theorem wk31 : SpecOK Tryd.prog E0 31 w31 := by
  refine k31 (fun op a b on t H => ?_) (L := ls_ok (lcs := [lc Tryd.f31 0]) (rgs := []) (by kernel_rfl) (by kernel_rfl) L31 trivial)
  have H : t.size ≤ 1048576 := of_decide_eq_true H
  show _ = some (printV op a b on t)
  unfold printV
  cases hr : rightV op a b on t with
  | false => simp only [d31, Tr.val, H, hr, decide_true, cond_true, cond_false, Bool.not_false]
  | true =>
    obtain ⟨hi, h1, ha, hb, ht, hv⟩ := right_iff hr
    obtain ⟨e1, e2, _⟩ := has_str hi
    obtain ⟨p1, p2⟩ := parts_le (on := on) hi ha hb ht
    have hh : isHas (hasS (hOf op)) = true := by
      obtain ⟨_, _, h3⟩ := has_str hi
      rcases h3 with e | e | e | e | e <;> rw [e] <;> rfl
    have q1 : decide ((wordOf op :: partsV a b on t (hasS (hOf op))).length ≤ 1048576) = true := decide_eq_true (by omega)
    have hs : ({ data := #[OfNat.ofNat (32 : Nat)] } : ByteArray) = sp := rfl
    have hc : (1 : Nat) ≤ 1 ∧ (1 : Nat) ≤ 1048576 ∧ (wordOf op :: partsV a b on t (hasS (hOf op))).length ≤ 1048576 ∧ U.sumS (wordOf op :: partsV a b on t (hasS (hOf op))) + (wordOf op :: partsV a b on t (hasS (hOf op))).length * 1 ≤ 140737488355328 := ⟨by omega, by omega, by omega, by omega⟩
    have hl : List.append [wordOf op] (partsV a b on t (hasS (hOf op))) = wordOf op :: partsV a b on t (hasS (hOf op)) := rfl
    simp only [d31, Tr.val, H, hr, hi, e1, e2, hh, ha, hb, hl, decide_eq_true hc, hs, Nat.le_refl, and_self, decide_true, cond_true, cond_false, Bool.not_true, Bool.and_self]
    rw [join_text hi]
    have fin : ∀ (p : Prop) [Decidable p], p → ∀ x : Option (ByteArray × Int), (bif decide p then x else none) = x := fun p _ hp x => by rw [decide_eq_true hp]; rfl
    exact fin _ ⟨trivial, hc.2⟩ _
end Cm
end Go.Proofs.YtdlbnlbajnafdaaDoor
end
section
set_option linter.unusedVariables false
set_option linter.unusedSimpArgs false
set_option maxRecDepth 20000
set_option maxHeartbeats 4000000
open Go Go.Ev
namespace Go.Proofs.YtdlbnlbajnafdaaDoor
namespace Cm
def quoN : List Int → Option (List Int × List Int)
  | [] => none
  | [c] => bif decide (c = 34) then some ([], []) else none
  | c :: d :: r => bif decide (c = 92) then (quoN r).map (fun x => (d :: x.1, x.2)) else bif decide (c = 34) then some ([], d :: r) else (quoN (d :: r)).map fun x => (c :: x.1, x.2)
def badR (l : List Int) : Bool := match l with | [] => false | c :: _ => !decide (c = 32)
abbrev Part := ByteArray × Bool × Unit
def notB (c : Int) : Bool := !decide (c = 32)
def cutN : Nat → List Int → List Part × Bool
  | 0, _ => ([], true)
  | _ + 1, [] => ([], true)
  | n + 1, c :: r => bif decide (c = 32) then cutN n r else bif decide (c = 34) then
      (match quoN r with | none => ([], false) | some x => bif badR x.2 then ([], false) else ((strOf x.1, true, ()) :: (cutN n x.2).1, (cutN n x.2).2))
    else ((strOf (c :: r.takeWhile notB), false, ()) :: (cutN n (r.dropWhile notB)).1, (cutN n (r.dropWhile notB)).2)
theorem quoN_len : ∀ (n : Nat) (l : List Int) (x : List Int × List Int), l.length ≤ n → quoN l = some x → x.1.length + x.2.length + 1 ≤ l.length
  | 0, [], x, _, h => by cases h
  | 0, _ :: _, _, h, _ => by cases h
  | n + 1, [], x, _, h => by cases h
  | n + 1, [c], x, _, h => by
    unfold quoN at h
    cases hc : decide (c = 34) <;> rw [hc] at h <;> cases h
    exact Nat.le_refl 1
  | n + 1, c :: d :: r, x, hl, h => by
    unfold quoN at h
    simp only [List.length_cons] at hl
    cases h1 : decide (c = 92) with
    | true =>
      rw [h1, cond_true, Option.map_eq_some_iff] at h
      obtain ⟨y, hy, rfl⟩ := h
      have := quoN_len n r y (by omega) hy
      simp only [List.length_cons]; omega
    | false =>
      rw [h1, cond_false] at h
      cases h2 : decide (c = 34) with
      | true =>
        rw [h2, cond_true] at h
        cases h
        simp only [List.length_cons, List.length_nil]; omega
      | false =>
        rw [h2, cond_false, Option.map_eq_some_iff] at h
        obtain ⟨y, hy, rfl⟩ := h
        have := quoN_len n (d :: r) y (by simp only [List.length_cons]; omega) hy
        simp only [List.length_cons] at this ⊢; omega
theorem quoN_suf : ∀ (n : Nat) (l : List Int) (x : List Int × List Int), l.length ≤ n → quoN l = some x → ∃ k, x.2 = l.drop k
  | 0, [], x, _, h => by cases h
  | 0, _ :: _, _, h, _ => by cases h
  | n + 1, [], x, _, h => by cases h
  | n + 1, [c], x, _, h => by
    unfold quoN at h
    cases hc : decide (c = 34) <;> rw [hc] at h <;> cases h
    exact ⟨1, rfl⟩
  | n + 1, c :: d :: r, x, hl, h => by
    unfold quoN at h
    simp only [List.length_cons] at hl
    cases h1 : decide (c = 92) with
    | true =>
      rw [h1, cond_true, Option.map_eq_some_iff] at h
      obtain ⟨y, hy, rfl⟩ := h
      obtain ⟨k, hk⟩ := quoN_suf n r y (by omega) hy
      exact ⟨k + 2, hk⟩
    | false =>
      rw [h1, cond_false] at h
      cases h2 : decide (c = 34) with
      | true =>
        rw [h2, cond_true] at h
        cases h
        exact ⟨1, rfl⟩
      | false =>
        rw [h2, cond_false, Option.map_eq_some_iff] at h
        obtain ⟨y, hy, rfl⟩ := h
        obtain ⟨k, hk⟩ := quoN_suf n (d :: r) y (by simp only [List.length_cons]; omega) hy
        exact ⟨k + 1, hk⟩
theorem dropW_len {α : Type} (p : α → Bool) : ∀ l : List α, (l.dropWhile p).length ≤ l.length
  | [] => Nat.le_refl _
  | a :: l => by
    rw [List.dropWhile_cons]
    split
    · have := dropW_len p l; rw [List.length_cons]; omega
    · exact Nat.le_refl _
theorem cutN_fuel : ∀ (n m : Nat) (l : List Int), l.length ≤ n → l.length ≤ m → cutN n l = cutN m l
  | 0, 0, [], _, _ => rfl
  | 0, _ + 1, [], _, _ => rfl
  | _ + 1, 0, [], _, _ => rfl
  | _ + 1, _ + 1, [], _, _ => rfl
  | n + 1, m + 1, c :: r, hn, hm => by
    simp only [List.length_cons] at hn hm
    unfold cutN
    cases decide (c = 32) with
    | true => exact cutN_fuel n m r (by omega) (by omega)
    | false =>
      cases decide (c = 34) with
      | true =>
        simp only [cond_true, cond_false]
        cases hq : quoN r with
        | none => rfl
        | some x =>
          have := quoN_len _ _ _ (Nat.le_refl _) hq
          simp only []
          rw [cutN_fuel n m x.2 (by omega) (by omega)]
      | false =>
        simp only [cond_false]
        have := dropW_len notB r
        rw [cutN_fuel n m (r.dropWhile notB) (by omega) (by omega)]
def cutV (l : List Int) : List Part × Bool := cutN l.length l
theorem cutV_32 (r : List Int) : cutV (32 :: r) = cutV r := rfl
theorem cutV_q (r : List Int) : cutV (34 :: r) = match quoN r with | none => ([], false) | some x => bif badR x.2 then ([], false) else ((strOf x.1, true, ()) :: (cutV x.2).1, (cutV x.2).2) := by
  show (match quoN r with | none => ([], false) | some x => bif badR x.2 then ([], false) else ((strOf x.1, true, ()) :: (cutN r.length x.2).1, (cutN r.length x.2).2)) = _
  cases hq : quoN r with
  | none => rfl
  | some x =>
    have := quoN_len _ _ _ (Nat.le_refl _) hq
    simp only []
    rw [cutN_fuel r.length x.2.length x.2 (by omega) (Nat.le_refl _)]
    rfl
theorem cutV_p {c : Int} (r : List Int) (h1 : c ≠ 32) (h2 : c ≠ 34) : cutV (c :: r) = ((strOf (c :: r.takeWhile notB), false, ()) :: (cutV (r.dropWhile notB)).1, (cutV (r.dropWhile notB)).2) := by
  show cutN (r.length + 1) (c :: r) = _
  unfold cutN
  rw [decide_eq_false h1, decide_eq_false h2, cond_false, cond_false]
  have := dropW_len notB r
  rw [cutN_fuel r.length (r.dropWhile notB).length (r.dropWhile notB) (by omega) (Nat.le_refl _)]
  rfl
def trimI (l : List Int) : List Int := l.dropWhile fun c => decide (c = 32)
theorem cutV_trim : ∀ l : List Int, cutV (trimI l) = cutV l
  | [] => rfl
  | c :: r => by
    unfold trimI
    rw [List.dropWhile_cons]
    by_cases h : c = 32
    · subst h
      rw [if_pos (by decide), cutV_32]
      exact cutV_trim r
    · rw [if_neg (by rw [decide_eq_false h]; decide)]
theorem strOf_drop (s : ByteArray) (k : Nat) : strOf ((bytesL s).drop k) = s.extract k s.size := by
  refine bl_inj ?_
  rw [bl_ext, ← bl_len, List.take_length]
  unfold strOf bytesL
  show List.map _ _ = _
  rw [← List.map_drop, List.map_map]
  show List.map _ ((bl s).drop k) = _
  conv => rhs; rw [← List.map_id ((bl s).drop k)]
  refine List.map_congr_left fun b _ => ?_
  show UInt8.ofNat ((b.toNat : Int)).toNat = b
  simp
theorem bytes_drop (s : ByteArray) (k : Nat) : bytesL (s.extract k s.size) = (bytesL s).drop k := by
  unfold bytesL
  show List.map _ (bl (s.extract k s.size)) = _
  rw [bl_ext, ← bl_len, List.take_length, List.map_drop]
  rfl
abbrev G67 : List (Nat × FSpec) := [(135, trimLeftS), (52, w52)]
theorem AG67 : AllFn Tryd.prog E0 G67 := .cons wk135 (.cons wk52 .nil)
def live67 (key : Nat) : Lv :=
  bif Nat.beq key 10 then { ls := [0, 4, 8, 9], wd := [⟨8, none, .row 5 (.int .u8)⟩] } else bif Nat.beq key 1010 then { ls := [0, 2, 3, 4] } else
  bif Nat.beq key 3 then { ls := [0, 4], wd := [⟨4, none, .row 113 partk⟩] } else bif Nat.beq key 1003 then { ls := [2, 3, 4] } else
  { ls := [] }
abbrev M67 (ls : Nat → VS → Option (Tr (Ex × VS))) : Env := (E0.withFns G67).loops live67 ls
@[reducible] def p67_0 : LP := { n := 86, sl := [.d (Kd.str), .c (Leaf.row ( 0))], bl := [(0, .row 113 (Kd.pr Kd.str (Kd.pr Kd.bool Kd.un)))] }
@[reducible] def p67_1 : LP := { n := 86, sl := [.d (Kd.str), .c (Leaf.row ( 0)), .c (Leaf.row ( 1)), .d (.int .i64)], bl := [(0, .row 113 (Kd.pr Kd.str (Kd.pr Kd.bool Kd.un))), (1, .row 5 (Kd.int IntKind.u8))] }
def B67_1 (x0 : ByteArray) (x3 : Int) (h0 : List (ByteArray × Bool × Unit)) (h1 : List Int) : Tr (p67_1.T ⊕ (ByteArray × List (ByteArray × Bool × Unit) ⊕ ByteArray × List (ByteArray × Bool × Unit) ⊕ ByteArray × List (ByteArray × Bool × Unit))) :=
 let v1 : Int := (IntKind.wrap IntKind.i64 (x3 + (1 : Int)))
 let v2 : ByteArray := (ByteArray.extract x0 (Int.toNat v1) (ByteArray.size x0))
 let v3 : Int := (bt v2 (0 : Int))
 let v4 : Bool := (decide ((List.length h1 + (1 : Nat)) * (1 : Nat) ≤ (140737488355328 : Nat)))
 Tr.ite (decide (x3 < (↑(ByteArray.size x0) : Int))) (Tr.ite (inB x3 (ByteArray.size x0)) (Tr.ite (decide (bt x0 x3 = (92 : Int))) (Tr.ite (decide (v1 < (↑(ByteArray.size x0) : Int))) (Tr.ite (inB v1 (ByteArray.size x0)) (Tr.ite v4 (Tr.ret (Sum.inl ((x0, IntKind.wrap IntKind.i64 (v1 + (1 : Int)), ()), h0, h1 ++ [bt x0 v1], ()))) Tr.fail) Tr.fail) (Tr.ite (inB x3 (ByteArray.size x0)) (Tr.ite (decide (bt x0 x3 = (34 : Int))) (Tr.ite (decide ((0 : Int) ≤ v1 ∧ v1 ≤ (↑(ByteArray.size x0) : Int))) (Tr.ite (!decide (v2 = { data := #[] })) (Tr.ite (inB (0 : Int) (ByteArray.size v2)) (Tr.ite (!decide (v3 = (32 : Int))) (Tr.ret (Sum.inr (Sum.inl (v2, h0)))) (Tr.ite (decide ((List.length h0 + (1 : Nat)) * (24 : Nat) ≤ (140737488355328 : Nat))) (Tr.ret (Sum.inr (Sum.inr (Sum.inl (v2, h0 ++ [(strOf h1, true, ())]))))) Tr.fail)) Tr.fail) (Tr.ite (decide ((List.length h0 + (1 : Nat)) * (24 : Nat) ≤ (140737488355328 : Nat))) (Tr.ret (Sum.inr (Sum.inr (Sum.inl (v2, h0 ++ [(strOf h1, true, ())]))))) Tr.fail)) Tr.fail) (Tr.ite (inB x3 (ByteArray.size x0)) (Tr.ite v4 (Tr.ret (Sum.inl ((x0, v1, ()), h0, h1 ++ [bt x0 x3], ()))) Tr.fail) Tr.fail)) Tr.fail)) (Tr.ite (inB x3 (ByteArray.size x0)) (Tr.ite (decide (bt x0 x3 = (34 : Int))) (Tr.ite (decide ((0 : Int) ≤ v1 ∧ v1 ≤ (↑(ByteArray.size x0) : Int))) (Tr.ite (!decide (v2 = { data := #[] })) (Tr.ite (inB (0 : Int) (ByteArray.size v2)) (Tr.ite (!decide (v3 = (32 : Int))) (Tr.ret (Sum.inr (Sum.inl (v2, h0)))) (Tr.ite (decide ((List.length h0 + (1 : Nat)) * (24 : Nat) ≤ (140737488355328 : Nat))) (Tr.ret (Sum.inr (Sum.inr (Sum.inl (v2, h0 ++ [(strOf h1, true, ())]))))) Tr.fail)) Tr.fail) (Tr.ite (decide ((List.length h0 + (1 : Nat)) * (24 : Nat) ≤ (140737488355328 : Nat))) (Tr.ret (Sum.inr (Sum.inr (Sum.inl (v2, h0 ++ [(strOf h1, true, ())]))))) Tr.fail)) Tr.fail) (Tr.ite (inB x3 (ByteArray.size x0)) (Tr.ite v4 (Tr.ret (Sum.inl ((x0, v1, ()), h0, h1 ++ [bt x0 x3], ()))) Tr.fail) Tr.fail)) Tr.fail)) Tr.fail) (Tr.ret (Sum.inr (Sum.inr (Sum.inr (x0, h0)))))
def X67_1 : (ByteArray × List (ByteArray × Bool × Unit) ⊕ ByteArray × List (ByteArray × Bool × Unit) ⊕ ByteArray × List (ByteArray × Bool × Unit)) → Ex × VS
  | (.inl r) => Prod.mk Ex.ret { n := 86, v := [Slot.av (AV.one (Leaf.dat Kd.str r.fst)), Slot.av (AV.one Leaf.nils), Slot.av (AV.one (Leaf.kb false)), Slot.av (AV.one (Leaf.row ( 0)))], h := [( 0, Blk.row ( 113) (Kd.pr Kd.str (Kd.pr Kd.bool Kd.un)) r.snd)] }
  | (.inr (.inl r)) => Prod.mk (Ex.exit ( 1)) { n := 86, v := [Slot.av (AV.one (Leaf.dat Kd.str r.fst)), Slot.av (AV.one Leaf.undef), Slot.av (AV.one Leaf.undef), Slot.av (AV.one (Leaf.row ( 0)))], h := [( 0, Blk.row ( 113) (Kd.pr Kd.str (Kd.pr Kd.bool Kd.un)) r.snd)] }
  | (.inr (.inr r)) => Prod.mk (Ex.exit ( 2)) { n := 86, v := [Slot.av (AV.one (Leaf.dat Kd.str r.fst)), Slot.av (AV.one Leaf.undef), Slot.av (AV.one Leaf.undef), Slot.av (AV.one (Leaf.row ( 0)))], h := [( 0, Blk.row ( 113) (Kd.pr Kd.str (Kd.pr Kd.bool Kd.un)) r.snd)] }
def b67_1 : p67_1.T → Tr (p67_1.T ⊕ (ByteArray × List (ByteArray × Bool × Unit) ⊕ ByteArray × List (ByteArray × Bool × Unit) ⊕ ByteArray × List (ByteArray × Bool × Unit))) := fun ⟨⟨x0, ⟨x3, _⟩⟩, ⟨h0, ⟨h1, _⟩⟩⟩ => B67_1 x0 x3 h0 h1
theorem h67_1 (ls : Nat → VS → Option (Tr (Ex × VS))) (x : p67_1.T) : (evC (evI 2) (lc Tryd.f67 1) (Env.lend (M67 ls) 0) (unV (live67 10) (p67_1.V x))).map (decL 0 (live67 10) (live67 1010)) = (b67_1 x).map (encR p67_1.V X67_1) := by
  obtain ⟨⟨x0, ⟨x3, _⟩⟩, ⟨h0, ⟨h1, _⟩⟩⟩ := x; kernel_rfl
theorem c67_1 (x : p67_1.T) : canV 0 (live67 10) (unV (live67 10) (p67_1.V x)) = p67_1.V x := by
  obtain ⟨⟨x0, ⟨x3, _⟩⟩, ⟨h0, ⟨h1, _⟩⟩⟩ := x; kernel_rfl
theorem l67_1 {T : p67_1.T → Tr (ByteArray × List (ByteArray × Bool × Unit) ⊕ ByteArray × List (ByteArray × Bool × Unit) ⊕ ByteArray × List (ByteArray × Bool × Unit))} {ls : Nat → VS → Option (Tr (Ex × VS))} (hls : ∀ x, (Env.lend (M67 ls) 0).ls 10 x = p67_1.ls (fun a => (T a).map X67_1) x) (hS : ∀ x r, (T x).val = some r → Rounds b67_1 x r) : LoopOK (evI 2) (Env.lend (M67 ls) 0) (lc Tryd.f67 1) :=
  loopA 10 (live67 10) (live67 1010) p67_1 b67_1 X67_1 T (by kernel_rfl) rfl rfl hls (h67_1 ls) c67_1 hS
def T67_1 (x : p67_1.T) : Tr (ByteArray × List Part ⊕ ByteArray × List Part ⊕ ByteArray × List Part) :=
  match x with
  | ⟨⟨s, i, _⟩, out, now, _⟩ => .ite (decide ((i : Int) = 1 ∧ List.length (α := Int) now = 0 ∧ ByteArray.size s ≤ 1048576 ∧ List.length (α := Part) out ≤ 1048576))
    (.ite (quoN ((bytesL s).drop 1)).isNone (.ret (.inr (.inr (s, out)))) (.ite (badR ((quoN ((bytesL s).drop 1)).getD ([], [])).2) (.ret (.inl (strOf ((quoN ((bytesL s).drop 1)).getD ([], [])).2, out)))
      (.ret (.inr (.inl (strOf ((quoN ((bytesL s).drop 1)).getD ([], [])).2, List.append (α := Part) out [(strOf ((quoN ((bytesL s).drop 1)).getD ([], [])).1, true, ())]))))))
    .fail
def resQ (s : ByteArray) (out : List Part) (now : List Int) : Option (List Int × List Int) → ByteArray × List Part ⊕ ByteArray × List Part ⊕ ByteArray × List Part
  | none => .inr (.inr (s, out))
  | some x => bif badR x.2 then .inl (strOf x.2, out) else .inr (.inl (strOf x.2, out ++ [(strOf (now ++ x.1), true, ())]))
theorem resQ_some (s : ByteArray) (out : List Part) (now : List Int) (x : List Int × List Int) : resQ s out now (some x) = bif badR x.2 then .inl (strOf x.2, out) else .inr (.inl (strOf x.2, out ++ [(strOf (now ++ x.1), true, ())])) := rfl
theorem resQ_map (s : ByteArray) (out : List Part) (now : List Int) (c : Int) (o : Option (List Int × List Int)) : resQ s out now (o.map fun x => (c :: x.1, x.2)) = resQ s out (now ++ [c]) o := by
  cases o with
  | none => rfl
  | some x => simp only [Option.map_some, resQ, List.append_assoc]; rfl
theorem drop_two {l : List Int} {i : Nat} (h : i + 1 < l.length) : l.drop i = l[i] :: l[i + 1] :: l.drop (i + 2) := by
  rw [List.drop_eq_getElem_cons (by omega), List.drop_eq_getElem_cons h]
theorem R67_1 (s : ByteArray) (hs : s.size ≤ 1048576) (out : List Part) (ho : out.length ≤ 1048576) : ∀ (k i : Nat) (now : List Int), i ≤ s.size → s.size ≤ i + k → now.length ≤ i →
    Rounds b67_1 ((s, (i : Int), ()), out, now, ()) (resQ s out now (quoN ((bytesL s).drop i)))
  | k, i, now, hi, hk, hn => by
    have hl := bytesL_size s
    by_cases h0 : i < s.size
    · obtain ⟨k, rfl⟩ : ∃ m, k = m + 1 := ⟨k - 1, by omega⟩
      have lt : decide ((i : Int) < (s.size : Int)) = true := decide_eq_true (by omega)
      have w : IntKind.wrap IntKind.i64 ((i : Int) + 1) = ((i + 1 : Nat) : Int) := wrap64_nat (by omega)
      have q1 : decide ((now.length + 1) * 1 ≤ 140737488355328) = true := decide_eq_true (by omega)
      have q2 : decide ((out.length + 1) * 24 ≤ 140737488355328) = true := decide_eq_true (by omega)
      have b1 : decide ((0 : Int) ≤ ((i + 1 : Nat) : Int) ∧ ((i + 1 : Nat) : Int) ≤ (s.size : Int)) = true := decide_eq_true (by omega)
      have hi1 : i < (bytesL s).length := by omega
      have quote : ∀ rest : List Int, rest = (bytesL s).drop (i + 1) → (bif !decide (s.extract (i + 1) s.size = ({ data := #[] } : ByteArray)) then bif inB (0 : Int) (s.extract (i + 1) s.size).size then bif !decide (bt (s.extract (i + 1) s.size) 0 = 32) then
            some (Sum.inr (Sum.inl (s.extract (i + 1) s.size, out)) : p67_1.T ⊕ (ByteArray × List Part ⊕ ByteArray × List Part ⊕ ByteArray × List Part))
            else some (Sum.inr (Sum.inr (Sum.inl (s.extract (i + 1) s.size, out ++ [(strOf now, true, ())])))) else none
          else some (Sum.inr (Sum.inr (Sum.inl (s.extract (i + 1) s.size, out ++ [(strOf now, true, ())]))))) = some (Sum.inr (resQ s out now (some ([], rest)))) := by
        intro rest hr
        have e1 : s.extract (i + 1) s.size = strOf rest := by rw [hr, strOf_drop]
        have e2 : bytesL (s.extract (i + 1) s.size) = rest := by rw [bytes_drop, hr]
        rw [resQ_some, List.append_nil, ← e1]
        cases hr0 : rest with
        | nil =>
          have z : (s.extract (i + 1) s.size).size = 0 := by rw [← bytesL_size, e2, hr0]; rfl
          rw [decide_eq_true (ba_nil z)]
          rfl
        | cons c r =>
          have z : (s.extract (i + 1) s.size).size = r.length + 1 := by rw [← bytesL_size, e2, hr0]; rfl
          have b0 : bt (s.extract (i + 1) s.size) 0 = c := by
            have := byte_at (s := s.extract (i + 1) s.size) (i := 0) (by rw [e2, hr0]; simp)
            rw [show ((0 : Nat) : Int) = 0 from rfl] at this
            rw [← this]
            simp only [e2, hr0, List.getElem_cons_zero]
          rw [decide_eq_false (ba_ne (by omega)), show inB (0 : Int) (s.extract (i + 1) s.size).size = true by rw [inB_iff]; omega, b0]
          rw [show badR (([], c :: r) : List Int × List Int).2 = !decide (c = 32) from rfl]
          cases decide (c = 32) <;> rfl
      by_cases h1 : i + 1 < s.size
      · have e := drop_two (l := bytesL s) (i := i) (by omega)
        have lt1 : decide (((i + 1 : Nat) : Int) < (s.size : Int)) = true := decide_eq_true (by omega)
        have w1 : IntKind.wrap IntKind.i64 (((i + 1 : Nat) : Int) + 1) = ((i + 2 : Nat) : Int) := wrap64_nat (by omega)
        rw [e]
        unfold quoN
        rw [byte_at hi1, byte_at (show i + 1 < (bytesL s).length by omega)]
        by_cases c1 : bt s i = 92
        · rw [decide_eq_true c1, cond_true, resQ_map]
          refine .step ?_ (R67_1 s hs out ho k (i + 2) (now ++ [bt s ((i + 1 : Nat) : Int)]) (by omega) (by omega) (by rw [List.length_append]; show now.length + 1 ≤ _; omega))
          simp only [b67_1, B67_1, Tr.val, lt, lt1, w, w1, q1, c1, inB_nat h0, inB_nat h1, decide_true, cond_true]
        · rw [decide_eq_false c1, cond_false]
          by_cases c2 : bt s i = 34
          · rw [decide_eq_true c2, cond_true]
            refine .exit ?_
            have d1 : (bytesL s).drop (i + 1) = bt s ((i + 1 : Nat) : Int) :: (bytesL s).drop (i + 2) := by
              rw [List.drop_eq_getElem_cons (by omega), byte_at (show i + 1 < (bytesL s).length by omega)]
            rw [← d1, ← quote _ rfl]
            simp only [b67_1, B67_1, Tr.val, lt, w, b1, q2, c1, c2, inB_nat h0, Int.toNat_natCast, show ¬ ((34 : Int) = 92) by decide, decide_true, decide_false, cond_true, cond_false]
          · rw [decide_eq_false c2, cond_false, resQ_map]
            have d1 : bt s ((i + 1 : Nat) : Int) :: (bytesL s).drop (i + 2) = (bytesL s).drop (i + 1) := by
              rw [List.drop_eq_getElem_cons (show i + 1 < (bytesL s).length by omega), byte_at (show i + 1 < (bytesL s).length by omega)]
            rw [d1]
            refine .step ?_ (R67_1 s hs out ho k (i + 1) (now ++ [bt s (i : Int)]) (by omega) (by omega) (by rw [List.length_append]; show now.length + 1 ≤ _; omega))
            simp only [b67_1, B67_1, Tr.val, lt, w, q1, c1, c2, inB_nat h0, decide_true, decide_false, cond_true, cond_false]
      · have e : (bytesL s).drop i = [bt s (i : Int)] := by
          rw [List.drop_eq_getElem_cons hi1, byte_at hi1, List.drop_of_length_le (by omega)]
        have lt1 : decide (((i + 1 : Nat) : Int) < (s.size : Int)) = false := decide_eq_false (by omega)
        rw [e]
        unfold quoN
        by_cases c2 : bt s i = 34
        · rw [decide_eq_true c2, cond_true]
          refine .exit ?_
          have d1 : [] = (bytesL s).drop (i + 1) := by rw [List.drop_of_length_le (by omega)]
          rw [← quote _ d1]
          simp only [b67_1, B67_1, Tr.val, lt, w, b1, q2, c2, inB_nat h0, Int.toNat_natCast, show ¬ ((34 : Int) = 92) by decide, decide_true, decide_false, cond_true, cond_false]
        · rw [decide_eq_false c2, cond_false]
          refine .step (y := ((s, ((i + 1 : Nat) : Int), ()), out, now ++ [bt s (i : Int)], ())) ?_ ?_
          · by_cases c1 : bt s i = 92
            · simp only [b67_1, B67_1, Tr.val, lt, lt1, w, q1, c1, inB_nat h0, show ¬ ((92 : Int) = 34) by decide, decide_true, decide_false, cond_true, cond_false]
            · simp only [b67_1, B67_1, Tr.val, lt, w, q1, c1, c2, inB_nat h0, decide_true, decide_false, cond_true, cond_false]
          · have := R67_1 s hs out ho k (i + 1) (now ++ [bt s (i : Int)]) (by omega) (by omega) (by rw [List.length_append]; show now.length + 1 ≤ _; omega)
            rw [List.drop_of_length_le (show (bytesL s).length ≤ i + 1 by omega)] at this
            exact this
    · have e : i = s.size := by omega
      subst e
      rw [List.drop_of_length_le (by omega)]
      refine .exit ?_
      simp only [b67_1, B67_1, Tr.val, show ¬ ((s.size : Int) < (s.size : Int)) by omega, decide_false, cond_false]
      rfl
theorem L67_1 {ls : Nat → VS → Option (Tr (Ex × VS))} (hls : ∀ x, (Env.lend (M67 ls) 0).ls 10 x = p67_1.ls (fun a => (T67_1 a).map X67_1) x) : LoopOK (evI 2) ((M67 ls).lend 0) (lc Tryd.f67 1) := by
  refine l67_1 (T := T67_1) hls ?_
  rintro ⟨⟨s, i, z⟩, out, now, z2⟩ r h
  obtain ⟨g1, g2⟩ := pre_val h
  obtain ⟨e1, e2, e3, e4⟩ : (i : Int) = 1 ∧ now.length = 0 ∧ s.size ≤ 1048576 ∧ out.length ≤ 1048576 := of_decide_eq_true g1
  subst e1
  have e2 : now = [] := List.eq_nil_of_length_eq_zero e2
  subst e2
  by_cases h0 : s.size = 0
  · have e : s = ⟨#[]⟩ := ba_nil h0
    subst e
    cases g2
    refine .exit ?_
    rfl
  · have := R67_1 s e3 out e4 s.size 1 [] (by omega) (by omega) (by simp)
    cases hq : quoN ((bytesL s).drop 1) with
    | none => rw [hq] at g2 this; cases g2; exact this
    | some x =>
      rw [hq] at g2 this
      simp only [Option.isNone_some, Option.getD_some, Tr.val, cond_false] at g2
      rw [resQ_some] at this
      cases hb : badR x.2 <;> rw [hb] at g2 this <;> cases g2 <;> exact this
def B67_0 (x0 : ByteArray) (h0 : List (ByteArray × Bool × Unit)) : Tr (p67_0.T ⊕ (List (ByteArray × Bool × Unit) ⊕ List (ByteArray × Bool × Unit))) :=
 let v1 : Int := (bt x0 (0 : Int))
 let v2 : List Int × List Int := (Option.getD (quoN (List.drop (1 : Nat) (bytesL x0))) ([], []))
 let v3 : List Int := (v2.snd)
 Tr.ite (!decide (x0 = { data := #[] })) (Tr.ite (inB (0 : Int) (ByteArray.size x0)) (Tr.ite (!decide (v1 = (34 : Int))) (Tr.ite (decide ((1 : Nat) = (1 : Nat) ∧ ByteArray.size x0 ≤ (1048576 : Nat))) (Tr.ite (decide ((List.length h0 + (1 : Nat)) * (24 : Nat) ≤ (140737488355328 : Nat))) (Tr.ite true (Tr.ret (Sum.inl (({ data := List.toArray (Lib.trimLeftB (cutA x0 (b0 { data := #[OfNat.ofNat (32 : Nat)] })).data.toList (b0 { data := #[OfNat.ofNat (32 : Nat)] })) }, ()), h0 ++ [(cutB x0 (b0 { data := #[OfNat.ofNat (32 : Nat)] }), false, ())], ()))) Tr.fail) Tr.fail) Tr.fail) (Tr.ite (decide ((1 : Int) = (1 : Int) ∧ (0 : Nat) = (0 : Nat) ∧ ByteArray.size x0 ≤ (1048576 : Nat) ∧ List.length h0 ≤ (1048576 : Nat))) (Tr.ite (Option.isNone (quoN (List.drop (1 : Nat) (bytesL x0)))) (Tr.ret (Sum.inr (Sum.inl h0))) (Tr.ite (badR v3) (Tr.ret (Sum.inr (Sum.inl h0))) (Tr.ite true (Tr.ret (Sum.inl (({ data := List.toArray (Lib.trimLeftB (strOf v3).data.toList (b0 { data := #[OfNat.ofNat (32 : Nat)] })) }, ()), List.append h0 [(strOf v2.fst, true, ())], ()))) Tr.fail))) Tr.fail)) Tr.fail) (Tr.ret (Sum.inr (Sum.inr h0)))
def X67_0 : (List (ByteArray × Bool × Unit) ⊕ List (ByteArray × Bool × Unit)) → Ex × VS
  | (.inl r) => Prod.mk Ex.ret { n := 86, v := [Slot.av (AV.one Leaf.nils), Slot.av (AV.one (Leaf.kb false)), Slot.av (AV.one (Leaf.row ( 0)))], h := [( 0, Blk.row ( 113) (Kd.pr Kd.str (Kd.pr Kd.bool Kd.un)) r)] }
  | (.inr r) => Prod.mk (Ex.exit ( 0)) { n := 86, v := [Slot.av (AV.one Leaf.undef), Slot.av (AV.one Leaf.undef), Slot.av (AV.one (Leaf.row ( 0)))], h := [( 0, Blk.row ( 113) (Kd.pr Kd.str (Kd.pr Kd.bool Kd.un)) r)] }
def b67_0 : p67_0.T → Tr (p67_0.T ⊕ (List (ByteArray × Bool × Unit) ⊕ List (ByteArray × Bool × Unit))) := fun ⟨⟨x0, _⟩, ⟨h0, _⟩⟩ => B67_0 x0 h0
theorem h67_0 (ls : Nat → VS → Option (Tr (Ex × VS))) (x : p67_0.T) : (evC (evI 2) (lc Tryd.f67 0) (Env.lend ((fun L => M67 fun key x => bif Nat.beq key 10 then p67_1.ls (fun a => (T67_1 a).map X67_1) x else L key x) ls) 0) (unV (live67 3) (p67_0.V x))).map (decL 0 (live67 3) (live67 1003)) = (b67_0 x).map (encR p67_0.V X67_0) := by
  obtain ⟨⟨x0, _⟩, ⟨h0, _⟩⟩ := x; kernel_rfl
theorem c67_0 (x : p67_0.T) : canV 0 (live67 3) (unV (live67 3) (p67_0.V x)) = p67_0.V x := by
  obtain ⟨⟨x0, _⟩, ⟨h0, _⟩⟩ := x; kernel_rfl
theorem l67_0 {T : p67_0.T → Tr (List (ByteArray × Bool × Unit) ⊕ List (ByteArray × Bool × Unit))} {ls : Nat → VS → Option (Tr (Ex × VS))} (hls : ∀ x, (Env.lend ((fun L => M67 fun key x => bif Nat.beq key 10 then p67_1.ls (fun a => (T67_1 a).map X67_1) x else L key x) ls) 0).ls 3 x = p67_0.ls (fun a => (T a).map X67_0) x) (hS : ∀ x r, (T x).val = some r → Rounds b67_0 x r) : LoopOK (evI 2) (Env.lend ((fun L => M67 fun key x => bif Nat.beq key 10 then p67_1.ls (fun a => (T67_1 a).map X67_1) x else L key x) ls) 0) (lc Tryd.f67 0) :=
  loopA 3 (live67 3) (live67 1003) p67_0 b67_0 X67_0 T (by kernel_rfl) rfl rfl hls (h67_0 ls) c67_0 hS
theorem drop_map {α β : Type} (f : α → β) (p : β → Bool) : ∀ l : List α, (l.map f).dropWhile p = (l.dropWhile fun a => p (f a)).map f
  | [] => rfl
  | a :: l => by
    rw [List.map_cons, List.dropWhile_cons, List.dropWhile_cons]
    cases p (f a) with
    | true => rw [if_pos rfl, if_pos rfl]; exact drop_map f p l
    | false => rw [if_neg (by decide), if_neg (by decide)]; rfl
theorem take_map {α β : Type} (f : α → β) (p : β → Bool) : ∀ l : List α, (l.map f).takeWhile p = (l.takeWhile fun a => p (f a)).map f
  | [] => rfl
  | a :: l => by
    rw [List.map_cons, List.takeWhile_cons, List.takeWhile_cons]
    cases p (f a) with
    | true => rw [if_pos rfl, if_pos rfl, List.map_cons, take_map f p l]
    | false => rw [if_neg (by decide), if_neg (by decide)]; rfl
theorem byte32 (b : UInt8) : decide (((b.toNat : Nat) : Int) = 32) = (b == 32) := by
  by_cases h : b = 32
  · subst h; rfl
  · have : ¬ ((b.toNat : Int) = 32) := fun e => h (by
      have e2 : b.toNat = 32 := by omega
      exact UInt8.toNat_inj.1 e2)
    rw [decide_eq_false this]
    exact (beq_eq_false_iff_ne.2 h).symm
theorem trim_B (s : ByteArray) : bytesL ⟨(Lib.trimLeftB s.data.toList (b0 { data := #[OfNat.ofNat (32 : Nat)] })).toArray⟩ = trimI (bytesL s) := by
  unfold bytesL trimI Lib.trimLeftB
  rw [drop_map]
  show List.map _ (List.dropWhile _ _) = _
  congr 1
  refine congrArg (fun p => List.dropWhile p s.data.toList) (funext fun b => ?_)
  exact (byte32 b).symm
theorem notB_eq (b : UInt8) : notB (b.toNat : Int) = (b != 32) := by
  unfold notB
  rw [byte32]
  rfl
theorem cutB_L (s : ByteArray) : cutB s (b0 { data := #[OfNat.ofNat (32 : Nat)] }) = strOf ((bytesL s).takeWhile notB) := by
  refine Eq.trans ?_ (congrArg strOf (?_ : bytesL (cutB s 32) = _))
  · rw [U.strOf_bytes]; rfl
  · unfold bytesL
    rw [take_map]
    show List.map _ (List.takeWhile _ _) = _
    congr 1
    exact congrArg (fun p => List.takeWhile p s.data.toList) (funext fun b => (notB_eq b).symm)
theorem cutA_L (s : ByteArray) : bytesL (cutA s (b0 { data := #[OfNat.ofNat (32 : Nat)] })) = ((bytesL s).dropWhile notB).drop 1 := by
  unfold bytesL
  rw [drop_map, ← List.map_drop]
  show List.map _ (List.drop 1 (List.dropWhile _ _)) = _
  congr 2
  exact congrArg (fun p => List.dropWhile p s.data.toList) (funext fun b => (notB_eq b).symm)
theorem dropN_head : ∀ l : List Int, cutV (trimI ((l.dropWhile notB).drop 1)) = cutV (l.dropWhile notB)
  | [] => rfl
  | c :: r => by
    rw [List.dropWhile_cons]
    by_cases h : c = 32
    · subst h
      rw [if_neg (by decide), List.drop_succ_cons, List.drop_zero, cutV_trim, cutV_32]
    · rw [if_pos (by unfold notB; rw [decide_eq_false h]; rfl)]
      exact dropN_head r
theorem trim_trim : ∀ l : List Int, trimI (trimI l) = trimI l
  | [] => rfl
  | c :: r => by
    unfold trimI
    rw [List.dropWhile_cons]
    by_cases h : c = 32
    · subst h
      rw [if_pos (by decide)]
      exact trim_trim r
    · have hd : ¬ ((decide (c = 32)) = true) := by rw [decide_eq_false h]; decide
      rw [if_neg hd, List.dropWhile_cons, if_neg hd]
def T67_0 (x : p67_0.T) : Tr (List Part ⊕ List Part) :=
  match x with
  | ⟨⟨s, _⟩, out, _⟩ => .ite (decide (ByteArray.size s ≤ 1048576 ∧ List.length (α := Part) out = 0) && decide (trimI (bytesL s) = bytesL s))
    (.ite (cutV (bytesL s)).2 (.ret (.inr (cutV (bytesL s)).1)) (.ret (.inl (cutV (bytesL s)).1))) .fail
abbrev E67 : Env := M67 fun key x => bif Nat.beq key 10 then p67_1.ls (fun a => (T67_1 a).map X67_1) x else bif Nat.beq key 3 then p67_0.ls (fun a => (T67_0 a).map X67_0) x else none
theorem R67_0 : ∀ (n : Nat) (s : ByteArray) (out : List Part), s.size ≤ n → out.length + s.size ≤ 1048576 → trimI (bytesL s) = bytesL s →
    Rounds b67_0 ((s, ()), out, ()) (bif (cutV (bytesL s)).2 then .inr (out ++ (cutV (bytesL s)).1) else .inl (out ++ (cutV (bytesL s)).1))
  | n, s, out, hn, hb, ht => by
    have hl := bytesL_size s
    by_cases h0 : s.size = 0
    · have e : s = ⟨#[]⟩ := ba_nil h0
      subst e
      refine .exit ?_
      show _ = some (Sum.inr (Sum.inr (out ++ [])))
      rw [List.append_nil]
      rfl
    · obtain ⟨n, rfl⟩ : ∃ m, n = m + 1 := ⟨n - 1, by omega⟩
      obtain ⟨c, r, hc⟩ : ∃ c r, bytesL s = c :: r := by
        cases h : bytesL s with
        | nil => rw [h] at hl; simp at hl; omega
        | cons c r => exact ⟨c, r, rfl⟩
      have hr : r.length + 1 = s.size := by rw [← hl, hc]; rfl
      have b0' : bt s 0 = c := by
        have := byte_at (s := s) (i := 0) (by omega)
        rw [show ((0 : Nat) : Int) = 0 from rfl] at this
        rw [← this]
        simp only [hc, List.getElem_cons_zero]
      have i0 : inB (0 : Int) s.size = true := by rw [inB_iff]; omega
      have c32 : c ≠ 32 := by
        intro e
        subst e
        rw [hc] at ht
        have h1 := dropW_len (fun c : Int => decide (c = 32)) r
        have := congrArg List.length ht
        unfold trimI at this
        rw [List.dropWhile_cons, if_pos (by decide), List.length_cons] at this
        omega
      have hd1 : (bytesL s).drop 1 = r := by rw [hc]; rfl
      have q2 : decide ((out.length + 1) * 24 ≤ 140737488355328) = true := decide_eq_true (by omega)
      have q3 : decide (out.length ≤ 1048576) = true := decide_eq_true (by omega)
      have hsz : s.size ≤ 1048576 := by omega
      have hol : out.length ≤ 1048576 := by omega
      by_cases c34 : c = 34
      · subst c34
        rw [hc, cutV_q]
        have hx : (b67_0 ((s, ()), out, ())).val = (bif (quoN r).isNone then some (.inr (.inl out)) else bif badR ((quoN r).getD ([], [])).2 then some (.inr (.inl out)) else
            some (.inl ((⟨(Lib.trimLeftB (strOf ((quoN r).getD ([], [])).2).data.toList (b0 { data := #[OfNat.ofNat (32 : Nat)] })).toArray⟩, ()), out ++ [(strOf ((quoN r).getD ([], [])).1, true, ())], ()))) := by
          simp only [b67_0, B67_0, Tr.val, ba_ne h0, i0, b0', hd1, hsz, hol, and_self, decide_true, decide_false, cond_true, cond_false, Bool.not_true, Bool.not_false]
          rfl
        cases hq : quoN r with
        | none =>
          rw [hq] at hx
          refine .exit ?_
          rw [hx]
          show some (Sum.inr (Sum.inl out)) = some (Sum.inr (Sum.inl (out ++ [])))
          rw [List.append_nil]
        | some x =>
          have hxl := quoN_len _ _ _ (Nat.le_refl _) hq
          rw [hq] at hx
          simp only [Option.isNone_some, Option.getD_some, cond_false] at hx
          simp only []
          cases hbad : badR x.2 with
          | true =>
            rw [hbad] at hx
            refine .exit ?_
            rw [hx]
            show some (Sum.inr (Sum.inl out)) = some (Sum.inr (Sum.inl (out ++ [])))
            rw [List.append_nil]
          | false =>
            rw [hbad] at hx
            refine .step hx ?_
            have hby : ∃ k, x.2 = (bytesL s).drop k := by
              obtain ⟨k, hk⟩ := quoN_suf _ _ _ (Nat.le_refl _) hq
              exact ⟨k + 1, by rw [hk, hc, List.drop_succ_cons]⟩
            obtain ⟨k, hk⟩ := hby
            have e1 : bytesL (strOf x.2) = x.2 := by rw [hk, strOf_drop, bytes_drop]
            have e2 := trim_B (strOf x.2)
            rw [e1] at e2
            have e3 := bytesL_size (⟨(Lib.trimLeftB (strOf x.2).data.toList (b0 { data := #[OfNat.ofNat (32 : Nat)] })).toArray⟩ : ByteArray)
            rw [e2] at e3
            have e4 := dropW_len (fun c : Int => decide (c = 32)) x.2
            have e3 : (x.2.dropWhile fun c => decide (c = 32)).length = _ := e3
            have ih := R67_0 n _ (out ++ [(strOf x.1, true, ())]) (by rw [← e3]; omega) (by rw [List.length_append, ← e3]; show out.length + 1 + _ ≤ _; omega) (by rw [e2, trim_trim])
            rw [e2, cutV_trim] at ih
            simp only [List.append_assoc, List.singleton_append] at ih
            exact ih
      · have hcut : strOf ((bytesL s).takeWhile notB) = strOf (c :: r.takeWhile notB) := by
          rw [hc, List.takeWhile_cons, if_pos (by unfold notB; rw [decide_eq_false c32]; rfl)]
        have hdr : (bytesL s).dropWhile notB = r.dropWhile notB := by
          rw [hc, List.dropWhile_cons, if_pos (by unfold notB; rw [decide_eq_false c32]; rfl)]
        have e2 := trim_B (cutA s (b0 { data := #[OfNat.ofNat (32 : Nat)] }))
        rw [cutA_L, hdr] at e2
        have e3 := bytesL_size (⟨(Lib.trimLeftB (cutA s (b0 { data := #[OfNat.ofNat (32 : Nat)] })).data.toList (b0 { data := #[OfNat.ofNat (32 : Nat)] })).toArray⟩ : ByteArray)
        rw [e2] at e3
        have e4 := dropW_len (fun c : Int => decide (c = 32)) ((r.dropWhile notB).drop 1)
        have e5 := dropW_len notB r
        have e6 : ((r.dropWhile notB).drop 1).length ≤ (r.dropWhile notB).length := by rw [List.length_drop]; omega
        have e3 : (((r.dropWhile notB).drop 1).dropWhile fun c => decide (c = 32)).length = _ := e3
        have ih := R67_0 n _ (out ++ [(strOf (c :: r.takeWhile notB), false, ())]) (by rw [← e3]; omega) (by rw [List.length_append, ← e3]; show out.length + 1 + _ ≤ _; omega) (by rw [e2, trim_trim])
        rw [e2, dropN_head] at ih
        rw [hc, cutV_p r c32 c34]
        simp only [List.append_assoc, List.singleton_append] at ih
        refine .step ?_ ih
        simp only [b67_0, B67_0, Tr.val, ba_ne h0, i0, b0', c34, hsz, q2, cutB_L, hcut, and_self, decide_true, decide_false, cond_true, cond_false, Bool.not_true, Bool.not_false]
theorem L67_0 : LoopOK (evI 2) (E67.lend 0) (lc Tryd.f67 0) := by
  refine l67_0 (T := T67_0) (ls := fun key x => bif Nat.beq key 3 then p67_0.ls (fun a => (T67_0 a).map X67_0) x else none) (fun x => rfl) ?_
  rintro ⟨⟨s, z⟩, out, z2⟩ r h
  obtain ⟨g1, g2⟩ := pre_val h
  rw [Bool.and_eq_true] at g1
  obtain ⟨e1, e2⟩ : s.size ≤ 1048576 ∧ out.length = 0 := of_decide_eq_true g1.1
  have e3 : trimI (bytesL s) = bytesL s := of_decide_eq_true g1.2
  have e2 : out = [] := List.eq_nil_of_length_eq_zero e2
  subst e2
  have := R67_0 s.size s [] (Nat.le_refl _) (by simpa using e1) e3
  cases hc : (cutV (bytesL s)).2 <;> rw [hc] at g2 this <;> cases g2 <;> exact this
def d67 (xa : ByteArray) : Tr (List Part × Bool) :=
 let v1 : List Int := (bytesL { data := List.toArray (Lib.trimLeftB xa.data.toList (b0 { data := #[OfNat.ofNat (32 : Nat)] })) })
 let v2 : List Part × Bool := (cutV v1)
 let v3 : List Int := (trimI v1)
 Tr.ite true (Tr.ite (decide (ByteArray.size { data := List.toArray (Lib.trimLeftB xa.data.toList (b0 { data := #[OfNat.ofNat (32 : Nat)] })) } ≤ (1048576 : Nat) ∧ (0 : Nat) = (0 : Nat)) && decide (v3 = v1)) (Tr.ite v2.snd (Tr.ret (v2.fst, true)) (Tr.ret ([], false))) Tr.fail) Tr.fail
def e67 (r : List Part × Bool) : FRes := { rs := Slot.tup [AV.one (Leaf.dat (Kd.sl (Kd.pr Kd.str (Kd.pr Kd.bool Kd.un))) r.fst), AV.one (Leaf.dat Kd.bool r.snd)], upd := [], new := [] }
@[reducible] def a67 : List AK := [AK.d Kd.str]
@[reducible] def b67 : List BK := []
theorem t67 (xa : ByteArray) : evFn (E67) Tryd.f67 [PM.data (Kd.sl partk), PM.data Kd.bool] (akAV a67 (xa, ())) (bkBs b67 ()) = (d67 xa).map e67 := by kernel_rfl
def s67 (C : akT a67 → Bool) (G : akT a67 → List Part × Bool) : FSpec := aspec a67 b67 e67 (fun x _ => C x) (fun x _ => G x)
theorem k67 {C : akT a67 → Bool} {G : akT a67 → List Part × Bool} (hd : ∀ (xa : ByteArray), C (xa, ()) = true → (d67 xa).val = some (G (xa, ()))) (IO : ItOK Tryd.prog (E67) := by exact itOK_none rfl) (L : ∀ c, Tryd.f67.body = some c → LsOK (evI 2) ((E67).lend 0) c := by exact fun c _ => LsOK_none rfl c) : SpecOK Tryd.prog E0 67 (s67 C G) :=
  aspec_ok (ak := a67) (bl := b67) (e := e67) (c := fun x _ => C x) (g := fun x _ => G x) (E0 := E0) (E := E67) tab AG67 rfl rfl hm Tryd.func67 (by kernel_rfl) [PM.data (Kd.sl partk), PM.data Kd.bool] (fun X Y H => by obtain ⟨xa, _⟩ := X; exact val_of (t67 xa) (hd xa H)) IO L
def okV (y : List Part × Bool) : List Part × Bool := bif y.2 then (y.1, true) else ([], false)
abbrev w67 : FSpec := s67 (fun x => decide (ByteArray.size x.1 ≤ 1048576)) fun x => okV (cutV (bytesL x.1))
theorem wk67 : SpecOK Tryd.prog E0 67 w67 := by
  refine k67 (fun s H => ?_) (L := ls_ok (lcs := [lc Tryd.f67 0, lc Tryd.f67 1]) (rgs := []) (by kernel_rfl) (by kernel_rfl) ⟨L67_0, L67_1 (ls := fun key x => bif Nat.beq key 10 then p67_1.ls (fun a => (T67_1 a).map X67_1) x else bif Nat.beq key 3 then p67_0.ls (fun a => (T67_0 a).map X67_0) x else none) (fun x => rfl)⟩ trivial)
  have H : s.size ≤ 1048576 := of_decide_eq_true H
  have e2 := trim_B s
  have e3 := bytesL_size (⟨(Lib.trimLeftB s.data.toList (b0 { data := #[OfNat.ofNat (32 : Nat)] })).toArray⟩ : ByteArray)
  rw [e2] at e3
  have e4 := dropW_len (fun c : Int => decide (c = 32)) (bytesL s)
  have e5 := bytesL_size s
  have e3 : ((bytesL s).dropWhile fun c => decide (c = 32)).length = _ := e3
  have e6 : (⟨(Lib.trimLeftB s.data.toList (b0 { data := #[OfNat.ofNat (32 : Nat)] })).toArray⟩ : ByteArray).size ≤ 1048576 := by rw [← e3]; omega
  show _ = some (okV (cutV (bytesL s)))
  unfold okV
  simp only [d67, Tr.val, e2, e6, trim_trim, cutV_trim, and_self, decide_true, Bool.and_self, cond_true]
  cases (cutV (bytesL s)).2 <;> rfl
end Cm
end Go.Proofs.YtdlbnlbajnafdaaDoor
end
section
set_option linter.unusedVariables false
set_option linter.unusedSimpArgs false
set_option maxRecDepth 20000
set_option maxHeartbeats 4000000
open Go Go.Ev
namespace Go.Proofs.YtdlbnlbajnafdaaDoor
namespace Cm
abbrev G70 : List (Nat × FSpec) := [(136, w136), (75, w75)]
theorem AG70 : AllFn Tryd.prog E0 G70 := .cons wk136 (.cons wk75 .nil)
def d70 (xb : Int) (xc1 : ByteArray) (xc2 : Bool) (h0_0 : Int) (h0_1 : Int) (h0_2 : Int) (h0_3 : Bool) (h0_4 : ByteArray) : Tr (Bool × Int × Int × Int × Bool × ByteArray) :=
 let v1 : Int := ((numV xc1 xc2).fst)
 let v2 : Bool := ((numV xc1 xc2).snd)
 let v3 : Bool := (decide (ByteArray.size xc1 ≤ (1048576 : Nat)))
 let v4 : Bool := (decide (xc1 = { data := #[OfNat.ofNat (111 : Nat), OfNat.ofNat (110 : Nat)] }))
 let v5 : ByteArray := (truth v4)
 Tr.ite (decide (xb = (65 : Int))) (Tr.ite v3 (Tr.ret (v2, h0_0, v1, h0_2, h0_3, h0_4)) Tr.fail) (Tr.ite (decide (xb = (66 : Int))) (Tr.ite v3 (Tr.ret (v2, h0_0, h0_1, v1, h0_3, h0_4)) Tr.fail) (Tr.ite (decide (xb = (111 : Int))) (Tr.ite (!xc2) (Tr.ret (decide (xc1 = v5), h0_0, h0_1, h0_2, v4, h0_4)) (Tr.ret (false, h0_0, h0_1, h0_2, v4, h0_4))) (Tr.ite (decide (xb = (116 : Int))) (Tr.ret (xc2, h0_0, h0_1, h0_2, h0_3, xc1)) (Tr.ret (false, h0_0, h0_1, h0_2, h0_3, h0_4)))))
def e70 (r : Bool × Int × Int × Int × Bool × ByteArray) : FRes := { rs := Slot.av (AV.one (Leaf.dat Kd.bool r.fst)), upd := [Blk.box [Leaf.dat (.int .i64) r.snd.fst, Leaf.dat (.int .i64) r.snd.snd.fst, Leaf.dat (.int .i64) r.snd.snd.snd.fst, Leaf.dat Kd.bool r.snd.snd.snd.snd.fst, Leaf.dat Kd.str r.snd.snd.snd.snd.snd]], new := [] }
@[reducible] def a70 : List AK := [AK.c (Leaf.ptr (0 : Nat) (0 : Nat)), AK.d (Kd.int IntKind.i32), AK.d partk]
@[reducible] def b70 : List BK := [boxC]
theorem t70 (xb : Int) (xc1 : ByteArray) (xc2 : Bool) (h0_0 : Int) (h0_1 : Int) (h0_2 : Int) (h0_3 : Bool) (h0_4 : ByteArray) : evFn (Env.withFns E0 G70) Tryd.f70 [PM.data Kd.bool] (akAV a70 (xb, (xc1, xc2, ()), ())) (bkBs b70 ((h0_0, h0_1, h0_2, h0_3, h0_4, ()), ())) = (d70 xb xc1 xc2 h0_0 h0_1 h0_2 h0_3 h0_4).map e70 := by kernel_rfl
def s70 (C : akT a70 → bksT b70 → Bool) (G : akT a70 → bksT b70 → Bool × Int × Int × Int × Bool × ByteArray) : FSpec := aspec a70 b70 e70 (C) (G)
theorem k70 {C : akT a70 → bksT b70 → Bool} {G : akT a70 → bksT b70 → Bool × Int × Int × Int × Bool × ByteArray} (hd : ∀ (xb : Int) (xc1 : ByteArray) (xc2 : Bool) (h0_0 : Int) (h0_1 : Int) (h0_2 : Int) (h0_3 : Bool) (h0_4 : ByteArray), C (xb, (xc1, xc2, ()), ()) ((h0_0, h0_1, h0_2, h0_3, h0_4, ()), ()) = true → (d70 xb xc1 xc2 h0_0 h0_1 h0_2 h0_3 h0_4).val = some (G (xb, (xc1, xc2, ()), ()) ((h0_0, h0_1, h0_2, h0_3, h0_4, ()), ()))) (IO : ItOK Tryd.prog (Env.withFns E0 G70) := by exact itOK_none rfl) (L : ∀ c, Tryd.f70.body = some c → LsOK (evI 2) ((Env.withFns E0 G70).lend 1) c := by exact fun c _ => LsOK_none rfl c) : SpecOK Tryd.prog E0 70 (s70 C G) :=
  aspec_ok (ak := a70) (bl := b70) (e := e70) (c := C) (g := G) (E0 := E0) (E := Env.withFns E0 G70) tab AG70 rfl rfl hm Tryd.func70 (by kernel_rfl) [PM.data Kd.bool] (fun X Y H => by obtain ⟨xb, ⟨⟨xc1, ⟨xc2, _⟩⟩, _⟩⟩ := X; obtain ⟨⟨h0_0, ⟨h0_1, ⟨h0_2, ⟨h0_3, ⟨h0_4, _⟩⟩⟩⟩⟩, _⟩ := Y; exact val_of (t70 xb xc1 xc2 h0_0 h0_1 h0_2 h0_3 h0_4) (hd xb xc1 xc2 h0_0 h0_1 h0_2 h0_3 h0_4 H)) IO L
def d69 (xa1 : ByteArray) (xa2 : ByteArray) (h0_0 : List (ByteArray × Bool × Unit)) : Tr (Bool × List (ByteArray × Bool × Unit)) :=
 Tr.ite (inB (0 : Int) (List.length h0_0)) (Tr.ite (decide (xa1 = (rget partk h0_0 (0 : Int)).fst)) (Tr.ret (!decide (xa1 = { data := #[] }), h0_0)) (Tr.ret (false, h0_0))) Tr.fail
def e69 (r : Bool × List (ByteArray × Bool × Unit)) : FRes := { rs := Slot.av (AV.one (Leaf.dat Kd.bool r.fst)), upd := [Blk.box [Leaf.dat (Kd.sl (Kd.pr Kd.str (Kd.pr Kd.bool Kd.un))) r.snd]], new := [] }
@[reducible] def a69 : List AK := [AK.d wordk, AK.c (Leaf.ptr (0 : Nat) (0 : Nat))]
@[reducible] def b69 : List BK := [BK.box [SK.d (Kd.sl partk)]]
theorem t69 (xa1 : ByteArray) (xa2 : ByteArray) (h0_0 : List (ByteArray × Bool × Unit)) : evFn (E0) Tryd.f69 [PM.data Kd.bool] (akAV a69 ((xa1, xa2, ()), ())) (bkBs b69 ((h0_0, ()), ())) = (d69 xa1 xa2 h0_0).map e69 := by kernel_rfl
def s69 (C : akT a69 → bksT b69 → Bool) (G : akT a69 → bksT b69 → Bool × List (ByteArray × Bool × Unit)) : FSpec := aspec a69 b69 e69 (C) (G)
theorem k69 {C : akT a69 → bksT b69 → Bool} {G : akT a69 → bksT b69 → Bool × List (ByteArray × Bool × Unit)} (hd : ∀ (xa1 : ByteArray) (xa2 : ByteArray) (h0_0 : List (ByteArray × Bool × Unit)), C ((xa1, xa2, ()), ()) ((h0_0, ()), ()) = true → (d69 xa1 xa2 h0_0).val = some (G ((xa1, xa2, ()), ()) ((h0_0, ()), ()))) (IO : ItOK Tryd.prog (E0) := by exact itOK_none rfl) (L : ∀ c, Tryd.f69.body = some c → LsOK (evI 2) ((E0).lend 1) c := by exact fun c _ => LsOK_none rfl c) : SpecOK Tryd.prog E0 69 (s69 C G) :=
  aspec_ok (ak := a69) (bl := b69) (e := e69) (c := C) (g := G) (E0 := E0) (E := E0) tab .nil rfl rfl hm Tryd.func69 (by kernel_rfl) [PM.data Kd.bool] (fun X Y H => by obtain ⟨⟨xa1, ⟨xa2, _⟩⟩, _⟩ := X; obtain ⟨⟨h0_0, _⟩, _⟩ := Y; exact val_of (t69 xa1 xa2 h0_0) (hd xa1 xa2 h0_0 H)) IO L
abbrev w69 : FSpec := s69 (fun _ y => decide (1 ≤ List.length (α := Part) y.1.1)) fun x y => (decide (x.1.1 = (rget partk y.1.1 (0 : Int)).1) && !decide (x.1.1 = ⟨#[]⟩), y.1.1)
theorem wk69 : SpecOK Tryd.prog E0 69 w69 := k69 fun a b l H => by
  have H : 1 ≤ List.length (α := Part) l := of_decide_eq_true H
  have i0 : inB (0 : Int) (List.length (α := Part) l) = true := by rw [inB_iff]; omega
  simp only [d69, Tr.val, i0, cond_true]
  cases decide (a = (rget partk l (0 : Int)).1) <;> rfl
def live68 (key : Nat) : Lv :=
  bif Nat.beq key 2 then { ls := [0, 1, 7, 8] } else bif Nat.beq key 1002 then { ls := [4] } else
  { ls := [] }
abbrev M68 (ls : Nat → VS → Option (Tr (Ex × VS))) : Env := (E0.withFns [(69, w69)]).loops live68 ls
@[reducible] def p68_0 : LP := { n := 19, sl := [.d (Kd.sl (Kd.pr Kd.str (Kd.pr Kd.str Kd.un))), .c (Leaf.fn ( 69) [0]), .d (.int .i64), .d (.int .i64)], bl := [(0, .box [.d (Kd.sl (Kd.pr Kd.str (Kd.pr Kd.bool Kd.un)))])] }
def B68_0 (x0 : List (ByteArray × ByteArray × Unit)) (x2 : Int) (x3 : Int) (h0_0 : List (ByteArray × Bool × Unit)) : Tr (p68_0.T ⊕ (Int × List (ByteArray × Bool × Unit) ⊕ List (ByteArray × Bool × Unit))) :=
 Tr.ite (decide (x3 < x2)) (Tr.ite (inB x3 (List.length x0)) (Tr.ite (decide ((1 : Nat) ≤ List.length h0_0)) (Tr.ite (decide ((rget (Kd.pr Kd.str (Kd.pr Kd.str Kd.un)) x0 x3).fst = (rget partk h0_0 (0 : Int)).fst) && !decide ((rget (Kd.pr Kd.str (Kd.pr Kd.str Kd.un)) x0 x3).fst = { data := #[] })) (Tr.ret (Sum.inr (Sum.inl (x3, h0_0)))) (Tr.ret (Sum.inl ((x0, x2, IntKind.wrap IntKind.i64 (x3 + (1 : Int)), ()), (h0_0, ()), ())))) Tr.fail) Tr.fail) (Tr.ret (Sum.inr (Sum.inr h0_0)))
def X68_0 : (Int × List (ByteArray × Bool × Unit) ⊕ List (ByteArray × Bool × Unit)) → Ex × VS
  | (.inl r) => Prod.mk Ex.ret { n := 19, v := [Slot.av (AV.one (Leaf.dat (.int .i64) r.fst))], h := [( 0, Blk.box [Leaf.dat (Kd.sl (Kd.pr Kd.str (Kd.pr Kd.bool Kd.un))) r.snd])] }
  | (.inr r) => Prod.mk (Ex.exit ( 0)) { n := 19, v := [Slot.av (AV.one Leaf.undef)], h := [( 0, Blk.box [Leaf.dat (Kd.sl (Kd.pr Kd.str (Kd.pr Kd.bool Kd.un))) r])] }
def b68_0 : p68_0.T → Tr (p68_0.T ⊕ (Int × List (ByteArray × Bool × Unit) ⊕ List (ByteArray × Bool × Unit))) := fun ⟨⟨x0, ⟨x2, ⟨x3, _⟩⟩⟩, ⟨⟨h0_0, _⟩, _⟩⟩ => B68_0 x0 x2 x3 h0_0
theorem h68_0 (ls : Nat → VS → Option (Tr (Ex × VS))) (x : p68_0.T) : (evC (evI 2) (lc Tryd.f68 0) (Env.lend (M68 ls) 1) (unV (live68 2) (p68_0.V x))).map (decL 1 (live68 2) (live68 1002)) = (b68_0 x).map (encR p68_0.V X68_0) := by
  obtain ⟨⟨x0, ⟨x2, ⟨x3, _⟩⟩⟩, ⟨⟨h0_0, _⟩, _⟩⟩ := x; kernel_rfl
theorem c68_0 (x : p68_0.T) : canV 1 (live68 2) (unV (live68 2) (p68_0.V x)) = p68_0.V x := by
  obtain ⟨⟨x0, ⟨x2, ⟨x3, _⟩⟩⟩, ⟨⟨h0_0, _⟩, _⟩⟩ := x; kernel_rfl
theorem l68_0 {T : p68_0.T → Tr (Int × List (ByteArray × Bool × Unit) ⊕ List (ByteArray × Bool × Unit))} {ls : Nat → VS → Option (Tr (Ex × VS))} (hls : ∀ x, (Env.lend (M68 ls) 1).ls 2 x = p68_0.ls (fun a => (T a).map X68_0) x) (hS : ∀ x r, (T x).val = some r → Rounds b68_0 x r) : LoopOK (evI 2) (Env.lend (M68 ls) 1) (lc Tryd.f68 0) :=
  loopA 2 (live68 2) (live68 1002) p68_0 b68_0 X68_0 T (by kernel_rfl) rfl rfl hls (h68_0 ls) c68_0 hS
abbrev Wrd := ByteArray × ByteArray × Unit
def dW : Wrd := (⟨#[]⟩, ⟨#[]⟩, ())
def isW (l : List Wrd) (p : ByteArray) (i : Nat) : Bool := decide ((l.getD i dW).1 = p) && !decide ((l.getD i dW).1 = ⟨#[]⟩)
theorem rgetW (l : List Wrd) (i : Nat) : rget wordk l (i : Int) = l.getD i dW := by rw [rget_nat]; rfl
def T68 (x : p68_0.T) : Tr (Int × List Part ⊕ List Part) :=
  .ite (decide ((x.1.2.1 : Int) = (List.length (α := Wrd) x.1.1 : Int) ∧ (x.1.2.2.1 : Int) = 0 ∧ List.length (α := Wrd) x.1.1 ≤ 1048576 ∧ 1 ≤ List.length (α := Part) x.2.1.1))
    (.ite (findN (isW x.1.1 (rget partk x.2.1.1 (0 : Int)).1) (List.length (α := Wrd) x.1.1) 0).isSome (.ret (.inl ((((findN (isW x.1.1 (rget partk x.2.1.1 (0 : Int)).1) (List.length (α := Wrd) x.1.1) 0).getD 0 : Nat) : Int), x.2.1.1))) (.ret (.inr x.2.1.1))) .fail
abbrev E68 : Env := M68 fun key x => bif Nat.beq key 2 then p68_0.ls (fun a => (T68 a).map X68_0) x else none
theorem L68 : LoopOK (evI 2) (E68.lend 1) (lc Tryd.f68 0) := by
  refine l68_0 (T := T68) (fun x => rfl) ?_
  rintro ⟨⟨l, n, i, z⟩, ⟨g, z1⟩, z2⟩ r h
  obtain ⟨h1, h2⟩ := pre_val h
  obtain ⟨e1, e2, e3, e4⟩ := of_decide_eq_true h1
  dsimp only at e1 e2 e3 e4 h2
  subst e1
  subst e2
  have := Rounds.find (B := b68_0) (N := l.length) (fun i => ((l, (l.length : Int), (i : Int), ()), (g, ()), ())) (isW l (rget partk g (0 : Int)).1) (fun i => .inl ((i : Int), g)) (.inr g) (fun i hi => ?_) ?_
  · cases hf : findN (isW l (rget partk g (0 : Int)).1) l.length 0 <;> simp only [hf, Tr.val, Option.isSome_none, Option.isSome_some, Option.getD_some, cond_true, cond_false, outN] at h2 this <;> cases h2 <;> exact this
  · have e4 : decide (1 ≤ List.length (α := Part) g) = true := decide_eq_true e4
    unfold isW
    simp only [b68_0, B68_0, Tr.val, inB_nat hi, rgetW, e4, show ((i : Int) < (l.length : Int)) by omega, decide_true, cond_true, wrap64_nat (show i ≤ 1048576 by omega)]
    cases decide ((l.getD i dW).1 = (rget partk g (0 : Int)).1) <;> cases decide ((l.getD i dW).1 = ⟨#[]⟩) <;> rfl
  · simp only [b68_0, B68_0, Tr.val, show ¬ ((l.length : Int) < (l.length : Int)) by omega, decide_false, cond_false]
def d68 (xa : List (ByteArray × ByteArray × Unit)) (h0_0 : List (ByteArray × Bool × Unit)) : Tr (Int × List (ByteArray × Bool × Unit)) :=
 let v1 : Int := ((↑(List.length xa) : Int))
 let v2 : Int := ((↑(List.length xa) : Int))
 Tr.ite (decide (v2 = v1 ∧ (0 : Int) = (0 : Int) ∧ List.length xa ≤ (1048576 : Nat) ∧ (1 : Nat) ≤ List.length h0_0)) (Tr.ite (Option.isSome (findN (isW xa (rget partk h0_0 (0 : Int)).fst) (List.length xa) (0 : Nat))) (Tr.ret ((↑(Option.getD (findN (isW xa (rget partk h0_0 (0 : Int)).fst) (List.length xa) (0 : Nat)) (0 : Nat)) : Int), h0_0)) (Tr.ret ((-1 : Int), h0_0))) Tr.fail
def e68 (r : Int × List (ByteArray × Bool × Unit)) : FRes := { rs := Slot.av (AV.one (Leaf.dat (.int .i64) r.fst)), upd := [Blk.box [Leaf.dat (Kd.sl (Kd.pr Kd.str (Kd.pr Kd.bool Kd.un))) r.snd]], new := [] }
@[reducible] def a68 : List AK := [AK.d (Kd.sl wordk), AK.c (Leaf.fn (69 : FuncId) [(0 : Nat)])]
@[reducible] def b68 : List BK := [BK.box [SK.d (Kd.sl partk)]]
theorem t68 (xa : List (ByteArray × ByteArray × Unit)) (h0_0 : List (ByteArray × Bool × Unit)) : evFn (E68) Tryd.f68 [PM.data (.int .i64)] (akAV a68 (xa, ())) (bkBs b68 ((h0_0, ()), ())) = (d68 xa h0_0).map e68 := by kernel_rfl
def s68 (C : akT a68 → bksT b68 → Bool) (G : akT a68 → bksT b68 → Int × List (ByteArray × Bool × Unit)) : FSpec := aspec a68 b68 e68 (C) (G)
theorem k68 {C : akT a68 → bksT b68 → Bool} {G : akT a68 → bksT b68 → Int × List (ByteArray × Bool × Unit)} (hd : ∀ (xa : List (ByteArray × ByteArray × Unit)) (h0_0 : List (ByteArray × Bool × Unit)), C (xa, ()) ((h0_0, ()), ()) = true → (d68 xa h0_0).val = some (G (xa, ()) ((h0_0, ()), ()))) (IO : ItOK Tryd.prog (E68) := by exact itOK_none rfl) (L : ∀ c, Tryd.f68.body = some c → LsOK (evI 2) ((E68).lend 1) c := by exact fun c _ => LsOK_none rfl c) : SpecOK Tryd.prog E0 68 (s68 C G) :=
  aspec_ok (ak := a68) (bl := b68) (e := e68) (c := C) (g := G) (E0 := E0) (E := E68) tab (.cons wk69 .nil) rfl rfl hm Tryd.func68 (by kernel_rfl) [PM.data (.int .i64)] (fun X Y H => by obtain ⟨xa, _⟩ := X; obtain ⟨⟨h0_0, _⟩, _⟩ := Y; exact val_of (t68 xa h0_0) (hd xa h0_0 H)) IO L
abbrev w68 : FSpec := s68 (fun x y => decide (List.length (α := Wrd) x.1 ≤ 1048576 ∧ 1 ≤ List.length (α := Part) y.1.1)) fun x y => (optI' (findN (isW x.1 (rget partk y.1.1 (0 : Int)).1) (List.length (α := Wrd) x.1) 0), y.1.1)
theorem wk68 : SpecOK Tryd.prog E0 68 w68 := by
  refine k68 (fun l g H => ?_) (L := ls_ok (lcs := [lc Tryd.f68 0]) (rgs := []) (by kernel_rfl) (by kernel_rfl) L68 trivial)
  have H : List.length (α := Wrd) l ≤ 1048576 ∧ 1 ≤ List.length (α := Part) g := of_decide_eq_true H
  simp only [d68, Tr.val, H, and_self, decide_true, cond_true]
  cases findN (isW l (rget partk g (0 : Int)).1) l.length 0 <;> rfl
def readV (k : Int) (p : Part) (op a b : Int) (on : Bool) (t : ByteArray) : Bool × Int × Int × Int × Bool × ByteArray :=
  bif decide (k = 65) then ((numV p.1 p.2.1).2, op, (numV p.1 p.2.1).1, b, on, t) else bif decide (k = 66) then ((numV p.1 p.2.1).2, op, a, (numV p.1 p.2.1).1, on, t) else
  bif decide (k = 111) then (!p.2.1 && decide (p.1 = truth (decide (p.1 = ⟨#[111, 110]⟩))), op, a, b, decide (p.1 = ⟨#[111, 110]⟩), t) else bif decide (k = 116) then (p.2.1, op, a, b, on, p.1) else (false, op, a, b, on, t)
abbrev w70 : FSpec := s70 (fun x _ => decide (ByteArray.size x.2.1.1 ≤ 1048576)) fun x y => readV x.1 x.2.1 y.1.1 y.1.2.1 y.1.2.2.1 y.1.2.2.2.1 y.1.2.2.2.2.1
theorem wk70 : SpecOK Tryd.prog E0 70 w70 := k70 fun k s q op a b on t H => by
  have H : decide (s.size ≤ 1048576) = true := H
  show _ = some (readV k (s, q, ()) op a b on t)
  unfold readV
  simp only [d70, Tr.val, H, cond_true]
  cases decide (k = 65) with
  | true => rfl
  | false =>
    cases decide (k = 66) with
    | true => rfl
    | false =>
      cases decide (k = 111) with
      | true => cases q <;> rfl
      | false => cases decide (k = 116) <;> rfl
abbrev G27 : List (Nat × FSpec) := [(67, w67), (68, w68), (70, w70), (33, w33)]
theorem AG27 : AllFn Tryd.prog E0 G27 := .cons wk67 (.cons wk68 (.cons wk70 (.cons wk33 .nil)))
def live27 (key : Nat) : Lv :=
  bif Nat.beq key 13 then { ls := [2, 4, 7, 50] } else bif Nat.beq key 1013 then { ls := [2, 3, 7] } else
  { ls := [] }
abbrev M27 (ls : Nat → VS → Option (Tr (Ex × VS))) : Env := (E0.withFns G27).loops live27 ls
@[reducible] def p27_0 : LP := { n := 69, sl := [.c (Leaf.ptr ( 0) ( 0)), .c (Leaf.ptr ( 1) ( 0)), .c (Leaf.ptr ( 2) ( 0)), .c (Leaf.ptr ( 3) ( 0))], bl := [(0, .box [.d (.int .i64), .d (.int .i64), .d (.int .i64), .d (Kd.bool), .d (Kd.str)]), (1, .box [.d (Kd.sl (Kd.pr Kd.str (Kd.pr Kd.bool Kd.un)))]), (2, .box [.d (.int .i64), .d (.int .i64), .d (.int .i64), .d (Kd.bool), .d (Kd.str)]), (3, .sit)] }
def B27_0 (h0_0 : Int) (h0_1 : Int) (h0_2 : Int) (h0_3 : Bool) (h0_4 : ByteArray) (h1_0 : List (ByteArray × Bool × Unit)) (h2_0 : Int) (h2_1 : Int) (h2_2 : Int) (h2_3 : Bool) (h2_4 : ByteArray) (h3_s : ByteArray) (h3_p : Int) : Tr (p27_0.T ⊕ (Int × Int × Int × Int × Bool × ByteArray × Int × Int × Int × Bool × ByteArray ⊕ Int × Int × Int × Bool × ByteArray × Int × Int × Int × Bool × ByteArray)) :=
 let v1 : Int := (IntKind.wrap IntKind.i64 ((1 : Int) + h3_p))
 let v2 : Bool := (decide (h3_p < (↑(ByteArray.size h3_s) : Int)))
 let v3 : Bool × Int × Int × Int × Bool × ByteArray := (readV (rnAt h3_s h3_p) (rget (Kd.pr Kd.str (Kd.pr Kd.bool Kd.un)) h1_0 v1) h2_0 h2_1 h2_2 h2_3 h2_4)
 let v4 : Int × Int × Int × Bool × ByteArray := (v3.snd)
 let v5 : Int × Int × Bool × ByteArray := (v4.snd)
 let v6 : Int := (v4.fst)
 let v7 : Int × Bool × ByteArray := (v5.snd)
 let v8 : Int := (v5.fst)
 let v9 : Bool × ByteArray := (v7.snd)
 let v10 : Int := (v7.fst)
 let v11 : Bool := (v9.fst)
 let v12 : ByteArray := (v9.snd)
 Tr.ite v2 (Tr.ite v2 (Tr.ite v2 (Tr.ite (inB v1 (List.length h1_0)) (Tr.ite (decide (ByteArray.size (rget (Kd.pr Kd.str (Kd.pr Kd.bool Kd.un)) h1_0 v1).fst ≤ (1048576 : Nat))) (Tr.ite (!v3.fst) (Tr.ret (Sum.inr (Sum.inl ((4 : Int), (0 : Int), (0 : Int), (0 : Int), false, ByteArray.empty, v6, v8, v10, v11, v12)))) (Tr.ret (Sum.inl ((), (h0_0, h0_1, h0_2, h0_3, h0_4, ()), (h1_0, ()), (v6, v8, v10, v11, v12, ()), (h3_s, nxtP h3_s h3_p, ()), ())))) Tr.fail) Tr.fail) Tr.fail) Tr.fail) (Tr.ret (Sum.inr (Sum.inr (h0_0, h0_1, h0_2, h0_3, h0_4, h2_0, h2_1, h2_2, h2_3, h2_4))))
def X27_0 : (Int × Int × Int × Int × Bool × ByteArray × Int × Int × Int × Bool × ByteArray ⊕ Int × Int × Int × Bool × ByteArray × Int × Int × Int × Bool × ByteArray) → Ex × VS
  | (.inl r) => Prod.mk Ex.ret { n := 69, v := [Slot.av (AV.one (Leaf.ptr ( 0) ( 0))), Slot.av (AV.one (Leaf.dat (.int .i64) r.fst)), Slot.av (AV.one (Leaf.ptr ( 1) ( 0)))], h := [( 0, Blk.box [Leaf.dat (.int .i64) r.snd.fst, Leaf.dat (.int .i64) r.snd.snd.fst, Leaf.dat (.int .i64) r.snd.snd.snd.fst, Leaf.dat Kd.bool r.snd.snd.snd.snd.fst, Leaf.dat Kd.str r.snd.snd.snd.snd.snd.fst]), ( 1, Blk.box [Leaf.dat (.int .i64) r.snd.snd.snd.snd.snd.snd.fst, Leaf.dat (.int .i64) r.snd.snd.snd.snd.snd.snd.snd.fst, Leaf.dat (.int .i64) r.snd.snd.snd.snd.snd.snd.snd.snd.fst, Leaf.dat Kd.bool r.snd.snd.snd.snd.snd.snd.snd.snd.snd.fst, Leaf.dat Kd.str r.snd.snd.snd.snd.snd.snd.snd.snd.snd.snd])] }
  | (.inr r) => Prod.mk (Ex.exit ( 0)) { n := 69, v := [Slot.av (AV.one (Leaf.ptr ( 0) ( 0))), Slot.av (AV.one Leaf.undef), Slot.av (AV.one (Leaf.ptr ( 1) ( 0)))], h := [( 0, Blk.box [Leaf.dat (.int .i64) r.fst, Leaf.dat (.int .i64) r.snd.fst, Leaf.dat (.int .i64) r.snd.snd.fst, Leaf.dat Kd.bool r.snd.snd.snd.fst, Leaf.dat Kd.str r.snd.snd.snd.snd.fst]), ( 1, Blk.box [Leaf.dat (.int .i64) r.snd.snd.snd.snd.snd.fst, Leaf.dat (.int .i64) r.snd.snd.snd.snd.snd.snd.fst, Leaf.dat (.int .i64) r.snd.snd.snd.snd.snd.snd.snd.fst, Leaf.dat Kd.bool r.snd.snd.snd.snd.snd.snd.snd.snd.fst, Leaf.dat Kd.str r.snd.snd.snd.snd.snd.snd.snd.snd.snd])] }
def b27_0 : p27_0.T → Tr (p27_0.T ⊕ (Int × Int × Int × Int × Bool × ByteArray × Int × Int × Int × Bool × ByteArray ⊕ Int × Int × Int × Bool × ByteArray × Int × Int × Int × Bool × ByteArray)) := fun ⟨_, ⟨⟨h0_0, ⟨h0_1, ⟨h0_2, ⟨h0_3, ⟨h0_4, _⟩⟩⟩⟩⟩, ⟨⟨h1_0, _⟩, ⟨⟨h2_0, ⟨h2_1, ⟨h2_2, ⟨h2_3, ⟨h2_4, _⟩⟩⟩⟩⟩, ⟨⟨h3_s, ⟨h3_p, _⟩⟩, _⟩⟩⟩⟩⟩ => B27_0 h0_0 h0_1 h0_2 h0_3 h0_4 h1_0 h2_0 h2_1 h2_2 h2_3 h2_4 h3_s h3_p
theorem h27_0 (ls : Nat → VS → Option (Tr (Ex × VS))) (x : p27_0.T) : (evC (evI 2) (lc Tryd.f27 0) (Env.lend (M27 ls) 0) (unV (live27 13) (p27_0.V x))).map (decL 0 (live27 13) (live27 1013)) = (b27_0 x).map (encR p27_0.V X27_0) := by
  obtain ⟨_, ⟨⟨h0_0, ⟨h0_1, ⟨h0_2, ⟨h0_3, ⟨h0_4, _⟩⟩⟩⟩⟩, ⟨⟨h1_0, _⟩, ⟨⟨h2_0, ⟨h2_1, ⟨h2_2, ⟨h2_3, ⟨h2_4, _⟩⟩⟩⟩⟩, ⟨⟨h3_s, ⟨h3_p, _⟩⟩, _⟩⟩⟩⟩⟩ := x; kernel_rfl
theorem c27_0 (x : p27_0.T) : canV 0 (live27 13) (unV (live27 13) (p27_0.V x)) = p27_0.V x := by
  obtain ⟨_, ⟨⟨h0_0, ⟨h0_1, ⟨h0_2, ⟨h0_3, ⟨h0_4, _⟩⟩⟩⟩⟩, ⟨⟨h1_0, _⟩, ⟨⟨h2_0, ⟨h2_1, ⟨h2_2, ⟨h2_3, ⟨h2_4, _⟩⟩⟩⟩⟩, ⟨⟨h3_s, ⟨h3_p, _⟩⟩, _⟩⟩⟩⟩⟩ := x; kernel_rfl
theorem l27_0 {T : p27_0.T → Tr (Int × Int × Int × Int × Bool × ByteArray × Int × Int × Int × Bool × ByteArray ⊕ Int × Int × Int × Bool × ByteArray × Int × Int × Int × Bool × ByteArray)} {ls : Nat → VS → Option (Tr (Ex × VS))} (hls : ∀ x, (Env.lend (M27 ls) 0).ls 13 x = p27_0.ls (fun a => (T a).map X27_0) x) (hS : ∀ x r, (T x).val = some r → Rounds b27_0 x r) : LoopOK (evI 2) (Env.lend (M27 ls) 0) (lc Tryd.f27 0) :=
  loopA 13 (live27 13) (live27 1013) p27_0 b27_0 X27_0 T (by kernel_rfl) rfl rfl hls (h27_0 ls) c27_0 hS
def readC (k : Int) (p : Part) (c : C5) : Bool × C5 := readV k p c.1 c.2.1 c.2.2.1 c.2.2.2.1 c.2.2.2.2
def pD : Part := (ByteArray.empty, false, ())
def readsI : List Int → List Part → Nat → C5 → Bool × C5
  | [], _, _, c => (true, c)
  | k :: r, l, i, c => bif (readC k (l.getD i pD) c).1 then readsI r l (i + 1) (readC k (l.getD i pD) c).2 else (false, (readC k (l.getD i pD) c).2)
theorem rgetP (l : List Part) (i : Nat) : rget partk l (i : Int) = l.getD i pD := by rw [rget_nat]; rfl
def smallP (l : List Part) : Bool := l.all fun p => decide (p.1.size ≤ 1048576)
def T27 (x : p27_0.T) : Tr (Int × Int × Int × Int × Bool × ByteArray × Int × Int × Int × Bool × ByteArray ⊕ Int × Int × Int × Bool × ByteArray × Int × Int × Int × Bool × ByteArray) :=
  match x with
  | ⟨_, ⟨o0, o1, o2, o3, o4, _⟩, ⟨l, _⟩, ⟨op, a, b, on, t, _⟩, ⟨s, p, _⟩, _⟩ =>
    .ite (decide ((p : Int) = 0 ∧ List.length (α := Part) l = 1 + ByteArray.size s ∧ List.length (α := Part) l ≤ 1048576) && (isHas s && smallP l))
      (.ite (readsI (bytesL s) l 1 (op, a, b, on, t)).1 (.ret (.inr (o0, o1, o2, o3, o4, (readsI (bytesL s) l 1 (op, a, b, on, t)).2)))
        (.ret (.inl (4, 0, 0, 0, false, ByteArray.empty, (readsI (bytesL s) l 1 (op, a, b, on, t)).2)))) .fail
abbrev E27 : Env := M27 fun key x => bif Nat.beq key 13 then p27_0.ls (fun a => (T27 a).map X27_0) x else none
theorem round27 {o0 o1 o2 : Int} {o3 : Bool} {o4 : ByteArray} {l : List Part} {c : C5} {s : ByteArray} {i n : Nat} {k : Int} (hi : i < s.size) (hs : s.size ≤ 10) (hl : l.length = 1 + s.size) (h2 : smallP l = true) (hr : rnAt s (i : Int) = k) (hn : nxtP s (i : Int) = (n : Int)) :
    (b27_0 ((), (o0, o1, o2, o3, o4, ()), (l, ()), (c.1, c.2.1, c.2.2.1, c.2.2.2.1, c.2.2.2.2, ()), (s, (i : Int), ()), ())).val =
      bif (readC k (l.getD (1 + i) pD) c).1 then some (.inl ((), (o0, o1, o2, o3, o4, ()), (l, ()), ((readC k (l.getD (1 + i) pD) c).2.1, (readC k (l.getD (1 + i) pD) c).2.2.1, (readC k (l.getD (1 + i) pD) c).2.2.2.1, (readC k (l.getD (1 + i) pD) c).2.2.2.2.1, (readC k (l.getD (1 + i) pD) c).2.2.2.2.2, ()), (s, (n : Int), ()), ()))
      else some (.inr (.inl (4, 0, 0, 0, false, ByteArray.empty, (readC k (l.getD (1 + i) pD) c).2))) := by
  have lt : decide ((i : Int) < (s.size : Int)) = true := decide_eq_true (by omega)
  have w : IntKind.wrap IntKind.i64 (1 + (i : Int)) = ((1 + i : Nat) : Int) := by rw [Go.Ev.w64 (by omega) (by omega)]; omega
  have il : inB ((1 + i : Nat) : Int) l.length = true := inB_nat (by omega)
  have sz : decide ((l.getD (1 + i) pD).1.size ≤ 1048576) = true := by
    unfold smallP at h2
    rw [List.all_eq_true] at h2
    rw [getD_el (by omega)]
    exact h2 _ (List.getElem_mem _)
  unfold readC
  simp only [b27_0, B27_0, Tr.val, lt, w, il, rgetP, sz, hr, hn, cond_true]
  cases (readV k (l.getD (1 + i) pD) c.1 c.2.1 c.2.2.1 c.2.2.2.1 c.2.2.2.2).1 <;> rfl
theorem L27 : LoopOK (evI 2) (E27.lend 0) (lc Tryd.f27 0) := by
  refine l27_0 (T := T27) (fun x => rfl) ?_
  rintro ⟨z0, ⟨o0, o1, o2, o3, o4, z1⟩, ⟨l, z2⟩, ⟨op, a, b, on, t, z3⟩, ⟨s, p, z4⟩, z5⟩ r h
  obtain ⟨g1, g2⟩ := pre_val h
  rw [Bool.and_eq_true, Bool.and_eq_true] at g1
  obtain ⟨g0, e2, hp⟩ := g1
  obtain ⟨e1, hl, hl2⟩ : (p : Int) = 0 ∧ List.length (α := Part) l = 1 + s.size ∧ List.length (α := Part) l ≤ 1048576 := of_decide_eq_true g0
  have hp : smallP l = true := hp
  subst e1
  have main : Rounds b27_0 (z0, (o0, o1, o2, o3, o4, z1), (l, z2), (op, a, b, on, t, z3), (s, (0 : Int), z4), z5) (bif (readsI (bytesL s) l 1 (op, a, b, on, t)).1 then .inr (o0, o1, o2, o3, o4, (readsI (bytesL s) l 1 (op, a, b, on, t)).2)
      else .inl (4, 0, 0, 0, false, ByteArray.empty, (readsI (bytesL s) l 1 (op, a, b, on, t)).2)) := by
    unfold isHas at e2
    simp only [Bool.or_eq_true, decide_eq_true_eq] at e2
    have one : ∀ (k : Int) (s : ByteArray), bytesL s = [k] → l.length = 1 + s.size → rnAt s ((0 : Nat) : Int) = k → nxtP s ((0 : Nat) : Int) = ((1 : Nat) : Int) →
        Rounds b27_0 (z0, (o0, o1, o2, o3, o4, z1), (l, z2), (op, a, b, on, t, z3), (s, (0 : Int), z4), z5) (bif (readsI (bytesL s) l 1 (op, a, b, on, t)).1 then .inr (o0, o1, o2, o3, o4, (readsI (bytesL s) l 1 (op, a, b, on, t)).2)
          else .inl (4, 0, 0, 0, false, ByteArray.empty, (readsI (bytesL s) l 1 (op, a, b, on, t)).2)) := by
      intro k s hb hl hr hn
      have hz : s.size = 1 := by rw [← bytesL_size, hb]; rfl
      have h1 := round27 (o0 := o0) (o1 := o1) (o2 := o2) (o3 := o3) (o4 := o4) (c := (op, a, b, on, t)) (i := 0) (by omega) (by omega) hl hp hr hn
      rw [hb]
      unfold readsI
      cases hc : (readC k (l.getD 1 pD) (op, a, b, on, t)).1 with
      | false =>
        rw [show 1 + 0 = 1 from rfl, hc] at h1
        exact .exit h1
      | true =>
        rw [show 1 + 0 = 1 from rfl, hc] at h1
        refine .step h1 (.exit ?_)
        simp only [b27_0, B27_0, Tr.val, hz, show ¬ (((1 : Nat) : Int) < ((1 : Nat) : Int)) by omega, decide_false, cond_false]
        rfl
    have two : ∀ (k k' : Int) (s : ByteArray), bytesL s = [k, k'] → l.length = 1 + s.size → rnAt s ((0 : Nat) : Int) = k → nxtP s ((0 : Nat) : Int) = ((1 : Nat) : Int) → rnAt s ((1 : Nat) : Int) = k' → nxtP s ((1 : Nat) : Int) = ((2 : Nat) : Int) →
        Rounds b27_0 (z0, (o0, o1, o2, o3, o4, z1), (l, z2), (op, a, b, on, t, z3), (s, (0 : Int), z4), z5) (bif (readsI (bytesL s) l 1 (op, a, b, on, t)).1 then .inr (o0, o1, o2, o3, o4, (readsI (bytesL s) l 1 (op, a, b, on, t)).2)
          else .inl (4, 0, 0, 0, false, ByteArray.empty, (readsI (bytesL s) l 1 (op, a, b, on, t)).2)) := by
      intro k k' s hb hl hr hn hr' hn'
      have hz : s.size = 2 := by rw [← bytesL_size, hb]; rfl
      have h1 := round27 (o0 := o0) (o1 := o1) (o2 := o2) (o3 := o3) (o4 := o4) (c := (op, a, b, on, t)) (i := 0) (by omega) (by omega) hl hp hr hn
      have h2 := round27 (o0 := o0) (o1 := o1) (o2 := o2) (o3 := o3) (o4 := o4) (c := (readC k (l.getD 1 pD) (op, a, b, on, t)).2) (i := 1) (by omega) (by omega) hl hp hr' hn'
      rw [hb]
      have e0 : readsI [k, k'] l 1 (op, a, b, on, t) = bif (readC k (l.getD 1 pD) (op, a, b, on, t)).1 then (bif (readC k' (l.getD 2 pD) (readC k (l.getD 1 pD) (op, a, b, on, t)).2).1 then (true, (readC k' (l.getD 2 pD) (readC k (l.getD 1 pD) (op, a, b, on, t)).2).2) else
        (false, (readC k' (l.getD 2 pD) (readC k (l.getD 1 pD) (op, a, b, on, t)).2).2)) else (false, (readC k (l.getD 1 pD) (op, a, b, on, t)).2) := rfl
      rw [e0]
      cases hc : (readC k (l.getD 1 pD) (op, a, b, on, t)).1 with
      | false =>
        rw [show 1 + 0 = 1 from rfl, hc] at h1
        exact .exit h1
      | true =>
        rw [show 1 + 0 = 1 from rfl, hc] at h1
        refine .step h1 ?_
        rw [cond_true]
        cases hc2 : (readC k' (l.getD 2 pD) (readC k (l.getD 1 pD) (op, a, b, on, t)).2).1 with
        | false =>
          rw [show 1 + 1 = 2 from rfl, hc2] at h2
          exact .exit h2
        | true =>
          rw [show 1 + 1 = 2 from rfl, hc2] at h2
          refine .step h2 (.exit ?_)
          simp only [b27_0, B27_0, Tr.val, hz, show ¬ (((2 : Nat) : Int) < ((2 : Nat) : Int)) by omega, decide_false, cond_false]
          rfl
    rcases e2 with rfl | rfl | rfl | rfl | rfl
    · exact .exit rfl
    · exact one 65 _ rfl hl (by decide +kernel) (by decide +kernel)
    · exact two 65 66 _ rfl hl (by decide +kernel) (by decide +kernel) (by decide +kernel) (by decide +kernel)
    · exact one 111 _ rfl hl (by decide +kernel) (by decide +kernel)
    · exact one 116 _ rfl hl (by decide +kernel) (by decide +kernel)
  cases hc : (readsI (bytesL s) l 1 (op, a, b, on, t)).1 <;> rw [hc] at g2 main <;> cases g2 <;> exact main
def d27 (xa : ByteArray) : Tr (Int × Int × Int × Bool × ByteArray × Int) :=
 let v1 : List Part := ((okV (cutV (bytesL xa))).fst)
 let v2 : Int := ((↑(List.length v1) : Int))
 let v3 : Int := (optI' (findN (isW U.wordsL (rget partk v1 (0 : Int)).fst) (22 : Nat) (0 : Nat)))
 let v4 : Bool := (inB v3 (22 : Nat))
 let v5 : Int := (IntKind.wrap IntKind.i64 ((1 : Int) + (↑(ByteArray.size (rget wordk U.wordsL v3).snd.fst) : Int)))
 let v6 : Bool × C5 := (readsI (bytesL (rget wordk U.wordsL v3).snd.fst) v1 (1 : Nat) (v3, (0 : Int), (0 : Int), false, ByteArray.empty))
 let v7 : Int := (v6.snd.fst)
 let v8 : Int × Int × Bool × ByteArray := (v6.snd.snd)
 let v9 : Int × Bool × ByteArray := (v8.snd)
 let v10 : Int := (v8.fst)
 let v11 : Int := (v9.fst)
 let v12 : Bool × ByteArray := (v9.snd)
 let v13 : Bool := (v12.fst)
 let v14 : ByteArray := (v12.snd)
 Tr.ite (decide (ByteArray.size xa ≤ (1048576 : Nat))) (Tr.ite (!(okV (cutV (bytesL xa))).snd) (Tr.ret ((0 : Int), (0 : Int), (0 : Int), false, ByteArray.empty, (4 : Int))) (Tr.ite (decide (v2 = (0 : Int))) (Tr.ret ((0 : Int), (0 : Int), (0 : Int), false, ByteArray.empty, (5 : Int))) (Tr.ite (inB (0 : Int) (List.length v1)) (Tr.ite (rget (Kd.pr Kd.str (Kd.pr Kd.bool Kd.un)) v1 (0 : Int)).snd.fst (Tr.ret ((0 : Int), (0 : Int), (0 : Int), false, ByteArray.empty, (5 : Int))) (Tr.ite (decide ((22 : Nat) ≤ (1048576 : Nat) ∧ (1 : Nat) ≤ List.length v1)) (Tr.ite (decide (v3 < (0 : Int))) (Tr.ret ((0 : Int), (0 : Int), (0 : Int), false, ByteArray.empty, (5 : Int))) (Tr.ite v4 (Tr.ite (!decide (v2 = v5)) (Tr.ret ((0 : Int), (0 : Int), (0 : Int), false, ByteArray.empty, (4 : Int))) (Tr.ite v4 (Tr.ite (decide ((0 : Int) = (0 : Int) ∧ List.length v1 = (1 : Nat) + ByteArray.size (rget wordk U.wordsL v3).snd.fst ∧ List.length v1 ≤ (1048576 : Nat)) && (isHas (rget wordk U.wordsL v3).snd.fst && smallP v1)) (Tr.ite v6.fst (Tr.ite (decide (ByteArray.size v14 ≤ (1048576 : Nat))) (Tr.ite (!rightV v7 v10 v11 v13 v14) (Tr.ret ((0 : Int), (0 : Int), (0 : Int), false, ByteArray.empty, (4 : Int))) (Tr.ret (v7, v10, v11, v13, v14, (0 : Int)))) Tr.fail) (Tr.ret ((0 : Int), (0 : Int), (0 : Int), false, ByteArray.empty, (4 : Int)))) Tr.fail) Tr.fail)) Tr.fail)) Tr.fail)) Tr.fail))) Tr.fail
def e27 (r : Int × Int × Int × Bool × ByteArray × Int) : FRes := { rs := Slot.tup [AV.agg [Leaf.dat (.int .i64) r.fst, Leaf.dat (.int .i64) r.snd.fst, Leaf.dat (.int .i64) r.snd.snd.fst, Leaf.dat Kd.bool r.snd.snd.snd.fst, Leaf.dat Kd.str r.snd.snd.snd.snd.fst], AV.one (Leaf.dat (.int .i64) r.snd.snd.snd.snd.snd)], upd := [], new := [] }
@[reducible] def a27 : List AK := [AK.d Kd.str]
@[reducible] def b27 : List BK := []
theorem t27 (xa : ByteArray) : evFn (E27) Tryd.f27 [PM.data cmdk, PM.data (.int .i64)] (akAV a27 (xa, ())) (bkBs b27 ()) = (d27 xa).map e27 := by kernel_rfl
def s27 (C : akT a27 → Bool) (G : akT a27 → Int × Int × Int × Bool × ByteArray × Int) : FSpec := aspec a27 b27 e27 (fun x _ => C x) (fun x _ => G x)
theorem k27 {C : akT a27 → Bool} {G : akT a27 → Int × Int × Int × Bool × ByteArray × Int} (hd : ∀ (xa : ByteArray), C (xa, ()) = true → (d27 xa).val = some (G (xa, ()))) (IO : ItOK Tryd.prog (E27) := by exact itOK_none rfl) (L : ∀ c, Tryd.f27.body = some c → LsOK (evI 2) ((E27).lend 0) c := by exact fun c _ => LsOK_none rfl c) : SpecOK Tryd.prog E0 27 (s27 C G) :=
  aspec_ok (ak := a27) (bl := b27) (e := e27) (c := fun x _ => C x) (g := fun x _ => G x) (E0 := E0) (E := E27) tab AG27 rfl rfl hm Tryd.func27 (by kernel_rfl) [PM.data cmdk, PM.data (.int .i64)] (fun X Y H => by obtain ⟨xa, _⟩ := X; exact val_of (t27 xa) (hd xa H)) IO L
theorem strOf_size (l : List Int) : (strOf l).size = l.length := by
  unfold strOf
  show (List.map _ _).toArray.size = _
  simp
theorem cut_small : ∀ (n : Nat) (l : List Int), l.length ≤ n → (cutN n l).1.length ≤ l.length ∧ ∀ p ∈ (cutN n l).1, p.1.size ≤ l.length
  | 0, l, _ => ⟨Nat.zero_le _, fun p hp => by cases hp⟩
  | n + 1, [], _ => ⟨Nat.zero_le _, fun p hp => by cases hp⟩
  | n + 1, c :: r, h => by
    simp only [List.length_cons] at h ⊢
    unfold cutN
    cases decide (c = 32) with
    | true =>
      obtain ⟨h1, h2⟩ := cut_small n r (by omega)
      exact ⟨Nat.le_trans h1 (Nat.le_succ _), fun p hp => Nat.le_trans (h2 p hp) (Nat.le_succ _)⟩
    | false =>
      rw [cond_false]
      cases decide (c = 34) with
      | true =>
        rw [cond_true]
        cases hq : quoN r with
        | none => exact ⟨Nat.zero_le _, fun p hp => by cases hp⟩
        | some x =>
          have hl := quoN_len _ _ _ (Nat.le_refl _) hq
          simp only []
          cases badR x.2 with
          | true => exact ⟨Nat.zero_le _, fun p hp => by cases hp⟩
          | false =>
            obtain ⟨h1, h2⟩ := cut_small n x.2 (by omega)
            rw [cond_false]
            refine ⟨by simp only [List.length_cons]; omega, fun p hp => ?_⟩
            rw [List.mem_cons] at hp
            rcases hp with rfl | hp
            · rw [strOf_size]; omega
            · have := h2 p hp; omega
      | false =>
        rw [cond_false]
        have hl := dropW_len notB r
        have hl2 : (r.takeWhile notB).length ≤ r.length := by
          have := congrArg List.length (List.takeWhile_append_dropWhile (p := notB) (l := r))
          rw [List.length_append] at this; omega
        obtain ⟨h1, h2⟩ := cut_small n (r.dropWhile notB) (by omega)
        refine ⟨by simp only [List.length_cons]; omega, fun p hp => ?_⟩
        rw [List.mem_cons] at hp
        rcases hp with rfl | hp
        · rw [strOf_size, List.length_cons]; omega
        · have := h2 p hp; omega
theorem ok_small {s : ByteArray} (hs : s.size ≤ 1048576) : (okV (cutV (bytesL s))).1.length ≤ 1048576 ∧ smallP (okV (cutV (bytesL s))).1 = true := by
  have hl := bytesL_size s
  obtain ⟨h1, h2⟩ := cut_small _ (bytesL s) (Nat.le_refl _)
  unfold okV smallP
  cases (cutV (bytesL s)).2 with
  | false => exact ⟨Nat.zero_le _, rfl⟩
  | true =>
    refine ⟨Nat.le_trans h1 (by omega), ?_⟩
    rw [List.all_eq_true]
    intro p hp
    have := h2 p hp
    exact decide_eq_true (by omega)
theorem small_at {l : List Part} (h : smallP l = true) (i : Nat) : (l.getD i pD).1.size ≤ 1048576 := by
  by_cases hi : i < l.length
  · unfold smallP at h
    rw [List.all_eq_true] at h
    rw [getD_el hi]
    exact of_decide_eq_true (h _ (List.getElem_mem _))
  · rw [List.getD_eq_getElem?_getD, List.getElem?_eq_none (by omega)]
    exact Nat.zero_le _
theorem read_small {k : Int} {p : Part} {c : C5} (hp : p.1.size ≤ 1048576) (hc : c.2.2.2.2.size ≤ 1048576) : (readC k p c).2.2.2.2.2.size ≤ 1048576 := by
  unfold readC readV
  cases decide (k = 65) with
  | true => exact hc
  | false =>
    cases decide (k = 66) with
    | true => exact hc
    | false =>
      cases decide (k = 111) with
      | true => exact hc
      | false =>
        cases decide (k = 116) with
        | true => exact hp
        | false => exact hc
theorem reads_small {l : List Part} (h : smallP l = true) : ∀ (ks : List Int) (i : Nat) (c : C5), c.2.2.2.2.size ≤ 1048576 → (readsI ks l i c).2.2.2.2.2.size ≤ 1048576
  | [], i, c, hc => hc
  | k :: r, i, c, hc => by
    unfold readsI
    have h1 := read_small (k := k) (c := c) (small_at h i) hc
    cases (readC k (l.getD i pD) c).1 with
    | true => exact reads_small h r (i + 1) _ h1
    | false => exact h1
abbrev P6 := Int × Int × Int × Bool × ByteArray × Int
def errV (e : Int) : P6 := (0, 0, 0, false, ByteArray.empty, e)
def endV (y : Bool × C5) : P6 := bif y.1 && rightV y.2.1 y.2.2.1 y.2.2.2.1 y.2.2.2.2.1 y.2.2.2.2.2 then (y.2.1, y.2.2.1, y.2.2.2.1, y.2.2.2.2.1, y.2.2.2.2.2, 0) else errV 4
def opV (l : List Part) (op : Nat) : P6 := bif decide (l.length = 1 + (U.wordsL.getD op dW).2.1.size) then endV (readsI (bytesL (U.wordsL.getD op dW).2.1) l 1 ((op : Int), 0, 0, false, ByteArray.empty)) else errV 4
def parseL (y : List Part × Bool) : P6 :=
  bif !y.2 then errV 4 else match y.1 with
  | [] => errV 5
  | p :: r => bif p.2.1 then errV 5 else match findN (isW U.wordsL p.1) 22 0 with
    | none => errV 5
    | some op => opV (p :: r) op
def parseV (s : ByteArray) : P6 := parseL (okV (cutV (bytesL s)))
theorem findN_range {p : Nat → Bool} : ∀ {k i j : Nat}, findN p k i = some j → i ≤ j ∧ j < i + k
  | 0, i, j, h => by cases h
  | k + 1, i, j, h => by
    unfold findN at h
    cases hp : p i <;> rw [hp] at h
    · have := findN_range h; omega
    · cases h; omega
abbrev w27 : FSpec := s27 (fun x => decide (ByteArray.size x.1 ≤ 1048576)) fun x => parseV x.1
theorem wk27 : SpecOK Tryd.prog E0 27 w27 := by
  refine k27 (fun s H => ?_) (L := ls_ok (lcs := [lc Tryd.f27 0]) (rgs := []) (by kernel_rfl) (by kernel_rfl) L27 trivial)
  have H : s.size ≤ 1048576 := of_decide_eq_true H
  obtain ⟨h1, h2⟩ := ok_small H
  show _ = some (parseV s)
  unfold parseV parseL
  generalize hy : okV (cutV (bytesL s)) = y at h1 h2
  obtain ⟨l, b⟩ := y
  cases b with
  | false => simp only [d27, Tr.val, H, hy, decide_true, cond_true, Bool.not_false]; rfl
  | true =>
    simp only [Bool.not_true, cond_false]
    cases l with
    | nil => simp only [d27, Tr.val, H, hy, List.length_nil, decide_true, cond_true, cond_false, Bool.not_true]; rfl
    | cons p r =>
      have e0 : rget (Kd.pr Kd.str (Kd.pr Kd.bool Kd.un)) (p :: r) (0 : Int) = p := rfl
      have e0' : rget partk (p :: r) (0 : Int) = p := rfl
      have i0 : inB (0 : Int) (p :: r).length = true := by rw [inB_iff, List.length_cons]; omega
      have z0 : decide ((((p :: r).length : Nat) : Int) = 0) = false := decide_eq_false (by rw [List.length_cons]; omega)
      have c1 : decide ((22 : Nat) ≤ 1048576 ∧ 1 ≤ (p :: r).length) = true := decide_eq_true (by rw [List.length_cons]; omega)
      cases hq : p.2.1 with
      | true => simp only [d27, Tr.val, H, hy, e0, i0, z0, hq, decide_true, cond_true, cond_false, Bool.not_true]; rfl
      | false =>
        simp only [cond_false]
        cases hf : findN (isW U.wordsL p.1) 22 0 with
        | none => simp only [d27, Tr.val, H, hy, e0, e0', i0, z0, c1, hq, hf, optI', show ((-1 : Int) < 0) by decide, decide_true, cond_true, cond_false, Bool.not_true]; rfl
        | some op =>
          have hop := findN_range hf
          have hi : inB ((op : Nat) : Int) 22 = true := inB_nat (by omega)
          have hh : isHas (U.wordsL.getD op dW).2.1 = true := by
            have := isHas_ops ⟨op, by omega⟩
            rw [rgetW] at this
            exact this
          have hsz : (U.wordsL.getD op dW).2.1.size ≤ 2 := by
            unfold isHas at hh
            simp only [Bool.or_eq_true, decide_eq_true_eq] at hh
            rcases hh with e | e | e | e | e <;> rw [e] <;> decide
          have w : IntKind.wrap IntKind.i64 (1 + ((U.wordsL.getD op dW).2.1.size : Int)) = ((1 + (U.wordsL.getD op dW).2.1.size : Nat) : Int) := by rw [Go.Ev.w64 (by omega) (by omega)]; omega
          simp only []
          unfold opV
          by_cases hl : (p :: r).length = 1 + (U.wordsL.getD op dW).2.1.size
          · have hr := reads_small h2 (bytesL (U.wordsL.getD op dW).2.1) 1 ((op : Int), 0, 0, false, ByteArray.empty) (Nat.zero_le _)
            have c2 : decide (True ∧ (p :: r).length = 1 + (U.wordsL.getD op dW).2.1.size ∧ (p :: r).length ≤ 1048576) = true := decide_eq_true ⟨trivial, hl, h1⟩
            have c3 : decide ((((p :: r).length : Nat) : Int) = ((1 + (U.wordsL.getD op dW).2.1.size : Nat) : Int)) = true := decide_eq_true (by omega)
            unfold endV
            simp only [d27, Tr.val, H, hy, e0, e0', i0, z0, c1, c2, c3, hq, hf, optI', hi, hh, h2, w, rgetW, hr, decide_eq_true hl, show ¬ (((op : Nat) : Int) < 0) by omega, decide_true, decide_false, cond_true, cond_false, Bool.not_true, Bool.not_false, Bool.and_self]
            cases (readsI (bytesL (U.wordsL.getD op dW).2.1) (p :: r) 1 ((op : Int), 0, 0, false, ByteArray.empty)).1 with
            | false => rfl
            | true =>
              simp only [cond_true, Bool.true_and]
              cases rightV _ _ _ _ _ <;> rfl
          · have c3 : decide ((((p :: r).length : Nat) : Int) = ((1 + (U.wordsL.getD op dW).2.1.size : Nat) : Int)) = false := decide_eq_false (by omega)
            simp only [d27, Tr.val, H, hy, e0, e0', i0, z0, c1, c3, hq, hf, optI', hi, w, rgetW, decide_eq_false hl, show ¬ (((op : Nat) : Int) < 0) by omega, decide_true, decide_false, cond_true, cond_false, Bool.not_true, Bool.not_false]
            rfl
end Cm
end Go.Proofs.YtdlbnlbajnafdaaDoor
end
section
set_option linter.unusedVariables false
set_option linter.unusedSimpArgs false
set_option maxRecDepth 20000
set_option maxHeartbeats 4000000
open Go Go.Ev
namespace Go.Proofs.YtdlbnlbajnafdaaDoor
namespace Cm
def d29 : Tr (Bool) :=
 Tr.ite true (Tr.ite true (Tr.ret true) (Tr.ret false)) Tr.fail
def e29 (r : Bool) : FRes := { rs := Slot.av (AV.one (Leaf.dat Kd.bool r)), upd := [], new := [] }
@[reducible] def a29 : List AK := []
@[reducible] def b29 : List BK := []
theorem t29 : evFn (Env.withFns E0 [((27 : Nat), w27)]) Tryd.f29 [PM.data Kd.bool] (akAV a29 ()) (bkBs b29 ()) = (d29).map e29 := by kernel_rfl
def s29' (G : akT a29 → Bool) : FSpec := aspec0 a29 b29 e29 (fun x _ => G x)
theorem k29' {G : akT a29 → Bool} (hd : (d29).val = some (G ())) (IO : ItOK Tryd.prog (Env.withFns E0 [((27 : Nat), w27)]) := by exact itOK_none rfl) (L : ∀ c, Tryd.f29.body = some c → LsOK (evI 2) ((Env.withFns E0 [((27 : Nat), w27)]).lend 0) c := by exact fun c _ => LsOK_none rfl c) : SpecOK Tryd.prog E0 29 (s29' G) :=
  aspec0_ok (ak := a29) (bl := b29) (e := e29) (g := fun x _ => G x) (E0 := E0) (E := Env.withFns E0 [((27 : Nat), w27)]) tab (.cons wk27 .nil) rfl rfl hm Tryd.func29 (by kernel_rfl) [PM.data Kd.bool] (fun X Y => by exact val_of (t29) (hd)) IO L
abbrev w29 : FSpec := s29' fun _ => true
theorem wk29 : SpecOK Tryd.prog E0 29 w29 := k29' rfl
theorem cut_le {s : ByteArray} {k : Int} (hk : 0 ≤ k) : (0 ≤ minI (s.size : Int) k ∧ minI (s.size : Int) k ≤ (s.size : Int)) ∧ (s.extract 0 (minI (s.size : Int) k).toNat).size ≤ k.toNat := by
  have h : minI (s.size : Int) k ≤ k ∧ minI (s.size : Int) k ≤ (s.size : Int) ∧ 0 ≤ minI (s.size : Int) k := by unfold minI; split <;> omega
  refine ⟨⟨h.2.2, h.2.1⟩, ?_⟩
  rw [ByteArray.size_extract]
  omega
end Cm
namespace Cb
open Cm
def gl (g : Nat) : Option GV := bif Nat.beq g 1 then some (.arr bndk U.boundL) else Cm.gl g
def E0 : Env := { tt := tt, glob := gl }
theorem cgl_of {g : Nat} {p : GV} (h : Cm.gl g = some p) : Nat.beq g 1 = false := by
  cases h1 : Nat.beq g 1 with
  | false => rfl
  | true =>
    rw [Nat.eq_of_beq_eq_true h1] at h
    cases h
theorem up : ∀ g p, Cm.E0.glob g = some p → E0.glob g = some p := fun g p h => by
  have h : Cm.gl g = some p := h
  show gl g = some p
  unfold gl
  rw [cgl_of h]
  exact h
theorem wk30 : SpecOK Tryd.prog E0 30 w30 := Cm.wk30.lift up
theorem wk31 : SpecOK Tryd.prog E0 31 w31 := Cm.wk31.lift up
theorem wk33 : SpecOK Tryd.prog E0 33 w33 := Cm.wk33.lift up
theorem wk34 : SpecOK Tryd.prog E0 34 w34 := Cm.wk34.lift up
theorem wk35 : SpecOK Tryd.prog E0 35 w35 := Cm.wk35.lift up
theorem wk36 : SpecOK Tryd.prog E0 36 w36 := Cm.wk36.lift up
theorem wk29 : SpecOK Tryd.prog E0 29 w29 := Cm.wk29.lift up
def live32 (key : Nat) : Lv :=
  bif Nat.beq key 2 then { ls := [0, 2, 6, 7] } else bif Nat.beq key 1002 then { ls := [2, 3] } else
  { ls := [] }
abbrev E32 : Env := { (E0.withFns []).loops live32 (fun _ _ => none) with fuel := 22 }
def d32 (xa : ByteArray) : Tr (Int × Int × Int × Bool × ByteArray × Bool) :=
 Tr.ite true (Tr.ite (decide ({ data := #[OfNat.ofNat (110 : Nat)] } = xa)) (Tr.ret ((2 : Int), (1 : Int), (0 : Int), false, { data := #[] }, true)) (Tr.ite true (Tr.ite (decide ({ data := #[OfNat.ofNat (112 : Nat)] } = xa)) (Tr.ret ((2 : Int), (-1 : Int), (0 : Int), false, { data := #[] }, true)) (Tr.ite true (Tr.ite (decide ({ data := #[OfNat.ofNat (108 : Nat)] } = xa)) (Tr.ret ((3 : Int), (0 : Int), (0 : Int), false, { data := #[] }, true)) (Tr.ite true (Tr.ite (decide ({ data := #[OfNat.ofNat (122 : Nat)] } = xa)) (Tr.ret ((6 : Int), (0 : Int), (0 : Int), false, { data := #[] }, true)) (Tr.ite true (Tr.ite (decide ({ data := #[OfNat.ofNat (76 : Nat), OfNat.ofNat (101 : Nat), OfNat.ofNat (102 : Nat), OfNat.ofNat (116 : Nat)] } = xa)) (Tr.ret ((5 : Int), (1 : Int), (0 : Int), false, { data := #[] }, true)) (Tr.ite true (Tr.ite (decide ({ data := #[OfNat.ofNat (82 : Nat), OfNat.ofNat (105 : Nat), OfNat.ofNat (103 : Nat), OfNat.ofNat (104 : Nat), OfNat.ofNat (116 : Nat)] } = xa)) (Tr.ret ((5 : Int), (2 : Int), (0 : Int), false, { data := #[] }, true)) (Tr.ite true (Tr.ite (decide ({ data := #[OfNat.ofNat (85 : Nat), OfNat.ofNat (112 : Nat)] } = xa)) (Tr.ret ((5 : Int), (3 : Int), (0 : Int), false, { data := #[] }, true)) (Tr.ite true (Tr.ite (decide ({ data := #[OfNat.ofNat (68 : Nat), OfNat.ofNat (111 : Nat), OfNat.ofNat (119 : Nat), OfNat.ofNat (110 : Nat)] } = xa)) (Tr.ret ((5 : Int), (4 : Int), (0 : Int), false, { data := #[] }, true)) (Tr.ite true (Tr.ite (decide ({ data := #[OfNat.ofNat (91 : Nat)] } = xa)) (Tr.ret ((7 : Int), (0 : Int), (0 : Int), true, { data := #[] }, true)) (Tr.ite true (Tr.ite (decide ({ data := #[OfNat.ofNat (113 : Nat)] } = xa)) (Tr.ret ((7 : Int), (0 : Int), (0 : Int), false, { data := #[] }, true)) (Tr.ite true (Tr.ite (decide ({ data := #[OfNat.ofNat (107 : Nat)] } = xa)) (Tr.ret ((8 : Int), (-1 : Int), (0 : Int), false, { data := #[] }, true)) (Tr.ite true (Tr.ite (decide ({ data := #[OfNat.ofNat (106 : Nat)] } = xa)) (Tr.ret ((8 : Int), (1 : Int), (0 : Int), false, { data := #[] }, true)) (Tr.ite true (Tr.ite (decide ({ data := #[OfNat.ofNat (99 : Nat)] } = xa)) (Tr.ret ((11 : Int), (0 : Int), (0 : Int), false, { data := #[OfNat.ofNat (119 : Nat)] }, true)) (Tr.ite true (Tr.ite (decide ({ data := #[OfNat.ofNat (37 : Nat)] } = xa)) (Tr.ret ((13 : Int), (1 : Int), (0 : Int), false, { data := #[] }, true)) (Tr.ite true (Tr.ite (decide ({ data := #[OfNat.ofNat (34 : Nat)] } = xa)) (Tr.ret ((13 : Int), (2 : Int), (0 : Int), false, { data := #[] }, true)) (Tr.ite true (Tr.ite (decide ({ data := #[OfNat.ofNat (120 : Nat)] } = xa)) (Tr.ret ((14 : Int), (0 : Int), (0 : Int), false, { data := #[] }, true)) (Tr.ite true (Tr.ite (decide ({ data := #[OfNat.ofNat (121 : Nat)] } = xa)) (Tr.ret ((19 : Int), (0 : Int), (0 : Int), false, { data := #[] }, true)) (Tr.ite true (Tr.ite (decide ({ data := #[OfNat.ofNat (93 : Nat)] } = xa)) (Tr.ret ((20 : Int), (0 : Int), (0 : Int), false, { data := #[] }, true)) (Tr.ite true (Tr.ite (decide ({ data := #[OfNat.ofNat (116 : Nat)] } = xa)) (Tr.ret ((16 : Int), (20 : Int), (0 : Int), false, { data := #[] }, true)) (Tr.ite true (Tr.ite (decide ({ data := #[OfNat.ofNat (103 : Nat)] } = xa)) (Tr.ret ((17 : Int), (0 : Int), (0 : Int), false, { data := #[] }, true)) (Tr.ite true (Tr.ite (decide ({ data := #[OfNat.ofNat (100 : Nat)] } = xa)) (Tr.ret ((21 : Int), (0 : Int), (0 : Int), false, { data := #[] }, true)) (Tr.ite false Tr.fail (Tr.ret ((0 : Int), (0 : Int), (0 : Int), false, ByteArray.empty, false)))) (Tr.ret ((0 : Int), (0 : Int), (0 : Int), false, ByteArray.empty, false)))) (Tr.ret ((0 : Int), (0 : Int), (0 : Int), false, ByteArray.empty, false)))) (Tr.ret ((0 : Int), (0 : Int), (0 : Int), false, ByteArray.empty, false)))) (Tr.ret ((0 : Int), (0 : Int), (0 : Int), false, ByteArray.empty, false)))) (Tr.ret ((0 : Int), (0 : Int), (0 : Int), false, ByteArray.empty, false)))) (Tr.ret ((0 : Int), (0 : Int), (0 : Int), false, ByteArray.empty, false)))) (Tr.ret ((0 : Int), (0 : Int), (0 : Int), false, ByteArray.empty, false)))) (Tr.ret ((0 : Int), (0 : Int), (0 : Int), false, ByteArray.empty, false)))) (Tr.ret ((0 : Int), (0 : Int), (0 : Int), false, ByteArray.empty, false)))) (Tr.ret ((0 : Int), (0 : Int), (0 : Int), false, ByteArray.empty, false)))) (Tr.ret ((0 : Int), (0 : Int), (0 : Int), false, ByteArray.empty, false)))) (Tr.ret ((0 : Int), (0 : Int), (0 : Int), false, ByteArray.empty, false)))) (Tr.ret ((0 : Int), (0 : Int), (0 : Int), false, ByteArray.empty, false)))) (Tr.ret ((0 : Int), (0 : Int), (0 : Int), false, ByteArray.empty, false)))) (Tr.ret ((0 : Int), (0 : Int), (0 : Int), false, ByteArray.empty, false)))) (Tr.ret ((0 : Int), (0 : Int), (0 : Int), false, ByteArray.empty, false)))) (Tr.ret ((0 : Int), (0 : Int), (0 : Int), false, ByteArray.empty, false)))) (Tr.ret ((0 : Int), (0 : Int), (0 : Int), false, ByteArray.empty, false)))) (Tr.ret ((0 : Int), (0 : Int), (0 : Int), false, ByteArray.empty, false)))) (Tr.ret ((0 : Int), (0 : Int), (0 : Int), false, ByteArray.empty, false)))) (Tr.ret ((0 : Int), (0 : Int), (0 : Int), false, ByteArray.empty, false))
def e32 (r : Int × Int × Int × Bool × ByteArray × Bool) : FRes := { rs := Slot.tup [AV.agg [Leaf.dat (.int .i64) r.fst, Leaf.dat (.int .i64) r.snd.fst, Leaf.dat (.int .i64) r.snd.snd.fst, Leaf.dat Kd.bool r.snd.snd.snd.fst, Leaf.dat Kd.str r.snd.snd.snd.snd.fst], AV.one (Leaf.dat Kd.bool r.snd.snd.snd.snd.snd)], upd := [], new := [] }
@[reducible] def a32 : List AK := [AK.d Kd.str]
@[reducible] def b32 : List BK := []
theorem t32 (xa : ByteArray) : evFn (E32) Tryd.f32 [PM.data cmdk, PM.data Kd.bool] (akAV a32 (xa, ())) (bkBs b32 ()) = (d32 xa).map e32 := by kernel_rfl
def s32' (G : akT a32 → Int × Int × Int × Bool × ByteArray × Bool) : FSpec := aspec0 a32 b32 e32 (fun x _ => G x)
theorem k32' {G : akT a32 → Int × Int × Int × Bool × ByteArray × Bool} (hd : ∀ (xa : ByteArray), (d32 xa).val = some (G (xa, ()))) (IO : ItOK Tryd.prog (E32) := by exact itOK_none rfl) (L : ∀ c, Tryd.f32.body = some c → LsOK (evI 2) ((E32).lend 0) c := by exact fun c _ => LsOK_none rfl c) : SpecOK Tryd.prog E0 32 (s32' G) :=
  aspec0_ok (ak := a32) (bl := b32) (e := e32) (g := fun x _ => G x) (E0 := E0) (E := E32) tab .nil rfl rfl hm Tryd.func32 (by kernel_rfl) [PM.data cmdk, PM.data Kd.bool] (fun X Y => by obtain ⟨xa, _⟩ := X; exact val_of (t32 xa) (hd xa)) IO L
def lkB : List (ByteArray × (Int × Int × Int × Bool × ByteArray × Unit) × Unit) → ByteArray → Int × Int × Int × Bool × ByteArray × Bool
  | [], _ => (0, 0, 0, false, ByteArray.empty, false)
  | x :: r, s => bif decide (x.1 = s) then (x.2.1.1, x.2.1.2.1, x.2.1.2.2.1, x.2.1.2.2.2.1, x.2.1.2.2.2.2.1, true) else lkB r s
abbrev w32 : FSpec := s32' fun x => lkB U.boundL x.1
theorem wk32 : SpecOK Tryd.prog E0 32 w32 := k32' fun s => by
  show _ = some (lkB U.boundL s)
  simp only [d32, Tr.val, lkB, U.boundL, some_bif, cond_true, cond_false]
def d7 (xa1 : Int) (xa2 : Int) (xa3 : Int) (xa4 : Bool) (xa5 : ByteArray) (xb : ByteArray) : Tr (Bool) :=
 let v1 : Int := (minI (↑(ByteArray.size xb) : Int) (12 : Int))
 let v2 : ByteArray := (ByteArray.extract xa5 (0 : Nat) (70 : Nat))
 let v3 : Bool := (rightV xa1 xa2 xa3 xa4 v2)
 let v4 : ByteArray := (textV xa1 xa2 xa3 xa4 v2)
 let v5 : ByteArray × Int := (printV xa1 xa2 xa3 xa4 v2)
 let v6 : ByteArray := (ByteArray.extract xb (0 : Nat) (Int.toNat v1))
 let v7 : Int := (v5.snd)
 let v8 : ByteArray := (v5.fst)
 let v9 : Int × Int × Int × Bool × ByteArray × Bool := (lkB U.boundL v6)
 let v10 : Int × Int × Bool × ByteArray := ((keyC v6).snd)
 let v11 : Int := ((keyC v6).fst)
 let v12 : Int × Int × Bool × ByteArray × Bool := (v9.snd)
 let v13 : Int := (v9.fst)
 let v14 : Int := (v10.fst)
 let v15 : Int × Bool × ByteArray := (v10.snd)
 let v16 : Int × Bool × ByteArray × Bool := (v12.snd)
 let v17 : Int := (v12.fst)
 let v18 : Bool × ByteArray := (v15.snd)
 let v19 : Bool := (decide (ByteArray.size v2 ≤ (1048576 : Nat)))
 let v20 : Int := (v15.fst)
 let v21 : ByteArray := (v18.snd)
 let v22 : Int := (v16.fst)
 let v23 : Bool × ByteArray × Bool := (v16.snd)
 let v24 : Bool := (v23.fst)
 let v25 : ByteArray × Bool := (v23.snd)
 let v26 : Bool := (v25.snd)
 let v27 : ByteArray := (v25.fst)
 Tr.ite (decide ((0 : Int) ≤ v1 ∧ v1 ≤ (↑(ByteArray.size xb) : Int))) (Tr.ite v19 (Tr.ite v19 (Tr.ite v19 (Tr.ite (!v3 == v3) (Tr.ret false) (Tr.ite (!(decide (v13 = v11) && (decide (v17 = v14) && (decide (v22 = v20) && (v24 == v18.fst && decide (v27 = v21)))))) (Tr.ret false) (Tr.ite (!v26 == decide ((0 : Int) < v11)) (Tr.ret false) (Tr.ite v26 (Tr.ite (decide (ByteArray.size v27 ≤ (1048576 : Nat))) (Tr.ite (!rightV v13 v17 v22 v24 v27) (Tr.ret false) (Tr.ite false (Tr.ret false) (Tr.ite v19 (Tr.ite (!v3) (Tr.ite (decide (v7 = (1 : Int))) (Tr.ret (decide (v8 = { data := #[] }))) (Tr.ret false)) (Tr.ite (decide (v7 = (0 : Int))) (Tr.ite (inB xa1 (22 : Nat) && (near xa2 && (near xa3 && v19))) (Tr.ret (decide (v8 = v4))) Tr.fail) (Tr.ret false))) Tr.fail))) Tr.fail) (Tr.ite false (Tr.ret false) (Tr.ite v19 (Tr.ite (!v3) (Tr.ite (decide (v7 = (1 : Int))) (Tr.ret (decide (v8 = { data := #[] }))) (Tr.ret false)) (Tr.ite (decide (v7 = (0 : Int))) (Tr.ite (inB xa1 (22 : Nat) && (near xa2 && (near xa3 && v19))) (Tr.ret (decide (v8 = v4))) Tr.fail) (Tr.ret false))) Tr.fail)))))) Tr.fail) Tr.fail) Tr.fail) Tr.fail
def e7 (r : Bool) : FRes := { rs := Slot.av (AV.one (Leaf.dat Kd.bool r)), upd := [], new := [] }
@[reducible] def a7 : List AK := [AK.d cmdk, AK.d Kd.str]
@[reducible] def b7 : List BK := []
theorem t7 (xa1 : Int) (xa2 : Int) (xa3 : Int) (xa4 : Bool) (xa5 : ByteArray) (xb : ByteArray) : evFn (Env.withFns E0 [((30 : Nat), w30), ((31 : Nat), w31), ((32 : Nat), w32), ((33 : Nat), w33), ((34 : Nat), w34), ((35 : Nat), w35), ((36 : Nat), w36), ((29 : Nat), w29)]) Tryd.f7 [PM.data Kd.bool] (akAV a7 ((xa1, xa2, xa3, xa4, xa5, ()), xb, ())) (bkBs b7 ()) = (d7 xa1 xa2 xa3 xa4 xa5 xb).map e7 := by kernel_rfl
def s7' (G : akT a7 → Bool) : FSpec := aspec0 a7 b7 e7 (fun x _ => G x)
theorem k7' {G : akT a7 → Bool} (hd : ∀ (xa1 : Int) (xa2 : Int) (xa3 : Int) (xa4 : Bool) (xa5 : ByteArray) (xb : ByteArray), (d7 xa1 xa2 xa3 xa4 xa5 xb).val = some (G ((xa1, xa2, xa3, xa4, xa5, ()), xb, ()))) (IO : ItOK Tryd.prog (Env.withFns E0 [((30 : Nat), w30), ((31 : Nat), w31), ((32 : Nat), w32), ((33 : Nat), w33), ((34 : Nat), w34), ((35 : Nat), w35), ((36 : Nat), w36), ((29 : Nat), w29)]) := by exact itOK_none rfl) (L : ∀ c, Tryd.f7.body = some c → LsOK (evI 2) ((Env.withFns E0 [((30 : Nat), w30), ((31 : Nat), w31), ((32 : Nat), w32), ((33 : Nat), w33), ((34 : Nat), w34), ((35 : Nat), w35), ((36 : Nat), w36), ((29 : Nat), w29)]).lend 0) c := by exact fun c _ => LsOK_none rfl c) : SpecOK Tryd.prog E0 7 (s7' G) :=
  aspec0_ok (ak := a7) (bl := b7) (e := e7) (g := fun x _ => G x) (E0 := E0) (E := Env.withFns E0 [((30 : Nat), w30), ((31 : Nat), w31), ((32 : Nat), w32), ((33 : Nat), w33), ((34 : Nat), w34), ((35 : Nat), w35), ((36 : Nat), w36), ((29 : Nat), w29)]) tab (.cons wk30 (.cons wk31 (.cons wk32 (.cons wk33 (.cons wk34 (.cons wk35 (.cons wk36 (.cons wk29 .nil)))))))) rfl rfl hm Tryd.func7 (by kernel_rfl) [PM.data Kd.bool] (fun X Y => by obtain ⟨⟨xa1, ⟨xa2, ⟨xa3, ⟨xa4, ⟨xa5, _⟩⟩⟩⟩⟩, ⟨xb, _⟩⟩ := X; exact val_of (t7 xa1 xa2 xa3 xa4 xa5 xb) (hd xa1 xa2 xa3 xa4 xa5 xb)) IO L
def okE (x : ByteArray × (Int × Int × Int × Bool × ByteArray × Unit) × Unit) : Bool := decide (0 < x.2.1.1) && (decide (x.2.1.2.2.2.2.1.size ≤ 1048576) && rightV x.2.1.1 x.2.1.2.1 x.2.1.2.2.1 x.2.1.2.2.2.1 x.2.1.2.2.2.2.1)
theorem bound_ok : U.boundL.all okE = true := by kernel_rfl
theorem lkB_eq : ∀ (l : List (ByteArray × (Int × Int × Int × Bool × ByteArray × Unit) × Unit)) (s : ByteArray), l.all okE = true →
    lkB l s = ((lk l s).1, (lk l s).2.1, (lk l s).2.2.1, (lk l s).2.2.2.1, (lk l s).2.2.2.2, decide (0 < (lk l s).1)) ∧ (decide (0 < (lk l s).1) = true → (lk l s).2.2.2.2.size ≤ 1048576 ∧ rightV (lk l s).1 (lk l s).2.1 (lk l s).2.2.1 (lk l s).2.2.2.1 (lk l s).2.2.2.2 = true)
  | [], s, _ => ⟨rfl, fun h => by cases h⟩
  | x :: l, s, h => by
    rw [List.all_cons, Bool.and_eq_true] at h
    have ih := lkB_eq l s h.2
    unfold lkB lk
    by_cases e : s = x.1
    · have h1 := h.1
      unfold okE at h1
      rw [Bool.and_eq_true, Bool.and_eq_true] at h1
      rw [decide_eq_true e, decide_eq_true e.symm, cond_true, cond_true]
      exact ⟨by rw [h1.1], fun _ => ⟨of_decide_eq_true h1.2.1, h1.2.2⟩⟩
    · rw [decide_eq_false e, decide_eq_false (fun h => e h.symm), cond_false, cond_false]
      exact ih
abbrev w7 : FSpec := s7' fun _ => true
theorem wk7 : SpecOK Tryd.prog E0 7 w7 := k7' fun op a b on t s => by
  obtain ⟨h1, h2⟩ := cut_le (s := s) (k := 12) (by omega)
  have h3 : (t.extract 0 70).size ≤ 1048576 := by rw [ByteArray.size_extract]; omega
  show _ = some true
  generalize hs : s.extract 0 (minI (s.size : Int) 12).toNat = s' at *
  generalize ht : t.extract 0 70 = t' at *
  obtain ⟨e1, e2⟩ := lkB_eq U.boundL s' bound_ok
  have hk : keyC s' = lk U.boundL s' := rfl
  have p1 : printV op a b on t' = bif rightV op a b on t' then (textV op a b on t', 0) else (⟨#[]⟩, 1) := rfl
  have main : (bif !rightV op a b on t' then bif decide ((printV op a b on t').2 = 1) then some (decide ((printV op a b on t').1 = ({ data := #[] } : ByteArray))) else some false
      else bif decide ((printV op a b on t').2 = 0) then bif inB op 22 && (near a && near b) then some (decide ((printV op a b on t').1 = textV op a b on t')) else none else some false) = some true := by
    rw [p1]
    cases hr : rightV op a b on t' with
    | false => rfl
    | true =>
      obtain ⟨q1, _, q2, q3, _, _⟩ := right_iff hr
      rw [q1, q2, q3]
      simp
  simp only [d7, Tr.val, hs, ht, h1, h3, hk, e1, and_self, decide_true, cond_true, cond_false, Bool.and_true, Bool.not_true, beq_self_eq_true, Bool.not_beq_self]
  cases hf : decide (0 < (lk U.boundL s').1) with
  | false => rw [cond_false]; exact main
  | true =>
    obtain ⟨g1, g2⟩ := e2 hf
    simp only [g1, g2, decide_true, cond_true, Bool.not_true, cond_false]
    exact main
end Cb
end Go.Proofs.YtdlbnlbajnafdaaDoor
end
section
set_option linter.unusedVariables false
set_option linter.unusedSimpArgs false
namespace Go.Ev
open Go.RowKit Go.ChangeShapes Go.WideShapes
def Kd.flat : Kd → Bool
  | .int _ => true
  | .bool => true
  | .str => true
  | .un => true
  | .pr a b => a.flat && b.flat
  | _ => false
def Kd.vals : (k : Kd) → k.T → List Value
  | .int k, x => [.int k x]
  | .bool, x => [.bool x]
  | .str, x => [.string x]
  | .pr a b, x => a.vals x.1 ++ b.vals x.2
  | .un, _ => []
  | .sl _, _ => []
  | .tre, _ => []
  | .ifc, _ => []
def lits {H : Type} : (k : Kd) → k.T → List (DataW H)
  | .int k, x => [.lit (.int k x)]
  | .bool, x => [.lit (.bool x)]
  | .str, x => [.lit (.string x.data.toList)]
  | .pr a b, x => (bif a.isAgg then [.agg (lits a x.1)] else lits a x.1) ++ lits b x.2
  | .un, _ => []
  | .sl _, _ => []
  | .tre, _ => []
  | .ifc, _ => []
def dOf {H : Type} (k : Kd) (x : k.T) : DataW H := bif k.isAgg then .agg (lits k x) else (lits k x).headD .nil
theorem vals_R {w : World} {K : KSet} : ∀ {k : Kd} (x : k.T), k.flat = true → Kd.R w K k x (k.vals x)
  | .int _, _, _ => rfl
  | .bool, _, _ => rfl
  | .str, _, _ => rfl
  | .un, _, _ => rfl
  | .pr a b, x, h => by
    unfold Kd.flat at h
    rw [Bool.and_eq_true] at h
    exact ⟨_, _, rfl, vals_R _ h.1, vals_R _ h.2⟩
  | .sl _, _, h => by cases h
  | .tre, _, h => by cases h
  | .ifc, _, h => by cases h
theorem dOf_pr {H : Type} {a : Kd} (x : a.T) (h : a.flat = true) : (bif a.isAgg then [(.agg (lits a x) : DataW H)] else lits a x) = [dOf a x] := by
  unfold dOf
  cases a with
  | pr a b => rfl
  | un => rfl
  | int k => rfl
  | bool => rfl
  | str => rfl
  | sl k => cases h
  | tre => cases h
  | ifc => cases h
section
variable {H : Type} {enc : TypeId × Value → H} {P : Program} {w : World}
theorem read_flat (base : Nat) (sp : Nat → Bool) (held : Bool) : ∀ (n : Nat) {t : TypeId} {k : Kd} {cs : List Value} {x : DataW H × List MemPlace}, TK P t k → k.flat = true →
    DataW.trod enc P w base sp held n t cs = some x → ∃ y : k.T, cs = k.vals y ∧ x.1 = dOf k y := by
  intro n
  induction n with
  | zero => intro t k cs x hk hf h; simp [DataW.trod] at h
  | succ n ih =>
    intro t k cs x hk hfl h
    cases hk with
    | int ht =>
      obtain ⟨i, rfl, rfl, hw⟩ := DataW.trod_int ht h
      exact ⟨i, rfl, rfl⟩
    | bool ht =>
      obtain ⟨b, rfl, rfl⟩ := DataW.trod_bool ht h
      exact ⟨b, rfl, rfl⟩
    | str ht =>
      obtain ⟨s, rfl, rfl, hs⟩ := DataW.trod_string ht h
      exact ⟨s, rfl, rfl⟩
    | sl => cases hfl
    | @struct _ fs k ht hf hs =>
      obtain ⟨xs, m, hm, rfl, hl, hlen, hat⟩ := DataW.trod_struct ht h
      cases hm
      have go : ∀ {o : Nat} {gs : List Field} {k' : Kd} (j : Nat), TKF P o gs k' → k'.flat = true → gs = fs.toList.drop j → cs.length = o + k'.sz → ∃ y : k'.T, cs.drop o = k'.vals y ∧ (xs.drop j).map (·.1) = lits k' y := by
        intro o gs
        induction gs generalizing o with
        | nil =>
          intro k' j h _ hin hl'
          cases h
          refine ⟨(), ?_, ?_⟩
          · show _ = []
            rw [List.drop_eq_nil_of_le]
            simp only [Kd.sz] at hl'
            omega
          · have : fs.toList.length ≤ j := by
              have := congrArg List.length hin
              simp at this
              simp
              omega
            rw [List.drop_eq_nil_of_le (by simp at this; omega)]
            rfl
        | cons f gs ihg =>
          intro k' j h hfl' hin hl'
          cases h with
          | @cons _ _ _ a b ho ha hs' hb =>
            simp only [Kd.sz] at hl'
            unfold Kd.flat at hfl'
            rw [Bool.and_eq_true] at hfl'
            have hj : j < fs.toList.length := by
              have := congrArg List.length hin
              simp at this
              simp
              omega
            rw [List.drop_eq_getElem_cons hj] at hin
            injection hin with hf1 hf2
            obtain ⟨y2, hy2, ok2⟩ := ihg (j + 1) hb hfl'.2 hf2 (by omega)
            have hj2 : j < xs.length := by simp at hj; omega
            have h1 := hat j f (by rw [hf1]; simp)
            rw [List.getElem?_eq_getElem hj2, ho, hs'] at h1
            obtain ⟨y1, hy1, ok1⟩ := ih ha hfl'.1 h1
            refine ⟨(y1, y2), ?_, ?_⟩
            · show _ = a.vals y1 ++ b.vals y2
              rw [← hy1, ← hy2, ← List.drop_drop, List.take_append_drop]
            · rw [List.drop_eq_getElem_cons hj2, List.map_cons, ok2, ok1]
              show _ = (bif a.isAgg then [.agg (lits a y1)] else lits a y1) ++ lits b y2
              rw [dOf_pr _ hfl'.1]
              rfl
      obtain ⟨y, hy, hd⟩ := go 0 hf hfl (by simp) (by rw [hl, hs]; simp)
      refine ⟨y, by simpa using hy, ?_⟩
      show DataW.agg (xs.map (·.1)) = _
      have ha := hf.agg
      unfold dOf
      rw [ha, cond_true, ← hd, List.drop_zero]
theorem lits_inj : ∀ {k : Kd} {x y : k.T}, k.flat = true → (lits k x : List (DataW H)) = lits k y → x = y
  | .int _, x, y, _, h => by injection h with h; injection h with h; injection h
  | .bool, x, y, _, h => by injection h with h; injection h with h; injection h
  | .str, x, y, _, h => by
    injection h with h; injection h with h; injection h with h
    obtain ⟨⟨l⟩⟩ := x
    obtain ⟨⟨m⟩⟩ := y
    have : l = m := h
    rw [this]
  | .un, _, _, _, _ => rfl
  | .pr a b, x, y, hf, h => by
    unfold Kd.flat at hf
    rw [Bool.and_eq_true] at hf
    have h : (bif a.isAgg then [(.agg (lits a x.1) : DataW H)] else lits a x.1) ++ lits b x.2 = (bif a.isAgg then [.agg (lits a y.1)] else lits a y.1) ++ lits b y.2 := h
    rw [dOf_pr _ hf.1, dOf_pr _ hf.1] at h
    injection h with h1 h2
    have e2 : x.2 = y.2 := lits_inj hf.2 h2
    have e1 : x.1 = y.1 := by
      unfold dOf at h1
      cases ha : a.isAgg with
      | true =>
        rw [ha] at h1
        injection h1 with h1
        exact lits_inj hf.1 h1
      | false =>
        rw [ha, cond_false, cond_false] at h1
        refine lits_inj hf.1 ?_
        clear h h2 e2
        cases a with
        | int k => exact congrArg (fun d => [d]) h1
        | bool => exact congrArg (fun d => [d]) h1
        | str => exact congrArg (fun d => [d]) h1
        | un => rfl
        | pr a b => cases ha
        | sl k => cases hf.1
        | tre => cases hf.1
        | ifc => cases hf.1
    exact Prod.ext e1 e2
  | .sl _, _, _, h, _ => by cases h
  | .tre, _, _, h, _ => by cases h
  | .ifc, _, _, h, _ => by cases h
theorem dOf_inj {k : Kd} {x y : k.T} (hf : k.flat = true) (h : (dOf k x : DataW H) = dOf k y) : x = y := by
  unfold dOf at h
  cases ha : k.isAgg with
  | true => rw [ha] at h; injection h with h; exact lits_inj hf h
  | false =>
    rw [ha, cond_false, cond_false] at h
    refine lits_inj hf (H := H) ?_
    cases k with
    | int k => exact congrArg (fun d => [d]) h
    | bool => exact congrArg (fun d => [d]) h
    | str => exact congrArg (fun d => [d]) h
    | un => rfl
    | pr a b => cases ha
    | sl k => cases hf
    | tre => cases hf
    | ifc => cases hf
theorem read_arr {base : Nat} {sp : Nat → Bool} {held : Bool} {n : Nat} {t e : TypeId} {m : Nat} {k : Kd} {cs : List Value} {p : List MemPlace} {ys : List k.T} (ht : P.underlying t = some (.array m e)) (hk : TK P e k) (hf : k.flat = true) (hs : P.cellsOf e = k.sz)
    (h : DataW.trod enc P w base sp held n t cs = some (.agg (ys.map (dOf k)), p)) : ∀ i, i < ys.length → (cs.drop (i * k.sz)).take k.sz = k.vals (ys.getD i k.dflt) := by
  obtain ⟨xs, n', rfl, hx, hl, hxl, hat⟩ := DataW.trod_array ht h
  have hxs : xs.map (·.1) = ys.map (dOf k) := by
    have := congrArg Prod.fst hx
    simpa using this.symm
  have hlen : xs.length = ys.length := by simpa using congrArg List.length hxs
  intro i hi
  have h1 := hat i (by omega)
  rw [List.getElem?_eq_getElem (by omega), hs] at h1
  obtain ⟨y, hy, hd⟩ := read_flat base sp held n' hk hf h1
  have h2 : xs[i].1 = dOf k ys[i] := by
    have := congrArg (fun l => l[i]?) hxs
    simp only [List.getElem?_map, List.getElem?_eq_getElem hi, List.getElem?_eq_getElem (show i < xs.length by omega), Option.map_some] at this
    exact Option.some.inj this
  rw [hy, List.getD_eq_getElem?_getD, List.getElem?_eq_getElem hi]
  rw [h2] at hd
  rw [dOf_inj hf hd]
  rfl
theorem glob_arr {W : World} {g : Nat} {cs : Array Value} {t : TypeId} {fr : Nat × Nat} {k : Kd} {ys : List k.T} {A : Asg} (hf : k.flat = true) (hc : W.heap[g]? = some (.cells cs t fr))
    (h : ∀ i, i < ys.length → (cs.toList.drop (i * k.sz)).take k.sz = k.vals (ys.getD i k.dflt)) (hu : k.beq (.int .u64) = false) : LeafR W (allK W) A [] (GV.arr k ys).leaf (.pointer (some ⟨g, 0, none⟩)) := by
  refine ⟨g, 0, cs, t, fr, rfl, (Array.getElem?_eq_some_iff.1 hc).1, hc, fun i hi => ?_, fun h => by rw [hu] at h; cases h⟩
  rw [Nat.zero_add]
  unfold cellsAt
  rw [h i hi]
  exact vals_R _ hf
end
end Go.Ev
end
section
set_option linter.unusedVariables false
set_option maxRecDepth 100000
namespace Go.Proofs.YtdlbnlbajnafdaaDoor
open Go.ChangeShapes Go.WideShapes Go.ChangeAt Go.RowKit Go.Ev Go.Lib Go.Shelf
abbrev atG (W : World) (g : Nat) (p : GV) : Prop := LeafR W (allK W) noA [] p.leaf (.pointer (some ⟨g, 0, none⟩))
theorem words_eq : (Rows.laid_backseat_cmd_words : DataW Unit) = .agg (U.wordsL.map (dOf wordk)) := by kernel_rfl
theorem bound_eq : (Rows.laid_backseat_cmd_bound : DataW Unit) = .agg (U.boundL.map (dOf bndk)) := by kernel_rfl
theorem tk_word : TK Tryd.prog 117 wordk := .struct Tryd.underlying117 (.cons rfl (.str Tryd.underlying9) (by kernel_rfl) (.cons rfl (.str Tryd.underlying9) (by kernel_rfl) .nil)) (by kernel_rfl)
theorem tk_cmd : TK Tryd.prog 57 cmdk := .struct Tryd.underlying57 (.cons rfl (.int Tryd.underlying3) (by kernel_rfl) (.cons rfl (.int Tryd.underlying3) (by kernel_rfl) (.cons rfl (.int Tryd.underlying3) (by kernel_rfl)
  (.cons rfl (.bool Tryd.underlying4) (by kernel_rfl) (.cons rfl (.str Tryd.underlying9) (by kernel_rfl) .nil))))) (by kernel_rfl)
theorem tk_bnd : TK Tryd.prog 134 bndk := .struct Tryd.underlying134 (.cons rfl (.str Tryd.underlying9) (by kernel_rfl) (.cons rfl tk_cmd (by kernel_rfl) .nil)) (by kernel_rfl)
theorem var_cells {W : World} {n : String} {g : Nat} {cs : Array Value} (hg : Tryd.prog.globalNamed n = some g) (h : W.var? Tryd.prog n = some cs) : ∃ t fr, W.heap[g]? = some (.cells cs t fr) := by
  unfold World.var? at h
  rw [hg] at h
  have h : (match (W.heap[g]? : Option Obj) with | some (Obj.cells cs _ _) => some cs | _ => none) = some cs := h
  split at h
  · rename_i c t fr hc
    cases h
    exact ⟨t, fr, hc⟩
  · cases h
theorem words_at {W : World} (r : VarReads Tryd.prog W "backseat/cmd.words" Rows.laid_backseat_cmd_words) : atG W 0 (.arr wordk U.wordsL) := by
  rw [words_eq] at r
  obtain ⟨g, t, cs, fuel, p, hg, hty, hvar, hd⟩ := r
  obtain rfl := Option.some.inj ((show Tryd.prog.globalNamed "backseat/cmd.words" = some 0 by kernel_rfl).symm.trans hg)
  obtain rfl := Option.some.inj ((show (Tryd.prog.globals[0]?).map (·.type) = some 118 by kernel_rfl).symm.trans hty)
  obtain ⟨t, fr, hc⟩ := var_cells hg hvar
  exact glob_arr rfl hc (read_arr Tryd.underlying118 tk_word rfl (by kernel_rfl) hd) rfl
theorem bound_at {W : World} (r : VarReads Tryd.prog W "backseat/cmd.bound" Rows.laid_backseat_cmd_bound) : atG W 1 (.arr bndk U.boundL) := by
  rw [bound_eq] at r
  obtain ⟨g, t, cs, fuel, p, hg, hty, hvar, hd⟩ := r
  obtain rfl := Option.some.inj ((show Tryd.prog.globalNamed "backseat/cmd.bound" = some 1 by kernel_rfl).symm.trans hg)
  obtain rfl := Option.some.inj ((show (Tryd.prog.globals[1]?).map (·.type) = some 135 by kernel_rfl).symm.trans hty)
  obtain ⟨t, fr, hc⟩ := var_cells hg hvar
  exact glob_arr rfl hc (read_arr Tryd.underlying135 tk_bnd rfl (by kernel_rfl) hd) rfl
theorem err_at {W : World} {n : String} {g : Nat} {s : String} {d : DataW Unit} (h1 : Tryd.prog.globalNamed n = some g) (h2 : (Tryd.prog.globals[g]?).map (·.type) = some 146) (r : VarReads Tryd.prog W n (.iface s d)) : atG W g (.dat .ifc false) := by
  obtain ⟨g', t, cs, fuel, p, hg, hty, hvar, hd⟩ := r
  obtain rfl := Option.some.inj (h1.symm.trans hg)
  obtain rfl := Option.some.inj (h2.symm.trans hty)
  obtain ⟨t, fr, hc⟩ := var_cells hg hvar
  have : ∃ u v, cs.toList = [.iface u v] := by
    cases fuel with
    | zero => simp [DataW.trod] at hd
    | succ n =>
      unfold DataW.trod at hd
      rw [Tryd.underlying146] at hd
      split at hd <;> simp_all
  obtain ⟨u, v, e⟩ := this
  refine ⟨g, 0, cs, t, fr, rfl, (Array.getElem?_eq_some_iff.1 hc).1, hc, ?_⟩
  show Kd.R W (allK W) .ifc false (cellsAt cs 0 1)
  unfold cellsAt
  rw [e]
  exact ⟨_, rfl, .inr ⟨rfl, _, _, rfl⟩⟩
namespace Cm
def Tabs (W : World) : Prop := Go.Proofs.YtdlbnlbajnafdaaDoor.Tabs W ∧ atG W 0 (.arr wordk U.wordsL) ∧ atG W 6 (.dat .ifc false) ∧ atG W 7 (.dat .ifc false)
end Cm
theorem tabs_met {l : List (String × DataW Unit)} {W : World} (h' : laidMet Tryd.prog l W) (m1 : ("unicode/utf8.first", Rows.laid_unicode_utf8_first) ∈ l) (m2 : ("unicode/utf8.acceptRanges", Rows.laid_unicode_utf8_acceptRanges) ∈ l)
    (m3 : ("internal/strconv.uint64pow10", Rows.laid_internal_strconv_uint64pow10) ∈ l) : Tabs W := by
  have r1 := laidMet.reads h' m1
  have r2 := laidMet.reads h' m2
  have r3 := laidMet.reads h' m3
  rw [fst_eq] at r1
  rw [acc_eq] at r2
  rw [pow_eq] at r3
  refine ⟨utf8Tabs_of_readsT ty8 ex8 r1 r2, ?_⟩
  obtain ⟨g, t, cs, fuel, p, hg, hty, hvar, hd⟩ := r3
  obtain rfl := Option.some.inj ((show Tryd.prog.globalNamed "internal/strconv.uint64pow10" = some 5 by kernel_rfl).symm.trans hg)
  obtain rfl := Option.some.inj ((show (Tryd.prog.globals[5]?).map (·.type) = some 241 by kernel_rfl).symm.trans hty)
  unfold TabIs
  rw [hvar, ← cells_of_tab Tryd.underlying241 Tryd.underlying193 (by kernel_rfl) (by kernel_rfl) hd]
namespace Cm
theorem tabs_of {l : List (String × DataW Unit)} {W : World} (h' : laidMet Tryd.prog l W) (m1 : ("unicode/utf8.first", Rows.laid_unicode_utf8_first) ∈ l) (m2 : ("unicode/utf8.acceptRanges", Rows.laid_unicode_utf8_acceptRanges) ∈ l)
    (m3 : ("internal/strconv.uint64pow10", Rows.laid_internal_strconv_uint64pow10) ∈ l) (m4 : ("backseat/cmd.words", Rows.laid_backseat_cmd_words) ∈ l) (m5 : ("strconv.ErrSyntax", Rows.laid_strconv_ErrSyntax) ∈ l) (m6 : ("strconv.ErrRange", Rows.laid_strconv_ErrRange) ∈ l) : Tabs W :=
  ⟨tabs_met h' m1 m2 m3, words_at (laidMet.reads h' m4), err_at (by kernel_rfl) (by kernel_rfl) (laidMet.reads h' m5), err_at (by kernel_rfl) (by kernel_rfl) (laidMet.reads h' m6)⟩
theorem globs {W : World} (hT : Tabs W) : ∀ g p, E0.glob g = some p → LeafR W (allK W) noA [] p.leaf (.pointer (some ⟨g, 0, none⟩)) := by
  obtain ⟨h, h0, h6, h7⟩ := hT
  intro g p hp
  have hp : gl g = some p := hp
  unfold gl at hp
  cases e0 : Nat.beq g 0 with
  | true => rw [e0] at hp; cases hp; rw [Nat.eq_of_beq_eq_true e0]; exact h0
  | false =>
    cases e6 : Nat.beq g 6 with
    | true => rw [e0, e6] at hp; cases hp; rw [Nat.eq_of_beq_eq_true e6]; exact h6
    | false =>
      cases e7 : Nat.beq g 7 with
      | true => rw [e0, e6, e7] at hp; cases hp; rw [Nat.eq_of_beq_eq_true e7]; exact h7
      | false =>
        rw [e0, e6, e7] at hp
        exact Go.Proofs.YtdlbnlbajnafdaaDoor.globs h g p hp
def layA {k : Kd} (xs : List k.T) : Obj → Obj
  | .cells _ t frozen => .cells (xs.flatMap k.vals).toArray t frozen
  | o => o
def layI (b : Nat) : Obj → Obj
  | .cells _ t frozen => .cells #[.iface 261 (.pointer (some ⟨b, 0, none⟩))] t frozen
  | o => o
def sSyntax : ByteArray := ⟨#[105, 110, 118, 97, 108, 105, 100, 32, 115, 121, 110, 116, 97, 120]⟩
def sRange : ByteArray := ⟨#[118, 97, 108, 117, 101, 32, 111, 117, 116, 32, 111, 102, 32, 114, 97, 110, 103, 101]⟩
noncomputable def laidWorld (os : Os) : World :=
  let W := Go.Proofs.YtdlbnlbajnafdaaDoor.laidWorld os
  let n := W.heap.size
  { W with heap := (((((W.heap.modify 0 (layA (k := wordk) U.wordsL)).modify 1 (layA (k := bndk) U.boundL)).modify 6 (layI n)).modify 7 (layI (n + 1))).push (.cells #[.string sSyntax] 263)).push (.cells #[.string sRange] 263) }
end Cm
namespace Cb
def Tabs (W : World) : Prop := Cm.Tabs W ∧ atG W 1 (.arr bndk U.boundL)
def laidL : List (String × DataW Unit) := [("math/bits.deBruijn32tab", Rows.laid_math_bits_deBruijn32tab), ("math/bits.deBruijn64tab", Rows.laid_math_bits_deBruijn64tab), ("internal/strconv.uint64pow10", Rows.laid_internal_strconv_uint64pow10), ("unicode/utf8.acceptRanges", Rows.laid_unicode_utf8_acceptRanges), ("strconv.ErrRange", Rows.laid_strconv_ErrRange), ("strconv.ErrSyntax", Rows.laid_strconv_ErrSyntax), ("backseat/cmd.words", Rows.laid_backseat_cmd_words), ("backseat/cmd.bound", Rows.laid_backseat_cmd_bound), ("unicode/utf8.first", Rows.laid_unicode_utf8_first)]
theorem tabs {W : World} (h : laidMetH Tryd.prog laidL W) : Tabs W := ⟨Cm.tabs_of (l := laidL) h (by simp [laidL]) (by simp [laidL]) (by simp [laidL]) (by simp [laidL]) (by simp [laidL]) (by simp [laidL]), bound_at (laidMet.reads (show laidMet Tryd.prog laidL W from h) (by simp [laidL]))⟩
theorem globs {W : World} (hT : Tabs W) : ∀ g p, E0.glob g = some p → LeafR W (allK W) noA [] p.leaf (.pointer (some ⟨g, 0, none⟩)) := by
  obtain ⟨h, h1⟩ := hT
  intro g p hp
  have hp : gl g = some p := hp
  unfold gl at hp
  cases e1 : Nat.beq g 1 with
  | true => rw [e1] at hp; cases hp; rw [Nat.eq_of_beq_eq_true e1]; exact h1
  | false => rw [e1] at hp; exact Cm.globs h g p hp
noncomputable abbrev laidWorld (os : Os) : World := Cm.laidWorld os
end Cb
end Go.Proofs.YtdlbnlbajnafdaaDoor
end
