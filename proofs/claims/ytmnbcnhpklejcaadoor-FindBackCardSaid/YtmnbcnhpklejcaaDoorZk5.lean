/- Part 5 of what the proof leans on: an evaluator of Go code over plain data, with its soundness; contracts of functions; laws of plain data. -/
import Derived.Test.YtmnbcnhpklejcaaDoorZk4
section
set_option linter.unusedVariables false
set_option linter.unusedSimpArgs false
set_option maxRecDepth 20000
set_option maxHeartbeats 4000000
open Go Go.Ev
namespace U
open Go.Proofs.YtmnbcnhpklejcaaDoor
theorem strOf_app (a b : List Int) : strOf (a ++ b) = strOf a ++ strOf b := by
  apply ByteArray.ext
  simp [strOf]
theorem strOf_bytes (s : ByteArray) : strOf (bytesL s) = s := by
  apply ByteArray.ext
  unfold strOf bytesL
  rw [List.map_map]
  have e : ((fun n : Int => UInt8.ofNat n.toNat) ∘ fun b : UInt8 => (b.toNat : Int)) = id := by
    funext b
    simp
  rw [e, List.map_id]
theorem say_fold2 (l : List Cl) : ∀ (s : ByteArray), l.foldl (fun s c => s ++ strOf (sayC c)) s = s ++ strOf (sayL l) := by
  induction l with
  | nil => intro s; apply ByteArray.ext; simp [sayL, strOf]
  | cons c l ih =>
    intro s
    rw [List.foldl_cons, ih]
    unfold sayL
    rw [List.flatMap_cons, strOf_app, ByteArray.append_assoc]
theorem sayC_text (c : ByteArray × Int × (Int × Int × Int × Unit) × Unit) (h : (decide (c.1 = (⟨#[]⟩ : ByteArray)) && decide (c.2.1 = 1)) = false) : strOf (sayC c) = c.1 := by
  unfold sayC
  rw [h, cond_false, List.append_nil, strOf_bytes]
theorem sayC_blank (c : ByteArray × Int × (Int × Int × Int × Unit) × Unit) (h : (decide (c.1 = (⟨#[]⟩ : ByteArray)) && decide (c.2.1 = 1)) = true) : strOf (sayC c) = ⟨#[32]⟩ := by
  unfold sayC
  rw [h, cond_true]
  rw [Bool.and_eq_true] at h
  rw [of_decide_eq_true h.1]
  rfl
end U
namespace Go.Proofs.YtmnbcnhpklejcaaDoor
open Go.RowKit
def live57 (key : Nat) : Lv :=
  bif Nat.beq key 3 then { ls := [3, 6, 7, 8] } else bif Nat.beq key 1003 then { ls := [3] } else
  { ls := [] }
abbrev M57 (ls : Nat → VS → Option (Tr (Ex × VS))) : Env := E0.loops live57 ls
@[reducible] def p57_0 : LP := { n := 28, sl := [.d (Kd.str), .d (Kd.sl celk), .d (.int .i64), .d (.int .i64)], bl := [] }
def B57_0 (x0 : ByteArray) (x1 : List Cell) (x2 : Int) (x3 : Int) : Tr (p57_0.T ⊕ (ByteArray)) :=
  let v1 : ByteArray := (x0 ++ { data := #[OfNat.ofNat (32 : Nat)] })
  Tr.ite (decide (x3 < x2))
    (Tr.ite (inB x3 (List.length x1))
      (Tr.ite (decide ((rget celk x1 x3).fst = { data := #[] }))
        (Tr.ite (decide ((rget celk x1 x3).snd.fst = (1 : Int)))
          (Tr.ite (decide (ByteArray.size x0 + (1 : Nat) ≤ (9223372036854775807 : Nat)))
            (Tr.ite (decide (ByteArray.size v1 + ByteArray.size (rget celk x1 x3).fst ≤ (9223372036854775807 : Nat)))
              (Tr.ret (Sum.inl ((v1 ++ (rget celk x1 x3).fst, x1, x2, IntKind.wrap IntKind.i64 (x3 + (1 : Int)), ()), ()))) Tr.fail)
            Tr.fail)
          (Tr.ite (decide (ByteArray.size x0 + ByteArray.size (rget celk x1 x3).fst ≤ (9223372036854775807 : Nat)))
            (Tr.ret (Sum.inl ((x0 ++ (rget celk x1 x3).fst, x1, x2, IntKind.wrap IntKind.i64 (x3 + (1 : Int)), ()), ()))) Tr.fail))
        (Tr.ite (decide (ByteArray.size x0 + ByteArray.size (rget celk x1 x3).fst ≤ (9223372036854775807 : Nat)))
          (Tr.ret (Sum.inl ((x0 ++ (rget celk x1 x3).fst, x1, x2, IntKind.wrap IntKind.i64 (x3 + (1 : Int)), ()), ()))) Tr.fail))
      Tr.fail)
    (Tr.ret (Sum.inr x0))
def X57_0 (r : (ByteArray)) : Ex × VS := Prod.mk (Ex.exit ( 0)) { n := 28, v := [Slot.av (AV.one (Leaf.dat Kd.str r))], h := [] }
def b57_0 : p57_0.T → Tr (p57_0.T ⊕ (ByteArray)) := fun ⟨⟨x0, ⟨x1, ⟨x2, ⟨x3, _⟩⟩⟩⟩, _⟩ => B57_0 x0 x1 x2 x3
theorem h57_0 (ls : Nat → VS → Option (Tr (Ex × VS))) (x : p57_0.T) : (evC (evI 2) (lc Tryd.f57 0) (Env.lend (M57 ls) 0) (unV (live57 3) (p57_0.V x))).map (decL 0 (live57 3) (live57 1003)) = (b57_0 x).map (encR p57_0.V X57_0) := by
  obtain ⟨⟨x0, ⟨x1, ⟨x2, ⟨x3, _⟩⟩⟩⟩, _⟩ := x; kernel_rfl
theorem c57_0 (x : p57_0.T) : canV 0 (live57 3) (unV (live57 3) (p57_0.V x)) = p57_0.V x := by
  obtain ⟨⟨x0, ⟨x1, ⟨x2, ⟨x3, _⟩⟩⟩⟩, _⟩ := x; kernel_rfl
theorem l57_0 {T : p57_0.T → Tr (ByteArray)} {ls : Nat → VS → Option (Tr (Ex × VS))} (hls : ∀ x, (Env.lend (M57 ls) 0).ls 3 x = p57_0.ls (fun a => (T a).map X57_0) x) (hS : ∀ x r, (T x).val = some r → Rounds b57_0 x r) : LoopOK (evI 2) (Env.lend (M57 ls) 0) (lc Tryd.f57 0) :=
  loopA 3 (live57 3) (live57 1003) p57_0 b57_0 X57_0 T (by kernel_rfl) rfl rfl hls (h57_0 ls) c57_0 hS
def T57 (x : p57_0.T) : Tr ByteArray :=
  .ite (decide ((x.1.2.2.2.1 : Int) = 0 ∧ (x.1.2.2.1 : Int) = (List.length (α := Cell) x.1.2.1 : Int) ∧ List.length (α := Cell) x.1.2.1 ≤ 1048576 ∧ ByteArray.size x.1.1 + List.length (α := Int) (U.sayL x.1.2.1) ≤ 140737488355328))
    (.ret (x.1.1 ++ strOf (U.sayL x.1.2.1))) .fail
abbrev E57 : Env := M57 fun key x => bif Nat.beq key 3 then p57_0.ls (fun a => (T57 a).map X57_0) x else none
theorem L57 : LoopOK (evI 2) (E57.lend 0) (lc Tryd.f57 0) := by
  refine l57_0 (T := T57) (fun x => rfl) ?_
  rintro ⟨⟨h, l, n, j, z⟩, z1⟩ r hh
  obtain ⟨g1, g2⟩ := pre_val hh
  have g1 : (j : Int) = 0 ∧ (n : Int) = (l.length : Int) ∧ l.length ≤ 1048576 ∧ h.size + (U.sayL l).length ≤ 140737488355328 := of_decide_eq_true g1
  obtain ⟨rfl, rfl, e3, e4⟩ := g1
  cases g2
  have := Rounds.fold0 (B := b57_0) l (fun i (s : ByteArray) => ((s, l, (l.length : Int), (i : Int), ()), ())) (fun (s : ByteArray) c => s ++ strOf (U.sayC c)) (fun s => s) (fun i s => s.size + (U.sayL (l.drop i)).length ≤ 140737488355328) h (by show h.size + (U.sayL (l.drop 0)).length ≤ _; rw [List.drop_zero]; exact e4) (fun i s hi hv => ?_) (fun s hv => ?_)
  · rw [U.say_fold2] at this
    exact this
  · have e : rget celk l (i : Int) = l[i] := by rw [rgetC]; exact getD_el hi
    have hd : l.drop i = l[i] :: l.drop (i + 1) := List.drop_eq_getElem_cons hi
    have hv : s.size + (U.sayL (l.drop i)).length ≤ 140737488355328 := hv
    rw [hd] at hv
    have h5 : (U.sayL (l[i] :: l.drop (i + 1))).length = (U.sayC l[i]).length + (U.sayL (l.drop (i + 1))).length := by unfold U.sayL; rw [List.flatMap_cons, List.length_append]
    rw [h5] at hv
    generalize hc : l[i] = c at *
    generalize hq : (U.sayL (l.drop (i + 1))).length = q at *
    have h6 : (strOf (U.sayC c)).size = (U.sayC c).length := by simp [strOf, ByteArray.size]
    have w : IntKind.wrap IntKind.i64 ((i : Int) + 1) = ((i + 1 : Nat) : Int) := wrap64_nat (show i ≤ 1048576 by omega)
    refine ⟨?_, by show (s ++ strOf (U.sayC c)).size + q ≤ _; rw [ByteArray.size_append, h6]; omega⟩
    have lt : decide ((i : Int) < (l.length : Int)) = true := decide_eq_true (by omega)
    cases hb : (decide (c.1 = (⟨#[]⟩ : ByteArray)) && decide (c.2.1 = 1)) with
    | true =>
      rw [U.sayC_blank c hb]
      rw [Bool.and_eq_true] at hb
      obtain ⟨hb1, hb2⟩ := hb
      have hb3 : c.1 = (⟨#[]⟩ : ByteArray) := of_decide_eq_true hb1
      have h7 : (U.sayC c).length = 1 := by unfold U.sayC; rw [hb1, hb2, hb3]; rfl
      have h8 : s.size + 1 ≤ 9223372036854775807 := by omega
      have h9 : (s ++ (⟨#[OfNat.ofNat 32]⟩ : ByteArray)).size + c.1.size ≤ 9223372036854775807 := by rw [ByteArray.size_append, hb3]; show s.size + 1 + 0 ≤ _; omega
      have h10 : (s ++ (⟨#[OfNat.ofNat 32]⟩ : ByteArray)) ++ c.1 = s ++ ⟨#[32]⟩ := by rw [hb3]; apply ByteArray.ext; simp
      simp only [b57_0, B57_0, Tr.val, inB_nat hi, e, hb1, hb2, h8, h9, h10, w, lt, decide_true, cond_true]
    | false =>
      have h7 : (U.sayC c).length = c.1.size := by rw [← h6, U.sayC_text c hb]
      have h8 : s.size + c.1.size ≤ 9223372036854775807 := by omega
      rw [U.sayC_text c hb]
      cases hb1 : decide (c.1 = (⟨#[]⟩ : ByteArray)) with
      | true =>
        rw [hb1, Bool.true_and] at hb
        simp only [b57_0, B57_0, Tr.val, inB_nat hi, e, hb, hb1, h8, w, lt, decide_true, cond_true, cond_false]
      | false =>
        simp only [b57_0, B57_0, Tr.val, inB_nat hi, e, hb1, h8, w, lt, decide_true, cond_true, cond_false]
  · simp only [b57_0, B57_0, Tr.val, show ¬ ((l.length : Int) < (l.length : Int)) by omega, decide_false, cond_false]
def d57 (a : List Cell) : Tr (ByteArray) :=
  let v1 : Int := ((↑(List.length a) : Int))
  let v2 : Int := ((↑(List.length a) : Int))
  Tr.ite (decide ((0 : Int) = (0 : Int) ∧ v2 = v1 ∧ List.length a ≤ (1048576 : Nat) ∧ (0 : Nat) + List.length (U.sayL a) ≤ (140737488355328 : Nat))) (Tr.ret ({ data := #[] } ++ strOf (U.sayL a)))
    Tr.fail
def e57 (r : ByteArray) : FRes := { rs := Slot.av (AV.one (Leaf.dat Kd.str r)), upd := [], new := [] }
@[reducible] def a57 : List AK := [AK.d (Kd.sl celk)]
@[reducible] def b57 : List BK := []
theorem t57 (a : List Cell) : evFn (E57) Tryd.f57 [PM.data Kd.str] (akAV a57 (a, ())) (bkBs b57 ()) = (d57 a).map e57 := by kernel_rfl
def s57 (C : akT a57 → Bool) (G : akT a57 → ByteArray) : FSpec := aspec a57 b57 e57 (fun x _ => C x) (fun x _ => G x)
theorem k57 {C : akT a57 → Bool} {G : akT a57 → ByteArray} (hd : ∀ (a : List Cell), C (a, ()) = true → (d57 a).val = some (G (a, ()))) (IO : ItOK Tryd.prog (E57) := by exact itOK_none rfl) (L : ∀ c, Tryd.f57.body = some c → LsOK (evI 2) ((E57).lend 0) c := by exact fun c _ => LsOK_none rfl c) : SpecOK Tryd.prog E0 57 (s57 C G) :=
  aspec_ok (ak := a57) (bl := b57) (e := e57) (c := fun x _ => C x) (g := fun x _ => G x) (E0 := E0) (E := E57) tab .nil rfl rfl hm Tryd.func57 (by kernel_rfl) [PM.data Kd.str] (fun X Y H => by obtain ⟨a, _⟩ := X; exact val_of (t57 a) (hd a H)) IO L
abbrev w57 : FSpec := s57 (fun x => decide (List.length (α := Cell) x.1 ≤ 1048576 ∧ List.length (α := Int) (U.sayL x.1) ≤ 140737488355328)) fun x => strOf (U.sayL x.1)
theorem wk57 : SpecOK Tryd.prog E0 57 w57 := by
  refine k57 (fun l H => ?_) (L := ls_ok (lcs := [lc Tryd.f57 0]) (rgs := []) (by kernel_rfl) (by kernel_rfl) L57 trivial)
  have H : l.length ≤ 1048576 ∧ (U.sayL l).length ≤ 140737488355328 := of_decide_eq_true H
  obtain ⟨h1, h2⟩ := H
  have h3 : 0 + (U.sayL l).length ≤ 140737488355328 := by omega
  have h4 : (⟨#[]⟩ : ByteArray) ++ strOf (U.sayL l) = strOf (U.sayL l) := by apply ByteArray.ext; simp
  simp only [d57, Tr.val, h1, h3, h4, and_self, decide_true, cond_true]
end Go.Proofs.YtmnbcnhpklejcaaDoor
namespace U
def mayR (y : Ln) : Bool := !decide ((y.1.length : Int) < 1) && (!decide ((80 : Int) < (y.1.length : Int)) && fitC y.1)
def mayL (l : List Ln) : Bool := allN (fun i => mayR (l.getD i dL)) l.length 0
end U
namespace Go.Proofs.YtmnbcnhpklejcaaDoor
def live49 (key : Nat) : Lv :=
  bif Nat.beq key 25004 then { ls := [9999, 8] } else bif Nat.beq key 45004 then { ls := [8, 28, 29, 30, 31, 32, 33, 34, 35, 36, 37, 38, 39, 40] } else
  bif Nat.beq key 20019 then { ls := [9999, 0, 1, 2, 3] } else bif Nat.beq key 40019 then { ls := [8] } else
  { ls := [] }
def d49 (a : List Line) (b : ByteArray) (c : Int) (y : Int) : Tr (Bool) :=
  let v1 : Bool := (inB c (List.length a))
  let v2 : Int := ((↑(List.length (rget link a c).fst) : Int))
  let v3 : List Cell := (sub (rget link a c).fst (Int.toNat y) (List.length (rget link a c).fst))
  let v4 : List Int := (U.sayL v3)
  let v5 : ByteArray := (strOf v4)
  let v6 : Int := ((↑(ByteArray.size v5) : Int))
  let v7 : ByteArray := (ByteArray.extract v5 (0 : Nat) (Int.toNat (↑(ByteArray.size b) : Int)))
  let v8 : Bool := (decide ((↑(ByteArray.size b) : Int) ≤ v6))
  Tr.ite v1
    (Tr.ite (inB y (List.length (rget link a c).fst))
      (Tr.ite (decide ((rget celk (rget link a c).fst y).snd.fst = (0 : Int))) (Tr.ret false)
        (Tr.ite v1
          (Tr.ite (decide ((0 : Int) ≤ y ∧ y ≤ v2))
            (Tr.ite (decide (List.length v3 ≤ (1048576 : Nat) ∧ List.length v4 ≤ (140737488355328 : Nat)))
              (Tr.ite (bif v8 then decide ((0 : Int) ≤ (↑(ByteArray.size b) : Int) ∧ (↑(ByteArray.size b) : Int) ≤ v6) else true) (Tr.ret (bif v8 then decide (v7 = b) else false)) Tr.fail) Tr.fail)
            Tr.fail)
          Tr.fail))
      Tr.fail)
    Tr.fail
def e49 (r : Bool) : FRes := { rs := Slot.av (AV.one (Leaf.dat Kd.bool r)), upd := [], new := [] }
@[reducible] def a49 : List AK := [AK.d (Kd.sl link), AK.d Kd.str, AK.d (.int .i64), AK.d (.int .i64)]
@[reducible] def b49 : List BK := []
theorem t49 (a : List Line) (b : ByteArray) (c : Int) (y : Int) : evFn (Env.loops (Env.withFns E0 [((57 : Nat), w57)]) live49 fun (x : Nat) (x_1 : VS) => none) Tryd.f49 [PM.data Kd.bool] (akAV a49 (a, b, c, y, ())) (bkBs b49 ()) = (d49 a b c y).map e49 := by kernel_rfl
def s49 (C : akT a49 → Bool) (G : akT a49 → Bool) : FSpec := aspec a49 b49 e49 (fun x _ => C x) (fun x _ => G x)
theorem k49 {C : akT a49 → Bool} {G : akT a49 → Bool} (hd : ∀ (a : List Line) (b : ByteArray) (c : Int) (y : Int), C (a, b, c, y, ()) = true → (d49 a b c y).val = some (G (a, b, c, y, ()))) (IO : ItOK Tryd.prog (Env.loops (Env.withFns E0 [((57 : Nat), w57)]) live49 fun (x : Nat) (x_1 : VS) => none) := by exact itOK_none rfl) (L : ∀ c, Tryd.f49.body = some c → LsOK (evI 2) ((Env.loops (Env.withFns E0 [((57 : Nat), w57)]) live49 fun (x : Nat) (x_1 : VS) => none).lend 0) c := by exact fun c _ => LsOK_none rfl c) : SpecOK Tryd.prog E0 49 (s49 C G) :=
  aspec_ok (ak := a49) (bl := b49) (e := e49) (c := fun x _ => C x) (g := fun x _ => G x) (E0 := E0) (E := Env.loops (Env.withFns E0 [((57 : Nat), w57)]) live49 fun (x : Nat) (x_1 : VS) => none) tab (.cons wk57 .nil) rfl rfl hm Tryd.func49 (by kernel_rfl) [PM.data Kd.bool] (fun X Y H => by obtain ⟨a, ⟨b, ⟨c, ⟨y, _⟩⟩⟩⟩ := X; exact val_of (t49 a b c y) (hd a b c y H)) IO L
end Go.Proofs.YtmnbcnhpklejcaaDoor
namespace U
open Go.Proofs.YtmnbcnhpklejcaaDoor
def stands (l : List Ln) (w : ByteArray) (r c : Nat) : Bool := !decide ((((l.getD r dL).1).getD c dC).2.1 = 0) && pre (strOf (sayL ((l.getD r dL).1.drop c))) w
theorem sayC_len (c : ByteArray × Int × (Int × Int × Int × Unit) × Unit) : (sayC c).length ≤ c.1.size + 1 := by
  unfold sayC
  rw [List.length_append, Go.Ev.bytesL_size]
  cases (decide (c.1 = (⟨#[]⟩ : ByteArray)) && decide (c.2.1 = 1)) <;> simp
theorem sayL_len (l : List Cl) (h : ∀ c ∈ l, c.1.size ≤ 1048576) : (sayL l).length ≤ l.length * 1048577 := by
  induction l with
  | nil => simp [sayL]
  | cons c l ih =>
    have e : (sayL (c :: l)).length = (sayC c).length + (sayL l).length := by unfold sayL; rw [List.flatMap_cons, List.length_append]
    have h1 := sayC_len c
    have h2 := h c (List.mem_cons_self)
    have h3 := ih fun x hx => h x (List.mem_cons_of_mem _ hx)
    rw [e, List.length_cons, Nat.add_mul]
    omega
theorem okc_say {l : List Cl} (h : okc l = true) (k : Nat) : (l.drop k).length ≤ 1048576 ∧ (sayL (l.drop k)).length ≤ 140737488355328 := by
  have h0 := okc_len h
  have h1 : (l.drop k).length ≤ 1048576 := by rw [List.length_drop]; omega
  refine ⟨h1, Nat.le_trans (sayL_len _ fun c hc => ?_) (by omega)⟩
  simp only [okc, Bool.and_eq_true, decide_eq_true_eq, List.all_eq_true] at h
  exact h.2 c (List.mem_of_mem_drop hc)
theorem there_nat {l : List Ln} {r c : Int} (h : there l r c = true) : ∃ n m : Nat, r = (n : Int) ∧ c = (m : Int) ∧ n < l.length ∧ m < (l.getD n dL).1.length := by
  unfold there at h
  simp only [Bool.and_eq_true, decide_eq_true_eq] at h
  obtain ⟨h1, h2, h3, h4⟩ := h
  obtain ⟨n, rfl⟩ := Int.eq_ofNat_of_zero_le h1
  obtain ⟨m, rfl⟩ := Int.eq_ofNat_of_zero_le h3
  exact ⟨n, m, rfl, rfl, by omega, by rw [Int.toNat_natCast] at h4; omega⟩
end U
namespace Go.Proofs.YtmnbcnhpklejcaaDoor
abbrev w49 : FSpec := s49 (fun x => U.okl x.1 && U.there x.1 x.2.2.1 x.2.2.2.1) fun x => U.stands x.1 x.2.1 x.2.2.1.toNat x.2.2.2.1.toNat
theorem wk49 : SpecOK Tryd.prog E0 49 w49 := k49 fun l t r c H => by
  have H : (U.okl l && U.there l r c) = true := H
  rw [Bool.and_eq_true] at H
  obtain ⟨gk, gt⟩ := H
  obtain ⟨n, m, rfl, rfl, h1, h2⟩ := U.there_nat gt
  show _ = some (U.stands l t (Int.toNat (n : Int)) (Int.toNat (m : Int)))
  rw [Int.toNat_natCast, Int.toNat_natCast]
  obtain ⟨k1, k2⟩ := U.okc_say (U.okl_at gk h1) m
  have e : sub (l.getD n U.dL).1 m (l.getD n U.dL).1.length = (l.getD n U.dL).1.drop m := by unfold sub; rw [List.take_length]
  have e1 : ((0 : Int) ≤ (m : Int) ∧ (m : Int) ≤ ((l.getD n U.dL).1.length : Int)) := by omega
  have e2 : ∀ x : Int, (bif decide ((t.size : Int) ≤ x) then decide ((0 : Int) ≤ (t.size : Int) ∧ (t.size : Int) ≤ x) else true) = true := by
    intro x
    by_cases h : (t.size : Int) ≤ x
    · rw [decide_eq_true h, cond_true]; exact decide_eq_true ⟨by omega, h⟩
    · rw [decide_eq_false h, cond_false]
  simp only [d49, Tr.val, rgetL, rgetC, Int.toNat_natCast, e, e1, e2, k1, k2, inB_nat h1, inB_nat h2, and_self, decide_true, cond_true]
  unfold U.stands U.pre
  generalize ((l.getD n U.dL).1.getD m U.dC).2.1 = x
  generalize strOf (U.sayL ((l.getD n U.dL).1.drop m)) = y
  by_cases h : x = 0
  · simp only [h, decide_true, cond_true, Bool.not_true, Bool.false_and]
  · by_cases h' : t.size ≤ y.size
    · simp only [h, h', Int.ofNat_le, decide_true, decide_false, cond_true, cond_false, Bool.not_false, Bool.true_and]
    · simp only [h, h', Int.ofNat_le, decide_false, cond_false, Bool.not_false, Bool.true_and, Bool.false_and]
end Go.Proofs.YtmnbcnhpklejcaaDoor

end
section
set_option linter.unusedVariables false
set_option linter.unusedSimpArgs false
set_option maxRecDepth 20000
set_option maxHeartbeats 4000000
open Go Go.Ev
namespace Go.Proofs.YtmnbcnhpklejcaaDoor
open Go.RowKit
end Go.Proofs.YtmnbcnhpklejcaaDoor
namespace U
theorem there_of {l : List Ln} {n m : Nat} (h1 : n < l.length) (h2 : m < (l.getD n dL).1.length) : there l (n : Int) (m : Int) = true := by
  unfold there
  simp only [Bool.and_eq_true, decide_eq_true_eq, Int.toNat_natCast]
  exact ⟨by omega, by omega, by omega, by omega⟩
end U
namespace Go.Proofs.YtmnbcnhpklejcaaDoor
end Go.Proofs.YtmnbcnhpklejcaaDoor

end
section
set_option linter.unusedVariables false
set_option linter.unusedSimpArgs false
set_option maxRecDepth 20000
set_option maxHeartbeats 4000000
open Go Go.Ev
namespace Go.Proofs.YtmnbcnhpklejcaaDoor
open Go.RowKit
def d147 : Tr (ByteArray × Int × Int × Int × Int) :=
  Tr.ret (ByteArray.empty, (1 : Int), (0 : Int), (0 : Int), (0 : Int))
def e147 (r : ByteArray × Int × Int × Int × Int) : FRes := { rs := Slot.av (AV.agg [Leaf.dat Kd.str r.fst, Leaf.dat (.int .i64) r.snd.fst, Leaf.dat (.int .i64) r.snd.snd.fst, Leaf.dat (.int .i64) r.snd.snd.snd.fst, Leaf.dat (.int .i64) r.snd.snd.snd.snd]), upd := [], new := [] }
@[reducible] def a147 : List AK := []
@[reducible] def b147 : List BK := []
theorem t147 : evFn (Env.withFns E0 [((88 : Nat), w88)]) Tryd.f147 [PM.data celk] (akAV a147 ()) (bkBs b147 ()) = (d147).map e147 := by kernel_rfl
def s147' (G : akT a147 → ByteArray × Int × Int × Int × Int) : FSpec := aspec0 a147 b147 e147 (fun x _ => G x)
theorem k147' {G : akT a147 → ByteArray × Int × Int × Int × Int} (hd : (d147).val = some (G ())) (IO : ItOK Tryd.prog (Env.withFns E0 [((88 : Nat), w88)]) := by exact itOK_none rfl) (L : ∀ c, Tryd.f147.body = some c → LsOK (evI 2) ((Env.withFns E0 [((88 : Nat), w88)]).lend 0) c := by exact fun c _ => LsOK_none rfl c) : SpecOK Tryd.prog E0 147 (s147' G) :=
  aspec0_ok (ak := a147) (bl := b147) (e := e147) (g := fun x _ => G x) (E0 := E0) (E := Env.withFns E0 [((88 : Nat), w88)]) tab (.cons wk88 .nil) rfl rfl hm Tryd.func147 (by kernel_rfl) [PM.data celk] (fun X Y => by exact val_of (t147) (hd)) IO L
abbrev w147 : FSpec := s147' fun _ => (ByteArray.empty, (1 : Int), (0 : Int), (0 : Int), (0 : Int))
theorem wk147 : SpecOK Tryd.prog E0 147 w147 := k147' rfl
def live110 (key : Nat) : Lv :=
  bif Nat.beq key 1 then { ls := [0] } else bif Nat.beq key 1001 then { ls := [0] } else
  { ls := [] }
abbrev M110 (ls : Nat → VS → Option (Tr (Ex × VS))) : Env := (E0.withFns [(147, w147)]).loops live110 ls
@[reducible] def p110_0 : LP := { n := 22, sl := [.d (Kd.sl celk)], bl := [] }
def B110_0 (x0 : List Cell) : Tr (p110_0.T ⊕ (List Cell)) :=
  let v1 : Int := ((↑(List.length x0) : Int))
  let v2 : Int := (IntKind.wrap IntKind.i64 (v1 - (1 : Int)))
  Tr.ite (decide ((0 : Int) < v1))
    (Tr.ite (inB v2 (List.length x0))
      (Tr.ite
        (decide ((rget celk x0 v2).fst = ByteArray.empty) &&
          (decide ((rget celk x0 v2).snd.fst = (1 : Int)) &&
            (decide ((rget celk x0 v2).snd.snd.fst.fst = (0 : Int)) && (decide ((rget celk x0 v2).snd.snd.fst.snd.fst = (0 : Int)) && decide ((rget celk x0 v2).snd.snd.fst.snd.snd.fst = (0 : Int))))))
        (Tr.ite (decide ((0 : Int) ≤ v2 ∧ v2 ≤ v1)) (Tr.ret (Sum.inl ((sub x0 (0 : Nat) (Int.toNat v2), ()), ()))) Tr.fail) (Tr.ret (Sum.inr x0)))
      Tr.fail)
    (Tr.ret (Sum.inr x0))
def X110_0 (r : (List Cell)) : Ex × VS := Prod.mk (Ex.exit ( 0)) { n := 22, v := [Slot.av (AV.one (Leaf.dat (Kd.sl celk) r))], h := [] }
def b110_0 : p110_0.T → Tr (p110_0.T ⊕ (List Cell)) := fun ⟨⟨x0, _⟩, _⟩ => B110_0 x0
theorem h110_0 (ls : Nat → VS → Option (Tr (Ex × VS))) (x : p110_0.T) : (evC (evI 2) (lc Tryd.f110 0) (Env.lend (M110 ls) 0) (unV (live110 1) (p110_0.V x))).map (decL 0 (live110 1) (live110 1001)) = (b110_0 x).map (encR p110_0.V X110_0) := by
  obtain ⟨⟨x0, _⟩, _⟩ := x; kernel_rfl
theorem c110_0 (x : p110_0.T) : canV 0 (live110 1) (unV (live110 1) (p110_0.V x)) = p110_0.V x := by
  obtain ⟨⟨x0, _⟩, _⟩ := x; kernel_rfl
theorem l110_0 {T : p110_0.T → Tr (List Cell)} {ls : Nat → VS → Option (Tr (Ex × VS))} (hls : ∀ x, (Env.lend (M110 ls) 0).ls 1 x = p110_0.ls (fun a => (T a).map X110_0) x) (hS : ∀ x r, (T x).val = some r → Rounds b110_0 x r) : LoopOK (evI 2) (Env.lend (M110 ls) 0) (lc Tryd.f110 0) :=
  loopA 1 (live110 1) (live110 1001) p110_0 b110_0 X110_0 T (by kernel_rfl) rfl rfl hls (h110_0 ls) c110_0 hS
end Go.Proofs.YtmnbcnhpklejcaaDoor
namespace U
def isNone (c : ByteArray × Int × (Int × Int × Int × Unit) × Unit) : Bool := decide (c.1 = ByteArray.empty) && (decide (c.2.1 = 1) && (decide (c.2.2.1.1 = 0) && (decide (c.2.2.1.2.1 = 0) && decide (c.2.2.1.2.2.1 = 0))))
def trimR (l : List (ByteArray × Int × (Int × Int × Int × Unit) × Unit)) : List (ByteArray × Int × (Int × Int × Int × Unit) × Unit) := (l.reverse.dropWhile isNone).reverse
theorem trimR_snoc (l : List (ByteArray × Int × (Int × Int × Int × Unit) × Unit)) (a : ByteArray × Int × (Int × Int × Int × Unit) × Unit) : trimR (l ++ [a]) = bif isNone a then trimR l else l ++ [a] := by
  unfold trimR
  rw [List.reverse_append, List.reverse_singleton, List.singleton_append, List.dropWhile_cons]
  cases isNone a
  · simp
  · simp
end U
namespace Go.Proofs.YtmnbcnhpklejcaaDoor
def T110 (x : p110_0.T) : Tr (List Cell) := .ite (decide (List.length (α := Cell) x.1.1 ≤ 1048576)) (.ret (U.trimR x.1.1)) .fail
abbrev E110 : Env := M110 fun key x => bif Nat.beq key 1 then p110_0.ls (fun a => (T110 a).map X110_0) x else none
theorem R110 : ∀ (n : Nat) (l : List Cell), l.length = n → n ≤ 1048576 → Rounds b110_0 ((l, ()), ()) (U.trimR l)
  | 0, l, h, _ => by
    have e : l = [] := List.eq_nil_of_length_eq_zero h
    subst e
    exact .exit (by simp [b110_0, B110_0, Tr.val, U.trimR])
  | n + 1, l, h, hn => by
    rcases List.eq_nil_or_concat l with rfl | ⟨L, a, rfl⟩
    · cases h
    · rw [List.concat_eq_append] at h ⊢
      have hL : L.length = n := by rw [List.length_append, List.length_singleton] at h; omega
      have e0 : (L ++ [a]).length = L.length + 1 := by rw [List.length_append, List.length_singleton]
      have e1 : IntKind.wrap IntKind.i64 (((L.length + 1 : Nat) : Int) - 1) = (L.length : Int) := by rw [Go.Ev.w64 (by omega) (by omega)]; omega
      have e2 : rget celk (L ++ [a]) (L.length : Int) = a := by
        rw [rgetC, getD_el (by rw [e0]; omega)]
        simp
      have e3 : sub (L ++ [a]) 0 (Int.toNat (L.length : Int)) = L := by
        unfold sub
        rw [Int.toNat_natCast, List.drop_zero, List.take_left]
      have e4 : decide ((0 : Int) ≤ (L.length : Int) ∧ (L.length : Int) ≤ ((L.length + 1 : Nat) : Int)) = true := decide_eq_true (by omega)
      have e5 : decide ((0 : Int) < ((L.length + 1 : Nat) : Int)) = true := decide_eq_true (by omega)
      have e6 : inB (L.length : Int) (L.length + 1) = true := inB_nat (by omega)
      have hv : (b110_0 ((L ++ [a], ()), ())).val = bif U.isNone a then some (.inl ((L, ()), ())) else some (.inr (L ++ [a])) := by
        simp only [b110_0, B110_0, Tr.val, e0, e1, e2, e3, e4, e5, e6, cond_true]
        rfl
      rw [U.trimR_snoc]
      cases hb : U.isNone a with
      | true =>
        rw [hb] at hv
        exact .step hv (R110 n L hL (by omega))
      | false =>
        rw [hb] at hv
        exact .exit hv
theorem L110 : LoopOK (evI 2) (E110.lend 0) (lc Tryd.f110 0) := by
  refine l110_0 (T := T110) (fun x => rfl) ?_
  rintro ⟨⟨l, z⟩, z1⟩ r hh
  obtain ⟨g1, g2⟩ := pre_val hh
  have g1 : l.length ≤ 1048576 := of_decide_eq_true g1
  cases g2
  exact R110 _ l rfl g1
def d110 (a : List Cell) : Tr (List Cell) :=
  Tr.ite (decide (List.length a ≤ (1048576 : Nat))) (Tr.ret (U.trimR a)) Tr.fail
def e110 (r : List Cell) : FRes := { rs := Slot.av (AV.one (Leaf.dat (Kd.sl celk) r)), upd := [], new := [] }
@[reducible] def a110 : List AK := [AK.d (Kd.sl celk)]
@[reducible] def b110 : List BK := []
theorem t110 (a : List Cell) : evFn (E110) Tryd.f110 [PM.data (Kd.sl celk)] (akAV a110 (a, ())) (bkBs b110 ()) = (d110 a).map e110 := by kernel_rfl
def s110 (C : akT a110 → Bool) (G : akT a110 → List Cell) : FSpec := aspec a110 b110 e110 (fun x _ => C x) (fun x _ => G x)
theorem k110 {C : akT a110 → Bool} {G : akT a110 → List Cell} (hd : ∀ (a : List Cell), C (a, ()) = true → (d110 a).val = some (G (a, ()))) (IO : ItOK Tryd.prog (E110) := by exact itOK_none rfl) (L : ∀ c, Tryd.f110.body = some c → LsOK (evI 2) ((E110).lend 0) c := by exact fun c _ => LsOK_none rfl c) : SpecOK Tryd.prog E0 110 (s110 C G) :=
  aspec_ok (ak := a110) (bl := b110) (e := e110) (c := fun x _ => C x) (g := fun x _ => G x) (E0 := E0) (E := E110) tab (.cons wk147 .nil) rfl rfl hm Tryd.func110 (by kernel_rfl) [PM.data (Kd.sl celk)] (fun X Y H => by obtain ⟨a, _⟩ := X; exact val_of (t110 a) (hd a H)) IO L
abbrev w110 : FSpec := s110 (fun x => decide (List.length (α := Cell) x.1 ≤ 1048576)) fun x => U.trimR x.1
theorem wk110 : SpecOK Tryd.prog E0 110 w110 := by
  refine k110 (fun l H => ?_) (L := ls_ok (lcs := [lc Tryd.f110 0]) (rgs := []) (by kernel_rfl) (by kernel_rfl) L110 trivial)
  have H : l.length ≤ 1048576 := of_decide_eq_true H
  simp only [d110, Tr.val, H, decide_true, cond_true]
end Go.Proofs.YtmnbcnhpklejcaaDoor

end
section
set_option linter.unusedVariables false
set_option linter.unusedSimpArgs false
set_option maxRecDepth 20000
set_option maxHeartbeats 4000000
open Go Go.Ev
namespace Go.Proofs.YtmnbcnhpklejcaaDoor
open Go.RowKit
def d146 (a : List Line) (b : Int) : Tr (List Line × Int) :=
  Tr.ite (decide (b < (1 : Int))) Tr.fail (Tr.ret (a, b))
def e146 (r : List Line × Int) : FRes := { rs := Slot.av (AV.one (Leaf.fn ( 160) [0, 1])), upd := [], new := [Blk.box [Leaf.dat (Kd.sl link) r.fst], Blk.box [Leaf.dat (.int .i64) r.snd]] }
@[reducible] def a146 : List AK := [AK.d (Kd.sl link), AK.d (.int .i64)]
@[reducible] def b146 : List BK := []
theorem t146 (a : List Line) (b : Int) : evFn (E0) Tryd.f146 [PM.raw] (akAV a146 (a, b, ())) (bkBs b146 ()) = (d146 a b).map e146 := by kernel_rfl
def s146 (C : akT a146 → Bool) (G : akT a146 → List Line × Int) : FSpec := aspec a146 b146 e146 (fun x _ => C x) (fun x _ => G x)
theorem k146 {C : akT a146 → Bool} {G : akT a146 → List Line × Int} (hd : ∀ (a : List Line) (b : Int), C (a, b, ()) = true → (d146 a b).val = some (G (a, b, ()))) (IO : ItOK Tryd.prog (E0) := by exact itOK_none rfl) (L : ∀ c, Tryd.f146.body = some c → LsOK (evI 2) ((E0).lend 0) c := by exact fun c _ => LsOK_none rfl c) : SpecOK Tryd.prog E0 146 (s146 C G) :=
  aspec_ok (ak := a146) (bl := b146) (e := e146) (c := fun x _ => C x) (g := fun x _ => G x) (E0 := E0) (E := E0) tab .nil rfl rfl hm Tryd.func146 (by kernel_rfl) [PM.raw] (fun X Y H => by obtain ⟨a, ⟨b, _⟩⟩ := X; exact val_of (t146 a b) (hd a b H)) IO L
def d104 (a : List Line) (b : Bool) : Tr (List Line × Bool) :=
  Tr.ret (a, b)
def e104 (r : List Line × Bool) : FRes := { rs := Slot.av (AV.one (Leaf.fn ( 143) [0, 1])), upd := [], new := [Blk.box [Leaf.dat (Kd.sl link) r.fst], Blk.box [Leaf.dat Kd.bool r.snd]] }
@[reducible] def a104 : List AK := [AK.d (Kd.sl link), AK.d Kd.bool]
@[reducible] def b104 : List BK := []
theorem t104 (a : List Line) (b : Bool) : evFn (E0) Tryd.f104 [PM.raw] (akAV a104 (a, b, ())) (bkBs b104 ()) = (d104 a b).map e104 := by kernel_rfl
def s104' (G : akT a104 → List Line × Bool) : FSpec := aspec0 a104 b104 e104 (fun x _ => G x)
theorem k104' {G : akT a104 → List Line × Bool} (hd : ∀ (a : List Line) (b : Bool), (d104 a b).val = some (G (a, b, ()))) (IO : ItOK Tryd.prog (E0) := by exact itOK_none rfl) (L : ∀ c, Tryd.f104.body = some c → LsOK (evI 2) ((E0).lend 0) c := by exact fun c _ => LsOK_none rfl c) : SpecOK Tryd.prog E0 104 (s104' G) :=
  aspec0_ok (ak := a104) (bl := b104) (e := e104) (g := fun x _ => G x) (E0 := E0) (E := E0) tab .nil rfl rfl hm Tryd.func104 (by kernel_rfl) [PM.raw] (fun X Y => by obtain ⟨a, ⟨b, _⟩⟩ := X; exact val_of (t104 a b) (hd a b)) IO L
abbrev w146 : FSpec := s146 (fun x => decide (1 ≤ (x.2.1 : Int))) fun x => (x.1, x.2.1)
theorem wk146 : SpecOK Tryd.prog E0 146 w146 := k146 fun l n H => by
  have H : 1 ≤ n := of_decide_eq_true H
  simp only [d146, Tr.val, show ¬ (n < 1) by omega, decide_false, cond_false]
abbrev w104 : FSpec := s104' fun x => (x.1, x.2.1)
theorem wk104 : SpecOK Tryd.prog E0 104 w104 := k104' fun l b => rfl
end Go.Proofs.YtmnbcnhpklejcaaDoor

end
section
set_option linter.unusedVariables false
set_option linter.unusedSimpArgs false
set_option maxRecDepth 20000
set_option maxHeartbeats 4000000
open Go Go.Ev
namespace Go.Proofs.YtmnbcnhpklejcaaDoor
open Go.RowKit
abbrev G109 : List (Nat × FSpec) := [(146, w146), (20, w20)]
theorem AG109 : AllFn Tryd.prog E0 G109 := .cons wk146 (.cons wk20 .nil)
def live109 (key : Nat) : Lv := { ls := bif Nat.beq key 100001 then [0, 1, 2, 4] else bif Nat.beq key 502 then [0, 2, 5] else bif Nat.beq key 1502 then [0, 2] else bif Nat.beq key 503 then [0, 2, 5] else bif Nat.beq key 1503 then [0, 2] else [] }
noncomputable def rl109 : RL := { ps := (rg Tryd.f109 0).ps.toList, asg := (rg Tryd.f109 0).asg, body := (rg Tryd.f109 0).body }
noncomputable abbrev M109 (ls : Nat → VS → Option (Tr (Ex × VS))) : Env := ((E0.withFns G109).withIts [(160, Tryd.f160)]).loops live109 ls
def X109 (l0 l : List Line) (r : Bool) : VS := ⟨14, [.av (.one (.dat (.sl link) l0)), .av (.one (.ptr 0 0)), .av (.one (.fn 160 [1, 2]))], [(0, .box [.dat .bool r]), (1, .box [.dat (.sl link) l]), (2, .box [.dat (.int .i64) 40])]⟩
end Go.Proofs.YtmnbcnhpklejcaaDoor
namespace U
def evens (l : List Ln) : Bool := !l.any fun y => odd y.1
end U
namespace Go.Proofs.YtmnbcnhpklejcaaDoor
@[reducible] def p109 : LP := { n := 14, sl := [.d (.sl link), .c (.ptr 0 0), .c (.fn 160 [1, 2])], bl := [(0, .box [.d .bool]), (1, .box [.d (.sl link)]), (2, .box [.d (.int .i64)])] }
def Y109 (l0 : List Line) (r : Bool) : VS := ⟨14, [.av (.one (.dat (.sl link) l0)), .av (.one (.ptr 0 0))], [(0, .box [.dat .bool r])]⟩
def Z109 (l0 : List Line) : VS := ⟨14, [.av (.one (.dat (.sl link) l0)), .av (.one (.ptr 0 0))], [(0, .box [.kb false])]⟩
def T109 (x : p109.T) : Tr (Ex × VS) :=
  match x with
  | ⟨⟨l0, _⟩, ⟨r, _⟩, ⟨l, _⟩, ⟨n, _⟩, _⟩ => .ite (decide ((n : Int) = 40) && U.okl l) (.ite (U.evens l) (.ret (.nrm, Y109 l0 r)) (.ret (.ret, Z109 l0))) .fail
noncomputable abbrev E109 : Env := M109 fun key x => bif Nat.beq key 503 then p109.ls T109 x else none
noncomputable def V160 (l : List Line) (r : Bool) (i : Int) : VS := ⟨31, [.av (.one (.yld 3)), .av (.one (.ptr 1 0)), .av (.one (.ptr 2 0)), .av (.one (.dat (.int .i64) i))], [(0, .box [.dat .bool r]), (1, .box [.dat (.sl link) l]), (2, .box [.dat (.int .i64) 40]), (3, .lrec false none rl109)]⟩
noncomputable abbrev Ei109 (k : Nat) (l0 l : List Line) (r : Bool) : Env := ((E109.lend 0).fueled k).inner 4 (yldR (evI 2 ((E109.lend 0).fueled k).round) (unV { ls := [0, 2, 5] } (X109 l0 l r)).t 3)
noncomputable def Fe (l : List Line) (r : Bool) : VS := ⟨31, [], [(0, .box [.dat .bool r]), (1, .box [.dat (.sl link) l]), (2, .box [.dat (.int .i64) 40]), (3, .lrec false none rl109)]⟩
noncomputable def Fr (l : List Line) : VS := ⟨31, [], [(0, .box [.kb false]), (1, .box [.dat (.sl link) l]), (2, .box [.dat (.int .i64) 40]), (3, .lrec false (some .ret) rl109)]⟩
def end160 (l : List Line) (i : Int) : Int := IntKind.i64.wrap (i + minI 40 ((sub l i.toNat l.length).length : Int))
noncomputable def B160 (l : List Line) (r : Bool) (i : Int) : Tr (Int ⊕ (Ex × VS)) :=
  .ite (decide (i < (l.length : Int))) (.ite (decide ((0 : Int) ≤ i ∧ i ≤ (l.length : Int))) (.ite (decide ((0 : Int) ≤ i ∧ i ≤ end160 l i ∧ end160 l i ≤ (l.length : Int)) && decide (end160 l i = end160 l i))
    (.ite (U.okl (sub l i.toNat (end160 l i).toNat)) (.ite (!keepB (40, sub l i.toNat (end160 l i).toNat, ())) (.ret (.inr (.ret, Fr l))) (.ret (.inl (IntKind.i64.wrap (i + 40))))) .fail) .fail) .fail)
    (.ret (.inr (.exit 0, Fe l r)))
theorem hB160 (k : Nat) (l0 l : List Line) (r : Bool) (i : Int) : (evC (evI 1) (lc Tryd.f160 0) (Ei109 k l0 l r) (unV { ls := [0, 1, 2, 4] } (V160 l r i))).map (decL 4 { ls := [0, 1, 2, 4] } { ls := [] }) = (B160 l r i).map (encL (V160 l r)) := by kernel_rfl
theorem pre160 (k : Nat) (l0 l : List Line) (r : Bool) : (evC (evI 1) (match Tryd.f160.body with | some (.seq x _) => x | _ => .skip) (Ei109 k l0 l r)
    { t := { n := 31, m := argsT 0 [.one (.yld 3), .one (.ptr 1 0), .one (.ptr 2 0)] (Tm.full 10) }, h := (X109 l0 l r).h.set 3 (.lrec false none rl109) }).map (decL 4 { ls := [0, 1, 2, 4] } { ls := [] }) =
    .ret (.inl (V160 l r 0)) := by kernel_rfl
end Go.Proofs.YtmnbcnhpklejcaaDoor
namespace U
open Go.Proofs.YtmnbcnhpklejcaaDoor
theorem okl_part {l : List Ln} (h : okl l = true) (i n : Nat) : okl ((l.drop i).take n) = true := by
  simp only [okl, Bool.and_eq_true, decide_eq_true_eq, List.all_eq_true] at h ⊢
  refine ⟨by rw [List.length_take, List.length_drop]; omega, fun x hx => h.2 x (List.mem_of_mem_drop (List.mem_of_mem_take hx))⟩
theorem evens_app (a b : List Ln) : evens (a ++ b) = (evens a && evens b) := by unfold evens; rw [List.any_append, Bool.not_or]
theorem keep_part (c : List Ln) (h : c.length ≤ 40) : keepB (40, c, ()) = evens c := by
  unfold keepB evens
  have e1 : decide ((0 : Int) ≤ 40) = true := rfl
  have e2 : decide ((40 : Int) ≤ 40) = true := rfl
  have e3 : decide ((c.length : Int) ≤ 40) = true := decide_eq_true (by omega)
  show (decide ((0 : Int) ≤ 40) && (decide ((40 : Int) ≤ 40) && (decide ((c.length : Int) ≤ 40) && !(c.any fun y => odd y.1)))) = _
  rw [e1, e2, e3]
  rfl
end U
namespace Go.Proofs.YtmnbcnhpklejcaaDoor
theorem run160 (l : List Line) (r : Bool) (gk : U.okl l = true) : ∀ (k i : Nat), l.length - i < k → i ≤ l.length + 40 →
    runB (B160 l r) k (i : Int) = some (bif U.evens (l.drop i) then (.exit 0, Fe l r) else (.ret, Fr l))
  | 0, i, h, _ => by omega
  | k + 1, i, h, hi => by
    have hl := U.okl_len gk
    by_cases c : i < l.length
    · have e1 : sub l i l.length = l.drop i := by unfold sub; rw [List.take_length]
      have e2 : minI 40 ((l.drop i).length : Int) = ((min 40 (l.length - i) : Nat) : Int) := by rw [List.length_drop]; exact minI_nat 40 _
      have e3 : end160 l (i : Int) = ((i + min 40 (l.length - i) : Nat) : Int) := by
        unfold end160
        rw [Int.toNat_natCast, e1, e2, Go.Ev.w64 (by omega) (by omega)]
        omega
      have e4 : sub l i (i + min 40 (l.length - i)) = (l.drop i).take 40 := by
        unfold sub
        rw [List.drop_take]
        rcases Nat.le_total 40 (l.length - i) with h' | h'
        · rw [Nat.min_eq_left h']; congr 1; omega
        · rw [Nat.min_eq_right h', List.take_of_length_le (by rw [List.length_drop]; omega), List.take_of_length_le (by rw [List.length_drop]; omega)]
      have c1 : decide ((i : Int) < (l.length : Int)) = true := decide_eq_true (by omega)
      have c2 : decide ((0 : Int) ≤ (i : Int) ∧ (i : Int) ≤ (l.length : Int)) = true := decide_eq_true (by omega)
      have c3 : decide ((0 : Int) ≤ (i : Int) ∧ (i : Int) ≤ ((i + min 40 (l.length - i) : Nat) : Int) ∧ ((i + min 40 (l.length - i) : Nat) : Int) ≤ (l.length : Int)) = true := decide_eq_true (by omega)
      have c4 := U.okl_part gk i 40
      have c5 := U.keep_part ((l.drop i).take 40) (by rw [List.length_take]; omega)
      have e5 : IntKind.i64.wrap ((i : Int) + 40) = ((i + 40 : Nat) : Int) := by rw [Go.Ev.w64 (by omega) (by omega)]; omega
      have e6 : U.evens (l.drop i) = (U.evens ((l.drop i).take 40) && U.evens (l.drop (i + 40))) := by
        rw [← U.evens_app, ← List.drop_drop, List.take_append_drop]
      have hv : (B160 l r (i : Int)).val = bif U.evens ((l.drop i).take 40) then some (.inl ((i + 40 : Nat) : Int)) else some (.inr (.ret, Fr l)) := by
        simp only [B160, Tr.val, e3, e5, Int.toNat_natCast, e4, c1, c2, c3, c4, c5, decide_true, Bool.and_self, cond_true]
        cases U.evens ((l.drop i).take 40) <;> rfl
      rw [e6]
      cases hb : U.evens ((l.drop i).take 40) with
      | true =>
        rw [hb] at hv
        simp only [runB, hv, cond_true, Bool.true_and]
        exact run160 l r gk k (i + 40) (by omega) (by omega)
      | false =>
        rw [hb] at hv
        simp only [runB, hv, cond_false, Bool.false_and]
    · have c1 : decide ((i : Int) < (l.length : Int)) = false := decide_eq_false (by omega)
      have hv : (B160 l r (i : Int)).val = some (.inr (.exit 0, Fe l r)) := by
        simp only [B160, Tr.val, c1, cond_false]
      have e : l.drop i = [] := List.drop_of_length_le (by omega)
      rw [e]
      simp only [runB, hv]
      rfl
theorem range109 : RangeOK (evI 2) (E109.lend 0) (rg Tryd.f109 0) := by
  refine RangeOK.fueled fun x tr rr h1 h2 => ?_
  have h1 : p109.ls T109 x = some tr := h1
  unfold LP.ls at h1
  split at h1
  · rename_i a ha
    cases h1
    rw [LP.get_eq ha]
    clear ha
    obtain ⟨⟨l0, z0⟩, ⟨r, z1⟩, ⟨l, z2⟩, ⟨n, z3⟩, z4⟩ := a
    obtain ⟨g1, g2⟩ := pre_val h2
    rw [Bool.and_eq_true] at g1
    obtain ⟨g1, gk⟩ := g1
    have g1 : (n : Int) = 40 := of_decide_eq_true g1
    subst g1
    have gk : U.okl l = true := gk
    have hr := run160 l r gk (l.length + 1) 0 (by omega) (by omega)
    rw [List.drop_zero] at hr
    cases he : U.evens l with
    | true =>
      rw [he] at hr
      have g3 : rr = (.nrm, Y109 l0 r) := by
        have g2 : (Tr.ite (U.evens l) (.ret (.nrm, Y109 l0 r)) (.ret (.ret, Z109 l0)) : Tr (Ex × VS)).val = some rr := g2
        rw [he] at g2; cases g2; rfl
      subst g3
      obtain ⟨r', i1, i2, i3⟩ := iter_val (k0 := 1) (Ei := Ei109 (l.length + 1) l0 l r) (A := match Tryd.f160.body with | some (.seq x _) => x | _ => .skip) (L := lc Tryd.f160 0) (b := 0) (V := V160 l r) (B := B160 l r) (lv := { ls := [0, 1, 2, 4] }) rfl (by kernel_rfl)
        (hB160 (l.length + 1) l0 l r) (x0 := (0 : Int)) (σ0 := { t := { n := 31, m := argsT 0 [.one (.yld 3), .one (.ptr 1 0), .one (.ptr 2 0)] (Tm.full 10) }, h := (X109 l0 l r).h.set 3 (.lrec false none rl109) })
        (congrArg Tr.val (pre160 (l.length + 1) l0 l r)) (n := l.length + 1) rfl hr (.inl rfl)
      exact ⟨l.length + 1, _, range_val (k0 := 1 + 1) (g := 160) (caps := [1, 2]) (fn := Tryd.f160) (c := .seq (match Tryd.f160.body with | some (.seq x _) => x | _ => .skip) (.block 0 (.loop (lc Tryd.f160 0)))) (m := 3) (by kernel_rfl) (by kernel_rfl) (by kernel_rfl) (by kernel_rfl) (by kernel_rfl) i1 i2 i3 (pe := none) (rl' := rl109) rfl rfl, Prod.ext rfl (by kernel_rfl)⟩
    | false =>
      rw [he] at hr
      have g3 : rr = (.ret, Z109 l0) := by
        have g2 : (Tr.ite (U.evens l) (.ret (.nrm, Y109 l0 r)) (.ret (.ret, Z109 l0)) : Tr (Ex × VS)).val = some rr := g2
        rw [he] at g2; cases g2; rfl
      subst g3
      obtain ⟨r', i1, i2, i3⟩ := iter_val (k0 := 1) (Ei := Ei109 (l.length + 1) l0 l r) (A := match Tryd.f160.body with | some (.seq x _) => x | _ => .skip) (L := lc Tryd.f160 0) (b := 0) (V := V160 l r) (B := B160 l r) (lv := { ls := [0, 1, 2, 4] }) rfl (by kernel_rfl)
        (hB160 (l.length + 1) l0 l r) (x0 := (0 : Int)) (σ0 := { t := { n := 31, m := argsT 0 [.one (.yld 3), .one (.ptr 1 0), .one (.ptr 2 0)] (Tm.full 10) }, h := (X109 l0 l r).h.set 3 (.lrec false none rl109) })
        (congrArg Tr.val (pre160 (l.length + 1) l0 l r)) (n := l.length + 1) rfl hr (.inr rfl)
      exact ⟨l.length + 1, _, range_val (k0 := 1 + 1) (g := 160) (caps := [1, 2]) (fn := Tryd.f160) (c := .seq (match Tryd.f160.body with | some (.seq x _) => x | _ => .skip) (.block 0 (.loop (lc Tryd.f160 0)))) (m := 3) (by kernel_rfl) (by kernel_rfl) (by kernel_rfl) (by kernel_rfl) (by kernel_rfl) i1 i2 i3 (pe := some .ret) (rl' := rl109) rfl rfl, Prod.ext rfl (by kernel_rfl)⟩
  · cases h1
def d109 (a : List Line) : Tr (Bool) :=
  let v1 : Int := ((↑(List.length a) : Int))
  Tr.ite true (Tr.ite (true && U.okl a) (Tr.ite (U.evens a) (Tr.ret (decide (v1 ≤ (200 : Int)))) (Tr.ret false)) Tr.fail) Tr.fail
def e109 (r : Bool) : FRes := { rs := Slot.av (AV.one (Leaf.dat Kd.bool r)), upd := [], new := [] }
@[reducible] def a109 : List AK := [AK.d (Kd.sl link)]
@[reducible] def b109 : List BK := []
theorem t109 (a : List Line) : evFn (E109) Tryd.f109 [PM.data Kd.bool] (akAV a109 (a, ())) (bkBs b109 ()) = (d109 a).map e109 := by kernel_rfl
def s109 (C : akT a109 → Bool) (G : akT a109 → Bool) : FSpec := aspec a109 b109 e109 (fun x _ => C x) (fun x _ => G x)
theorem k109 {C : akT a109 → Bool} {G : akT a109 → Bool} (hd : ∀ (a : List Line), C (a, ()) = true → (d109 a).val = some (G (a, ()))) (IO : ItOK Tryd.prog (E109) := by exact itOK_none rfl) (L : ∀ c, Tryd.f109.body = some c → LsOK (evI 2) ((E109).lend 0) c := by exact fun c _ => LsOK_none rfl c) : SpecOK Tryd.prog E0 109 (s109 C G) :=
  aspec_ok (ak := a109) (bl := b109) (e := e109) (c := fun x _ => C x) (g := fun x _ => G x) (E0 := E0) (E := E109) tab AG109 rfl rfl hm Tryd.func109 (by kernel_rfl) [PM.data Kd.bool] (fun X Y H => by obtain ⟨a, _⟩ := X; exact val_of (t109 a) (hd a H)) IO L
theorem IO109 : ItOK Tryd.prog E109 := itOK_of (l := [(160, Tryd.f160)]) rfl (by
  intro p hp
  rw [List.mem_singleton] at hp
  subst hp
  exact ⟨Tryd.func160, by kernel_rfl⟩)
abbrev w109 : FSpec := s109 (fun x => U.okl x.1) fun x => U.evens x.1 && decide ((List.length (α := Line) x.1 : Int) ≤ 200)
theorem wk109 : SpecOK Tryd.prog E0 109 w109 := by
  refine k109 (fun l H => ?_) IO109 (L := ls_ok (lcs := []) (rgs := [rg Tryd.f109 0]) (by kernel_rfl) (by kernel_rfl) trivial range109)
  have H : U.okl l = true := H
  show _ = some (U.evens l && decide ((l.length : Int) ≤ 200))
  simp only [d109, Tr.val, H, Bool.and_self, cond_true]
  cases U.evens l <;> rfl
end Go.Proofs.YtmnbcnhpklejcaaDoor

end
section
set_option linter.unusedVariables false
set_option linter.unusedSimpArgs false
set_option maxRecDepth 20000
set_option maxHeartbeats 4000000
open Go Go.Ev
namespace Go.Proofs.YtmnbcnhpklejcaaDoor
open Go.RowKit
def live52 (key : Nat) : Lv :=
  bif Nat.beq key 6 then { ls := [0, 4, 5, 11, 12, 13], wd := [⟨4, none, .row 32 (.sl celk)⟩, ⟨5, none, .row 48 celk⟩] } else bif Nat.beq key 1006 then { ls := [4] } else
  { ls := [] }
abbrev G52 : List (Nat × FSpec) := [(109, w109), (110, w110)]
theorem AG52 : AllFn Tryd.prog E0 G52 := .cons wk109 (.cons wk110 .nil)
abbrev M52 (ls : Nat → VS → Option (Tr (Ex × VS))) : Env := (E0.withFns G52).loops live52 ls
@[reducible] def p52_0 : LP := { n := 39, sl := [.d (Kd.sl link), .c (Leaf.row ( 0)), .c (Leaf.row ( 1)), .d (Kd.sl link), .d (.int .i64), .d (.int .i64)], bl := [(0, .row 32 (Kd.sl celk)), (1, .row 48 (celk))] }
def B52_0 (x0 : List Line) (x3 : List Line) (x4 : Int) (x5 : Int) (h0 : List (List Cell)) (h1 : List Cell) : Tr (p52_0.T ⊕ (List (List Cell))) :=
  let v1 : Int := (IntKind.wrap IntKind.i64 ((↑(List.length x0) : Int) - (1 : Int)))
  Tr.ite (decide (x5 < x4))
    (Tr.ite (inB x5 (List.length x3))
      (Tr.ite (decide ((List.length h1 + List.length (rget link x3 x5).fst) * (48 : Nat) ≤ (140737488355328 : Nat)))
        (Tr.ite (!(rget link x3 x5).snd.fst)
          (Tr.ite (decide (List.length (h1 ++ (rget link x3 x5).fst) ≤ (1048576 : Nat)))
            (Tr.ite (decide ((List.length h0 + (1 : Nat)) * (24 : Nat) ≤ (140737488355328 : Nat)))
              (Tr.ret (Sum.inl ((x0, x3, x4, IntKind.wrap IntKind.i64 (x5 + (1 : Int)), ()), h0 ++ [U.trimR (h1 ++ (rget link x3 x5).fst)], [], ()))) Tr.fail)
            Tr.fail)
          (Tr.ite (decide (x5 = v1))
            (Tr.ite (decide (List.length (h1 ++ (rget link x3 x5).fst) ≤ (1048576 : Nat)))
              (Tr.ite (decide ((List.length h0 + (1 : Nat)) * (24 : Nat) ≤ (140737488355328 : Nat)))
                (Tr.ret (Sum.inl ((x0, x3, x4, IntKind.wrap IntKind.i64 (x5 + (1 : Int)), ()), h0 ++ [U.trimR (h1 ++ (rget link x3 x5).fst)], [], ()))) Tr.fail)
              Tr.fail)
            (Tr.ret (Sum.inl ((x0, x3, x4, IntKind.wrap IntKind.i64 (x5 + (1 : Int)), ()), h0, h1 ++ (rget link x3 x5).fst, ())))))
        Tr.fail)
      Tr.fail)
    (Tr.ret (Sum.inr h0))
def X52_0 (r : (List (List Cell))) : Ex × VS := Prod.mk (Ex.exit ( 0)) { n := 39, v := [Slot.av (AV.one (Leaf.row ( 0)))], h := [( 0, Blk.row ( 32) (Kd.sl celk) r)] }
def b52_0 : p52_0.T → Tr (p52_0.T ⊕ (List (List Cell))) := fun ⟨⟨x0, ⟨x3, ⟨x4, ⟨x5, _⟩⟩⟩⟩, ⟨h0, ⟨h1, _⟩⟩⟩ => B52_0 x0 x3 x4 x5 h0 h1
theorem h52_0 (ls : Nat → VS → Option (Tr (Ex × VS))) (x : p52_0.T) : (evC (evI 2) (lc Tryd.f52 0) (Env.lend (M52 ls) 0) (unV (live52 6) (p52_0.V x))).map (decL 0 (live52 6) (live52 1006)) = (b52_0 x).map (encR p52_0.V X52_0) := by
  obtain ⟨⟨x0, ⟨x3, ⟨x4, ⟨x5, _⟩⟩⟩⟩, ⟨h0, ⟨h1, _⟩⟩⟩ := x; kernel_rfl
theorem c52_0 (x : p52_0.T) : canV 0 (live52 6) (unV (live52 6) (p52_0.V x)) = p52_0.V x := by
  obtain ⟨⟨x0, ⟨x3, ⟨x4, ⟨x5, _⟩⟩⟩⟩, ⟨h0, ⟨h1, _⟩⟩⟩ := x; kernel_rfl
theorem l52_0 {T : p52_0.T → Tr (List (List Cell))} {ls : Nat → VS → Option (Tr (Ex × VS))} (hls : ∀ x, (Env.lend (M52 ls) 0).ls 6 x = p52_0.ls (fun a => (T a).map X52_0) x) (hS : ∀ x r, (T x).val = some r → Rounds b52_0 x r) : LoopOK (evI 2) (Env.lend (M52 ls) 0) (lc Tryd.f52 0) :=
  loopA 6 (live52 6) (live52 1006) p52_0 b52_0 X52_0 T (by kernel_rfl) rfl rfl hls (h52_0 ls) c52_0 hS
end Go.Proofs.YtmnbcnhpklejcaaDoor

end
section
set_option linter.unusedVariables false
set_option linter.unusedSimpArgs false
set_option maxRecDepth 20000
set_option maxHeartbeats 4000000
open Go Go.Ev
namespace U
open Go.Proofs.YtmnbcnhpklejcaaDoor
def joinL : List Ln → List Cl → List (List Cl)
  | [], _ => []
  | y :: l, h => bif !y.2.1 || decide (l.length = 0) then trimR (h ++ y.1) :: joinL l [] else joinL l (h ++ y.1)
def cells : List Ln → Nat
  | [] => 0
  | y :: l => y.1.length + cells l
end U
namespace Go.Proofs.YtmnbcnhpklejcaaDoor
open Go.RowKit
theorem R52 (x0 l : List Line) (hl : l.length ≤ 1048576) (hx : x0.length = l.length) : ∀ (k i : Nat) (h0 : List (List Cell)) (h1 : List Cell), i + k = l.length → h0.length + k ≤ 1048576 → h1.length + U.cells (l.drop i) ≤ 1048576 →
    Rounds b52_0 ((x0, l, (l.length : Int), (i : Int), ()), h0, h1, ()) (h0 ++ U.joinL (l.drop i) h1)
  | 0, i, h0, h1, e, _, _ => by
    have e : i = l.length := by omega
    subst e
    rw [List.drop_length]
    refine .exit ?_
    have c : decide ((l.length : Int) < (l.length : Int)) = false := decide_eq_false (by omega)
    simp only [b52_0, B52_0, Tr.val, c, cond_false, U.joinL, List.append_nil]
  | k + 1, i, h0, h1, e, hb, hc => by
    have hi : i < l.length := by omega
    have er : rget link l (i : Int) = l[i] := by rw [rgetL]; exact getD_el hi
    have hd : l.drop i = l[i] :: l.drop (i + 1) := List.drop_eq_getElem_cons hi
    have w : IntKind.wrap IntKind.i64 ((i : Int) + 1) = ((i + 1 : Nat) : Int) := wrap64_nat (show i ≤ 1048576 by omega)
    have w1 : IntKind.wrap IntKind.i64 ((x0.length : Int) - 1) = (l.length : Int) - 1 := by rw [Go.Ev.w64 (by omega) (by omega)]; omega
    have c1 : decide ((i : Int) < (l.length : Int)) = true := decide_eq_true (by omega)
    have c2 : decide ((i : Int) = (l.length : Int) - 1) = decide ((l.drop (i + 1)).length = 0) := by
      rw [List.length_drop]
      exact decide_eq_decide.2 (by omega)
    rw [hd] at hc ⊢
    generalize l[i] = y at *
    have hc : h1.length + (y.1.length + U.cells (l.drop (i + 1))) ≤ 1048576 := hc
    have c3 : (h1.length + y.1.length) * 48 ≤ 140737488355328 := by omega
    have c4 : (h1 ++ y.1).length ≤ 1048576 := by rw [List.length_append]; omega
    have c5 : (h0.length + 1) * 24 ≤ 140737488355328 := by omega
    have r1 := R52 x0 l hl hx k (i + 1) (h0 ++ [U.trimR (h1 ++ y.1)]) [] (by omega) (by rw [List.length_append, List.length_singleton]; omega) (by show 0 + _ ≤ _; omega)
    have r2 := R52 x0 l hl hx k (i + 1) h0 (h1 ++ y.1) (by omega) (by omega) (by rw [List.length_append]; omega)
    rw [List.append_assoc, List.singleton_append] at r1
    unfold U.joinL
    cases hy : y.2.1 with
    | false =>
      refine .step ?_ r1
      simp only [b52_0, B52_0, Tr.val, inB_nat hi, er, w, c1, c3, c4, c5, hy, decide_true, cond_true, Bool.not_false]
    | true =>
      cases hz : decide ((l.drop (i + 1)).length = 0) with
      | true =>
        refine .step ?_ r1
        simp only [b52_0, B52_0, Tr.val, inB_nat hi, er, w, w1, c1, c2, hz, c3, c4, c5, hy, decide_true, cond_true, cond_false, Bool.not_true]
      | false =>
        refine .step ?_ r2
        simp only [b52_0, B52_0, Tr.val, inB_nat hi, er, w, w1, c1, c2, hz, c3, hy, decide_true, cond_true, cond_false, Bool.not_true]
end Go.Proofs.YtmnbcnhpklejcaaDoor

end
section
set_option linter.unusedVariables false
set_option linter.unusedSimpArgs false
set_option maxRecDepth 20000
set_option maxHeartbeats 4000000
open Go Go.Ev
namespace Go.Proofs.YtmnbcnhpklejcaaDoor
open Go.RowKit
def T52 (x : p52_0.T) : Tr (List (List Cell)) :=
  match x with
  | ⟨⟨x0, l, n, i, _⟩, h0, h1, _⟩ =>
    .ite (decide ((n : Int) = (List.length (α := Line) l : Int) ∧ (i : Int) = 0 ∧ List.length (α := Line) x0 = List.length (α := Line) l ∧ List.length (α := Line) l ≤ 1048576 ∧ List.length (α := List Cell) h0 + List.length (α := Line) l ≤ 1048576 ∧ List.length (α := Cell) h1 + U.cells l ≤ 1048576))
      (.ret (List.append (α := List Cell) h0 (U.joinL l h1))) .fail
abbrev E52 : Env := M52 fun key x => bif Nat.beq key 6 then p52_0.ls (fun a => (T52 a).map X52_0) x else none
theorem L52 : LoopOK (evI 2) (E52.lend 0) (lc Tryd.f52 0) := by
  refine l52_0 (T := T52) (fun x => rfl) ?_
  rintro ⟨⟨x0, l, n, i, z⟩, h0, h1, z1⟩ r hh
  obtain ⟨g1, g2⟩ := pre_val hh
  have g1 : (n : Int) = (l.length : Int) ∧ (i : Int) = 0 ∧ x0.length = l.length ∧ l.length ≤ 1048576 ∧ h0.length + l.length ≤ 1048576 ∧ h1.length + U.cells l ≤ 1048576 := of_decide_eq_true g1
  obtain ⟨rfl, rfl, e1, e2, e3, e4⟩ := g1
  cases g2
  exact R52 x0 l e2 e1 l.length 0 h0 h1 (by omega) e3 e4
def d52 (a : List Line) : Tr (List (List Cell) × Int) :=
  let v1 : Int := ((↑(List.length a) : Int))
  let v2 : Int := ((↑(List.length a) : Int))
  Tr.ite (U.okl a)
    (Tr.ite (!(U.evens a && decide (v1 ≤ (200 : Int)))) (Tr.ret ([], (1 : Int)))
      (Tr.ite
        (decide
          (v2 = v1 ∧ (0 : Int) = (0 : Int) ∧ List.length a = List.length a ∧ List.length a ≤ (1048576 : Nat) ∧ (0 : Nat) + List.length a ≤ (1048576 : Nat) ∧ (0 : Nat) + U.cells a ≤ (1048576 : Nat)))
        (Tr.ret (List.append [] (U.joinL a []), (0 : Int))) Tr.fail))
    Tr.fail
def e52 (r : List (List Cell) × Int) : FRes := { rs := Slot.tup [AV.one (Leaf.dat (Kd.sl (Kd.sl celk)) r.fst), AV.one (Leaf.dat (.int .i64) r.snd)], upd := [], new := [] }
@[reducible] def a52 : List AK := [AK.d (Kd.sl link)]
@[reducible] def b52 : List BK := []
theorem t52 (a : List Line) : evFn (E52) Tryd.f52 [PM.data (Kd.sl (Kd.sl celk)), PM.data (.int .i64)] (akAV a52 (a, ())) (bkBs b52 ()) = (d52 a).map e52 := by kernel_rfl
def s52 (C : akT a52 → Bool) (G : akT a52 → List (List Cell) × Int) : FSpec := aspec a52 b52 e52 (fun x _ => C x) (fun x _ => G x)
theorem k52 {C : akT a52 → Bool} {G : akT a52 → List (List Cell) × Int} (hd : ∀ (a : List Line), C (a, ()) = true → (d52 a).val = some (G (a, ()))) (IO : ItOK Tryd.prog (E52) := by exact itOK_none rfl) (L : ∀ c, Tryd.f52.body = some c → LsOK (evI 2) ((E52).lend 0) c := by exact fun c _ => LsOK_none rfl c) : SpecOK Tryd.prog E0 52 (s52 C G) :=
  aspec_ok (ak := a52) (bl := b52) (e := e52) (c := fun x _ => C x) (g := fun x _ => G x) (E0 := E0) (E := E52) tab AG52 rfl rfl hm Tryd.func52 (by kernel_rfl) [PM.data (Kd.sl (Kd.sl celk)), PM.data (.int .i64)] (fun X Y H => by obtain ⟨a, _⟩ := X; exact val_of (t52 a) (hd a H)) IO L
def U.may (l : List U.Ln) : Bool := U.evens l && decide ((l.length : Int) ≤ 200)
abbrev w52 : FSpec := s52 (fun x => U.okl x.1 && decide (U.cells x.1 ≤ 1048576)) fun x => bif U.may x.1 then (U.joinL x.1 [], (0 : Int)) else ([], (1 : Int))
theorem wk52 : SpecOK Tryd.prog E0 52 w52 := by
  refine k52 (fun l H => ?_) (L := ls_ok (lcs := [lc Tryd.f52 0]) (rgs := []) (by kernel_rfl) (by kernel_rfl) L52 trivial)
  have H : (U.okl l && decide (U.cells l ≤ 1048576)) = true := H
  rw [Bool.and_eq_true] at H
  obtain ⟨gk, h2⟩ := H
  have h2 : U.cells l ≤ 1048576 := of_decide_eq_true h2
  have h3 : l.length ≤ 1048576 := U.okl_len gk
  show _ = some (bif U.may l then (U.joinL l [], (0 : Int)) else ([], (1 : Int)))
  simp only [d52, Tr.val, gk, h2, h3, Nat.zero_add, and_self, decide_true, cond_true]
  unfold U.may
  cases (U.evens l && decide ((l.length : Int) ≤ 200)) <;> rfl
def d102 (a : List Line) : Tr (Bool) :=
  let v1 : Int := ((bif U.may a then (U.joinL a [], (0 : Int)) else ([], (1 : Int))).snd)
  Tr.ite (U.okl a && decide (U.cells a ≤ (1048576 : Nat))) (Tr.ret (decide (v1 = (0 : Int)))) Tr.fail
def e102 (r : Bool) : FRes := { rs := Slot.av (AV.one (Leaf.dat Kd.bool r)), upd := [], new := [] }
@[reducible] def a102 : List AK := [AK.d (Kd.sl link)]
@[reducible] def b102 : List BK := []
theorem t102 (a : List Line) : evFn (Env.withFns E0 [((52 : Nat), w52)]) Tryd.f102 [PM.data Kd.bool] (akAV a102 (a, ())) (bkBs b102 ()) = (d102 a).map e102 := by kernel_rfl
def s102 (C : akT a102 → Bool) (G : akT a102 → Bool) : FSpec := aspec a102 b102 e102 (fun x _ => C x) (fun x _ => G x)
theorem k102 {C : akT a102 → Bool} {G : akT a102 → Bool} (hd : ∀ (a : List Line), C (a, ()) = true → (d102 a).val = some (G (a, ()))) (IO : ItOK Tryd.prog (Env.withFns E0 [((52 : Nat), w52)]) := by exact itOK_none rfl) (L : ∀ c, Tryd.f102.body = some c → LsOK (evI 2) ((Env.withFns E0 [((52 : Nat), w52)]).lend 0) c := by exact fun c _ => LsOK_none rfl c) : SpecOK Tryd.prog E0 102 (s102 C G) :=
  aspec_ok (ak := a102) (bl := b102) (e := e102) (c := fun x _ => C x) (g := fun x _ => G x) (E0 := E0) (E := Env.withFns E0 [((52 : Nat), w52)]) tab (.cons wk52 .nil) rfl rfl hm Tryd.func102 (by kernel_rfl) [PM.data Kd.bool] (fun X Y H => by obtain ⟨a, _⟩ := X; exact val_of (t102 a) (hd a H)) IO L
abbrev w102 : FSpec := s102 (fun x => U.okl x.1 && decide (U.cells x.1 ≤ 1048576)) fun x => U.may x.1
theorem wk102 : SpecOK Tryd.prog E0 102 w102 := k102 fun l H => by
  have H : (U.okl l && decide (U.cells l ≤ 1048576)) = true := H
  show _ = some (U.may l)
  simp only [d102, Tr.val, H, cond_true]
  cases U.may l <;> rfl
end Go.Proofs.YtmnbcnhpklejcaaDoor

end
section
set_option linter.unusedVariables false
set_option linter.unusedSimpArgs false
set_option maxRecDepth 20000
set_option maxHeartbeats 4000000
open Go Go.Ev
namespace Go.Proofs.YtmnbcnhpklejcaaDoor
open Go.RowKit
def live143 (key : Nat) : Lv :=
  bif Nat.beq key 8 then { ls := [0, 1, 2, 5, 6, 10, 11, 27, 28] } else bif Nat.beq key 1008 then { ls := [0, 1, 2, 10, 11] } else
  bif Nat.beq key 1 then { ls := [0, 1, 2, 10, 11] } else bif Nat.beq key 1001 then { ls := [] } else
  { ls := [] }
def live44 (key : Nat) : Lv :=
  bif Nat.beq key 509 then { ls := [5, 6, 7, 8, 10, 11, 12, 13, 39] } else bif Nat.beq key 1509 then { ls := [10, 11, 12] } else
  { ls := [] }
abbrev G44 : List (Nat × FSpec) := [(102, w102), (103, w103), (104, w104), (105, w105), (106, w106), (107, w107), (108, w108)]
theorem AG44 : AllFn Tryd.prog E0 G44 := .cons wk102 (.cons wk103 (.cons wk104 (.cons wk105 (.cons wk106 (.cons wk107 (.cons wk108 .nil))))))
abbrev lv44 (k : Nat) : Lv := bif Nat.ble 100000 k then live143 (Nat.sub k 100000) else live44 k
noncomputable abbrev M44 (ls : Nat → VS → Option (Tr (Ex × VS))) : Env := ((E0.withFns G44).withIts [(143, Tryd.f143)]).loops lv44 ls
@[reducible] def q44_0 : LP := { n := 74, sl := [.c (Leaf.ptr ( 0) ( 0)), .c (Leaf.ptr ( 1) ( 0)), .c (Leaf.ptr ( 2) ( 0)), .c (Leaf.ptr ( 3) ( 0)), .c (Leaf.ptr ( 4) ( 0)), .c (Leaf.ptr ( 5) ( 0)), .c (Leaf.ptr ( 6) ( 0)), .c (Leaf.ptr ( 7) ( 0)), .c (Leaf.fn ( 143) [8, 9])], bl := [(0, .box [.d (Kd.sl link)]), (1, .box [.d (Kd.str)]), (2, .box [.d (.int .i64)]), (3, .box [.d (.int .i64)]), (4, .box [.d (.int .i64)]), (5, .box [.d (.int .i64)]), (6, .box [.d (.int .i64)]), (7, .box [.d (.int .i64)]), (8, .box [.d (Kd.sl link)]), (9, .box [.d (Kd.bool)])] }
noncomputable def r44_0 : RL := { ps := (rg Tryd.f44 0).ps.toList, asg := (rg Tryd.f44 0).asg, body := (rg Tryd.f44 0).body }
@[reducible] def p44r0_0 : LP := { n := 44, sl := [.c (Leaf.yld ( 10)), .c (Leaf.ptr ( 8) ( 0)), .c (Leaf.ptr ( 9) ( 0)), .d (.int .i64), .d (.int .i64)], bl := [(0, .box [.d (Kd.sl link)]), (1, .box [.d (Kd.str)]), (2, .box [.d (.int .i64)]), (3, .box [.d (.int .i64)]), (4, .box [.d (.int .i64)]), (5, .box [.d (.int .i64)]), (6, .box [.d (.int .i64)]), (7, .box [.d (.int .i64)]), (8, .box [.d (Kd.sl link)]), (9, .box [.d (Kd.bool)]), (10, .lr)] }
@[reducible] def p44r0_1 : LP := { n := 44, sl := [.c (Leaf.yld ( 10)), .c (Leaf.ptr ( 8) ( 0)), .c (Leaf.ptr ( 9) ( 0)), .d (.int .i64), .d (.int .i64), .d (.int .i64), .d (.int .i64), .d (.int .i64), .d (.int .i64)], bl := [(0, .box [.d (Kd.sl link)]), (1, .box [.d (Kd.str)]), (2, .box [.d (.int .i64)]), (3, .box [.d (.int .i64)]), (4, .box [.d (.int .i64)]), (5, .box [.d (.int .i64)]), (6, .box [.d (.int .i64)]), (7, .box [.d (.int .i64)]), (8, .box [.d (Kd.sl link)]), (9, .box [.d (Kd.bool)]), (10, .lr)] }
end Go.Proofs.YtmnbcnhpklejcaaDoor
namespace U
open Go.Proofs.YtmnbcnhpklejcaaDoor
def hit (l : List Ln) (s : ByteArray) (row col side : Int) (r c : Nat) : Bool := decide (orI [cmpI (r : Int) row, cmpI (c : Int) col] = side) && (decide ((0 : Int) < ((((l.getD r dL).1).getD c dC).2.1)) && pre (strOf (sayL ((l.getD r dL).1.drop c))) s)
def atB (back : Bool) (n j : Nat) : Nat := bif back then n - 1 - j else j
def colF (P : Nat → Bool) (back : Bool) (n k : Nat) : Option Nat := ((List.range' k (n - k)).map (atB back n)).find? P
theorem colF_step (P : Nat → Bool) (back : Bool) {n k : Nat} (h : k < n) : colF P back n k = bif P (atB back n k) then some (atB back n k) else colF P back n (k + 1) := by
  unfold colF
  rw [show n - k = (n - (k + 1)) + 1 by omega, List.range'_succ, List.map_cons, List.find?_cons]
  cases P (atB back n k) <;> rfl
theorem colF_end (P : Nat → Bool) (back : Bool) {n k : Nat} (h : n ≤ k) : colF P back n k = none := by
  unfold colF
  rw [show n - k = 0 by omega]
  rfl
def rowsF (P : Nat → Nat → Bool) (m : Nat → Nat) (back : Bool) (n i : Nat) : Option (Nat × Nat) := ((List.range' i (n - i)).map (atB back n)).findSome? fun r => (colF (P r) back (m r) 0).map fun c => (r, c)
theorem rowsF_step (P : Nat → Nat → Bool) (m : Nat → Nat) (back : Bool) {n k : Nat} (h : k < n) : rowsF P m back n k = match colF (P (atB back n k)) back (m (atB back n k)) 0 with | some c => some (atB back n k, c) | none => rowsF P m back n (k + 1) := by
  unfold rowsF
  rw [show n - k = (n - (k + 1)) + 1 by omega, List.range'_succ, List.map_cons, List.findSome?_cons]
  cases colF (P (atB back n k)) back (m (atB back n k)) 0 <;> rfl
theorem rowsF_end (P : Nat → Nat → Bool) (m : Nat → Nat) (back : Bool) {n k : Nat} (h : n ≤ k) : rowsF P m back n k = none := by
  unfold rowsF
  rw [show n - k = 0 by omega]
  rfl
def rowLen (l : List Ln) (r : Nat) : Nat := (l.getD r dL).1.length
end U
namespace Go.Proofs.YtmnbcnhpklejcaaDoor
def Y44 (a b c : Int) : VS := ⟨74, [one (.ptr 0 0), one (.ptr 1 0), one (.ptr 2 0)], [(0, .box [.dat (.int .i64) a]), (1, .box [.dat (.int .i64) b]), (2, .box [.dat (.int .i64) c])]⟩
def T44 (x : q44_0.T) : Tr (Ex × VS) :=
  match x with
  | ⟨_, ⟨l, _⟩, ⟨s, _⟩, ⟨row, _⟩, ⟨col, _⟩, ⟨r1, _⟩, ⟨r2, _⟩, ⟨r3, _⟩, ⟨side, _⟩, ⟨l2, _⟩, ⟨back, _⟩, _⟩ =>
    .ite (U.okl l && Kd.eqb (.sl link) l l2)
      (.ite (U.rowsF (U.hit l s row col side) (U.rowLen l) back (List.length (α := Line) l) 0).isSome
        (.ret (.ret, Y44 (((U.rowsF (U.hit l s row col side) (U.rowLen l) back (List.length (α := Line) l) 0).getD (0, 0)).1 : Int) (((U.rowsF (U.hit l s row col side) (U.rowLen l) back (List.length (α := Line) l) 0).getD (0, 0)).2 : Int) 0))
        (.ret (.nrm, Y44 r1 r2 r3))) .fail
noncomputable abbrev E44 : Env := M44 fun key x => bif Nat.beq key 509 then q44_0.ls T44 x else none
noncomputable abbrev I44 (k : Nat) (L : Nat → VS → Option (Tr (Ex × VS))) (x : q44_0.T) : Env := ((E44.lend 0).told k L).inner 11 (yldR (evI 2 ((E44.lend 0).told k L).round) (unV (lv44 509) (q44_0.V x)).t 10)
noncomputable def B44r0_1 (x3 : Int) (x4 : Int) (x5 : Int) (x6 : Int) (x7 : Int) (x8 : Int) (h0_0 : List Line) (h1_0 : ByteArray) (h2_0 : Int) (h3_0 : Int) (h4_0 : Int) (h5_0 : Int) (h6_0 : Int) (h7_0 : Int) (h8_0 : List Line) (h9_0 : Bool) (rl : RL) : Tr (p44r0_1.T ⊕ (Int × Int × List Line × ByteArray × Int × Int × Int × Int × Int × Int × List Line × Bool × RL ⊕ Int × Int × List Line × ByteArray × Int × Int × Int × Int × Int × Int × List Line × Bool × RL)) :=
  let v1 : Bool := (inB x3 (List.length h0_0))
  let v2 : Int := ((↑(List.length (rget link h0_0 x3).fst) : Int))
  let v3 : Int := (U.orI [U.cmpI x3 h2_0, U.cmpI x8 h3_0])
  let v4 : Int := (IntKind.wrap IntKind.i64 (IntKind.wrap IntKind.i64 (x4 - (1 : Int)) - x8))
  let v5 : List Cell := (sub (rget link h0_0 x3).fst (Int.toNat x8) (List.length (rget link h0_0 x3).fst))
  let v6 : List Int := (U.sayL v5)
  let v7 : Int := (U.orI [U.cmpI x3 h2_0, U.cmpI v4 h3_0])
  let v8 : List Cell := (sub (rget link h0_0 x3).fst (Int.toNat v4) (List.length (rget link h0_0 x3).fst))
  let v9 : List Int := (U.sayL v8)
  Tr.ite (decide (x8 < x7))
    (Tr.ite h9_0
      (Tr.ite v1
        (Tr.ite (decide ((0 : Int) ≤ v4 ∧ v4 ≤ v2))
          (Tr.ite true
            (Tr.ite (decide (v7 = h7_0))
              (Tr.ite (inB (0 : Int) (List.length v8))
                (Tr.ite (decide ((0 : Int) < (rget celk v8 (0 : Int)).snd.fst))
                  (Tr.ite (decide (List.length v8 ≤ (1048576 : Nat) ∧ List.length v9 ≤ (140737488355328 : Nat)))
                    (Tr.ite (U.pre (strOf v9) h1_0) (Tr.ret (Sum.inr (Sum.inl (x5, x6, h0_0, h1_0, h2_0, h3_0, x3, v4, (0 : Int), h7_0, h8_0, h9_0, r44_0))))
                      (Tr.ret
                        (Sum.inl
                          ((x3, x4, x5, x6, x7, IntKind.wrap IntKind.i64 (x8 + (1 : Int)), ()), (h0_0, ()), (h1_0, ()), (h2_0, ()), (h3_0, ()), (h4_0, ()), (h5_0, ()), (h6_0, ()), (h7_0, ()),
                            (h8_0, ()), (h9_0, ()), r44_0, ()))))
                    Tr.fail)
                  (Tr.ret
                    (Sum.inl
                      ((x3, x4, x5, x6, x7, IntKind.wrap IntKind.i64 (x8 + (1 : Int)), ()), (h0_0, ()), (h1_0, ()), (h2_0, ()), (h3_0, ()), (h4_0, ()), (h5_0, ()), (h6_0, ()), (h7_0, ()), (h8_0, ()),
                        (h9_0, ()), r44_0, ()))))
                Tr.fail)
              (Tr.ret
                (Sum.inl
                  ((x3, x4, x5, x6, x7, IntKind.wrap IntKind.i64 (x8 + (1 : Int)), ()), (h0_0, ()), (h1_0, ()), (h2_0, ()), (h3_0, ()), (h4_0, ()), (h5_0, ()), (h6_0, ()), (h7_0, ()), (h8_0, ()),
                    (h9_0, ()), r44_0, ()))))
            Tr.fail)
          Tr.fail)
        Tr.fail)
      (Tr.ite v1
        (Tr.ite (decide ((0 : Int) ≤ x8 ∧ x8 ≤ v2))
          (Tr.ite true
            (Tr.ite (decide (v3 = h7_0))
              (Tr.ite (inB (0 : Int) (List.length v5))
                (Tr.ite (decide ((0 : Int) < (rget celk v5 (0 : Int)).snd.fst))
                  (Tr.ite (decide (List.length v5 ≤ (1048576 : Nat) ∧ List.length v6 ≤ (140737488355328 : Nat)))
                    (Tr.ite (U.pre (strOf v6) h1_0) (Tr.ret (Sum.inr (Sum.inl (x5, x6, h0_0, h1_0, h2_0, h3_0, x3, x8, (0 : Int), h7_0, h8_0, h9_0, r44_0))))
                      (Tr.ret
                        (Sum.inl
                          ((x3, x4, x5, x6, x7, IntKind.wrap IntKind.i64 (x8 + (1 : Int)), ()), (h0_0, ()), (h1_0, ()), (h2_0, ()), (h3_0, ()), (h4_0, ()), (h5_0, ()), (h6_0, ()), (h7_0, ()),
                            (h8_0, ()), (h9_0, ()), r44_0, ()))))
                    Tr.fail)
                  (Tr.ret
                    (Sum.inl
                      ((x3, x4, x5, x6, x7, IntKind.wrap IntKind.i64 (x8 + (1 : Int)), ()), (h0_0, ()), (h1_0, ()), (h2_0, ()), (h3_0, ()), (h4_0, ()), (h5_0, ()), (h6_0, ()), (h7_0, ()), (h8_0, ()),
                        (h9_0, ()), r44_0, ()))))
                Tr.fail)
              (Tr.ret
                (Sum.inl
                  ((x3, x4, x5, x6, x7, IntKind.wrap IntKind.i64 (x8 + (1 : Int)), ()), (h0_0, ()), (h1_0, ()), (h2_0, ()), (h3_0, ()), (h4_0, ()), (h5_0, ()), (h6_0, ()), (h7_0, ()), (h8_0, ()),
                    (h9_0, ()), r44_0, ()))))
            Tr.fail)
          Tr.fail)
        Tr.fail))
    (Tr.ret (Sum.inr (Sum.inr (x5, x6, h0_0, h1_0, h2_0, h3_0, h4_0, h5_0, h6_0, h7_0, h8_0, h9_0, r44_0))))
def X44r0_1 : (Int × Int × List Line × ByteArray × Int × Int × Int × Int × Int × Int × List Line × Bool × RL ⊕ Int × Int × List Line × ByteArray × Int × Int × Int × Int × Int × Int × List Line × Bool × RL) → Ex × VS
  | (.inl r) => Prod.mk Ex.ret { n := 44, v := [Slot.av (AV.one (Leaf.yld ( 10))), Slot.av (AV.one (Leaf.ptr ( 8) ( 0))), Slot.av (AV.one (Leaf.ptr ( 9) ( 0))), Slot.av (AV.one (Leaf.dat (.int .i64) r.fst)), Slot.av (AV.one (Leaf.dat (.int .i64) r.snd.fst))], h := [( 0, Blk.box [Leaf.dat (Kd.sl link) r.snd.snd.fst]), ( 1, Blk.box [Leaf.dat Kd.str r.snd.snd.snd.fst]), ( 2, Blk.box [Leaf.dat (.int .i64) r.snd.snd.snd.snd.fst]), ( 3, Blk.box [Leaf.dat (.int .i64) r.snd.snd.snd.snd.snd.fst]), ( 4, Blk.box [Leaf.dat (.int .i64) r.snd.snd.snd.snd.snd.snd.fst]), ( 5, Blk.box [Leaf.dat (.int .i64) r.snd.snd.snd.snd.snd.snd.snd.fst]), ( 6, Blk.box [Leaf.dat (.int .i64) r.snd.snd.snd.snd.snd.snd.snd.snd.fst]), ( 7, Blk.box [Leaf.dat (.int .i64) r.snd.snd.snd.snd.snd.snd.snd.snd.snd.fst]), ( 8, Blk.box [Leaf.dat (Kd.sl link) r.snd.snd.snd.snd.snd.snd.snd.snd.snd.snd.fst]), ( 9, Blk.box [Leaf.dat Kd.bool r.snd.snd.snd.snd.snd.snd.snd.snd.snd.snd.snd.fst]), ( 10, Blk.lrec false (some Code.ret) r.snd.snd.snd.snd.snd.snd.snd.snd.snd.snd.snd.snd)] }
  | (.inr r) => Prod.mk (Ex.exit ( 2)) { n := 44, v := [Slot.av (AV.one (Leaf.yld ( 10))), Slot.av (AV.one (Leaf.ptr ( 8) ( 0))), Slot.av (AV.one (Leaf.ptr ( 9) ( 0))), Slot.av (AV.one (Leaf.dat (.int .i64) r.fst)), Slot.av (AV.one (Leaf.dat (.int .i64) r.snd.fst))], h := [( 0, Blk.box [Leaf.dat (Kd.sl link) r.snd.snd.fst]), ( 1, Blk.box [Leaf.dat Kd.str r.snd.snd.snd.fst]), ( 2, Blk.box [Leaf.dat (.int .i64) r.snd.snd.snd.snd.fst]), ( 3, Blk.box [Leaf.dat (.int .i64) r.snd.snd.snd.snd.snd.fst]), ( 4, Blk.box [Leaf.dat (.int .i64) r.snd.snd.snd.snd.snd.snd.fst]), ( 5, Blk.box [Leaf.dat (.int .i64) r.snd.snd.snd.snd.snd.snd.snd.fst]), ( 6, Blk.box [Leaf.dat (.int .i64) r.snd.snd.snd.snd.snd.snd.snd.snd.fst]), ( 7, Blk.box [Leaf.dat (.int .i64) r.snd.snd.snd.snd.snd.snd.snd.snd.snd.fst]), ( 8, Blk.box [Leaf.dat (Kd.sl link) r.snd.snd.snd.snd.snd.snd.snd.snd.snd.snd.fst]), ( 9, Blk.box [Leaf.dat Kd.bool r.snd.snd.snd.snd.snd.snd.snd.snd.snd.snd.snd.fst]), ( 10, Blk.lrec false none r.snd.snd.snd.snd.snd.snd.snd.snd.snd.snd.snd.snd)] }
noncomputable def b44r0_1 : p44r0_1.T → Tr (p44r0_1.T ⊕ (Int × Int × List Line × ByteArray × Int × Int × Int × Int × Int × Int × List Line × Bool × RL ⊕ Int × Int × List Line × ByteArray × Int × Int × Int × Int × Int × Int × List Line × Bool × RL)) := fun ⟨⟨x3, ⟨x4, ⟨x5, ⟨x6, ⟨x7, ⟨x8, _⟩⟩⟩⟩⟩⟩, ⟨⟨h0_0, _⟩, ⟨⟨h1_0, _⟩, ⟨⟨h2_0, _⟩, ⟨⟨h3_0, _⟩, ⟨⟨h4_0, _⟩, ⟨⟨h5_0, _⟩, ⟨⟨h6_0, _⟩, ⟨⟨h7_0, _⟩, ⟨⟨h8_0, _⟩, ⟨⟨h9_0, _⟩, ⟨rl, _⟩⟩⟩⟩⟩⟩⟩⟩⟩⟩⟩⟩ => B44r0_1 x3 x4 x5 x6 x7 x8 h0_0 h1_0 h2_0 h3_0 h4_0 h5_0 h6_0 h7_0 h8_0 h9_0 rl
noncomputable def z44r0_1 : p44r0_1.T → p44r0_1.T := fun ⟨⟨x3, ⟨x4, ⟨x5, ⟨x6, ⟨x7, ⟨x8, _⟩⟩⟩⟩⟩⟩, ⟨⟨h0_0, _⟩, ⟨⟨h1_0, _⟩, ⟨⟨h2_0, _⟩, ⟨⟨h3_0, _⟩, ⟨⟨h4_0, _⟩, ⟨⟨h5_0, _⟩, ⟨⟨h6_0, _⟩, ⟨⟨h7_0, _⟩, ⟨⟨h8_0, _⟩, ⟨⟨h9_0, _⟩, ⟨rl, _⟩⟩⟩⟩⟩⟩⟩⟩⟩⟩⟩⟩ => ((x3, x4, x5, x6, x7, x8, ()), (h0_0, ()), (h1_0, ()), (h2_0, ()), (h3_0, ()), (h4_0, ()), (h5_0, ()), (h6_0, ()), (h7_0, ()), (h8_0, ()), (h9_0, ()), r44_0, ())
noncomputable def o44r0_1 : p44r0_1.T → Bool := fun ⟨⟨x3, ⟨x4, ⟨x5, ⟨x6, ⟨x7, ⟨x8, _⟩⟩⟩⟩⟩⟩, ⟨⟨h0_0, _⟩, ⟨⟨h1_0, _⟩, ⟨⟨h2_0, _⟩, ⟨⟨h3_0, _⟩, ⟨⟨h4_0, _⟩, ⟨⟨h5_0, _⟩, ⟨⟨h6_0, _⟩, ⟨⟨h7_0, _⟩, ⟨⟨h8_0, _⟩, ⟨⟨h9_0, _⟩, ⟨rl, _⟩⟩⟩⟩⟩⟩⟩⟩⟩⟩⟩⟩ => isRL r44_0 rl
theorem ho44r0_1 (y : p44r0_1.T) (h : o44r0_1 y = true) : y = z44r0_1 y := by
  obtain ⟨⟨x3, ⟨x4, ⟨x5, ⟨x6, ⟨x7, ⟨x8, _⟩⟩⟩⟩⟩⟩, ⟨⟨h0_0, _⟩, ⟨⟨h1_0, _⟩, ⟨⟨h2_0, _⟩, ⟨⟨h3_0, _⟩, ⟨⟨h4_0, _⟩, ⟨⟨h5_0, _⟩, ⟨⟨h6_0, _⟩, ⟨⟨h7_0, _⟩, ⟨⟨h8_0, _⟩, ⟨⟨h9_0, _⟩, ⟨rl, _⟩⟩⟩⟩⟩⟩⟩⟩⟩⟩⟩⟩ := y; have h := isRL_iff.1 h
  subst h
  rfl
theorem h44r0_1 (k : Nat) (L : Nat → VS → Option (Tr (Ex × VS))) (g0_0 : List Line) (g1_0 : ByteArray) (g2_0 : Int) (g3_0 : Int) (g4_0 : Int) (g5_0 : Int) (g6_0 : Int) (g7_0 : Int) (g8_0 : List Line) (g9_0 : Bool) (y : p44r0_1.T) : (evC (evI 1) (lc Tryd.f143 1) (I44 k L ((), (g0_0, ()), (g1_0, ()), (g2_0, ()), (g3_0, ()), (g4_0, ()), (g5_0, ()), (g6_0, ()), (g7_0, ()), (g8_0, ()), (g9_0, ()), ())) (unV (live143 8) (p44r0_1.V (z44r0_1 y)))).map (decL 11 (live143 8) (live143 1008)) = ((b44r0_1) y).map (encR (fun a => p44r0_1.V (z44r0_1 a)) X44r0_1) := by
  obtain ⟨⟨x3, ⟨x4, ⟨x5, ⟨x6, ⟨x7, ⟨x8, _⟩⟩⟩⟩⟩⟩, ⟨⟨h0_0, _⟩, ⟨⟨h1_0, _⟩, ⟨⟨h2_0, _⟩, ⟨⟨h3_0, _⟩, ⟨⟨h4_0, _⟩, ⟨⟨h5_0, _⟩, ⟨⟨h6_0, _⟩, ⟨⟨h7_0, _⟩, ⟨⟨h8_0, _⟩, ⟨⟨h9_0, _⟩, ⟨rl, _⟩⟩⟩⟩⟩⟩⟩⟩⟩⟩⟩⟩ := y; kernel_rfl
theorem c44r0_1 (y : p44r0_1.T) : canV 11 (live143 8) (unV (live143 8) (p44r0_1.V (z44r0_1 y))) = p44r0_1.V (z44r0_1 y) := by
  obtain ⟨⟨x3, ⟨x4, ⟨x5, ⟨x6, ⟨x7, ⟨x8, _⟩⟩⟩⟩⟩⟩, ⟨⟨h0_0, _⟩, ⟨⟨h1_0, _⟩, ⟨⟨h2_0, _⟩, ⟨⟨h3_0, _⟩, ⟨⟨h4_0, _⟩, ⟨⟨h5_0, _⟩, ⟨⟨h6_0, _⟩, ⟨⟨h7_0, _⟩, ⟨⟨h8_0, _⟩, ⟨⟨h9_0, _⟩, ⟨rl, _⟩⟩⟩⟩⟩⟩⟩⟩⟩⟩⟩⟩ := y; kernel_rfl
theorem l44r0_1 {T : p44r0_1.T → Tr (Int × Int × List Line × ByteArray × Int × Int × Int × Int × Int × Int × List Line × Bool × RL ⊕ Int × Int × List Line × ByteArray × Int × Int × Int × Int × Int × Int × List Line × Bool × RL)} (k : Nat) (L : Nat → VS → Option (Tr (Ex × VS))) (g0_0 : List Line) (g1_0 : ByteArray) (g2_0 : Int) (g3_0 : Int) (g4_0 : Int) (g5_0 : Int) (g6_0 : Int) (g7_0 : Int) (g8_0 : List Line) (g9_0 : Bool) (hls : ∀ x, L 8 x = p44r0_1.ls (fun a => .ite (o44r0_1 a) ((T a).map X44r0_1) .fail) x) (hS : ∀ x r, (T x).val = some r → Rounds (b44r0_1) x r) : LoopOK (evI 1) (I44 k L ((), (g0_0, ()), (g1_0, ()), (g2_0, ()), (g3_0, ()), (g4_0, ()), (g5_0, ()), (g6_0, ()), (g7_0, ()), (g8_0, ()), (g9_0, ()), ())) (lc Tryd.f143 1) :=
  loopB 8 (live143 8) (live143 1008) p44r0_1 id z44r0_1 o44r0_1 ho44r0_1 (b44r0_1) X44r0_1 T (by kernel_rfl) rfl rfl hls (h44r0_1 k L g0_0 g1_0 g2_0 g3_0 g4_0 g5_0 g6_0 g7_0 g8_0 g9_0) c44r0_1 hS
noncomputable def T44r0_1 (x : p44r0_1.T) : Tr (Int × Int × List Line × ByteArray × Int × Int × Int × Int × Int × Int × List Line × Bool × RL ⊕ Int × Int × List Line × ByteArray × Int × Int × Int × Int × Int × Int × List Line × Bool × RL) :=
  match x with
  | ⟨⟨x3, x4, x5, x6, x7, x8, _⟩, ⟨⟨l, _⟩, ⟨s, _⟩, ⟨row, _⟩, ⟨col, _⟩, ⟨r1, _⟩, ⟨r2, _⟩, ⟨r3, _⟩, ⟨side, _⟩, ⟨l2, _⟩, ⟨back, _⟩, rl, _⟩⟩ =>
    .ite (decide (0 ≤ (x3 : Int) ∧ (x3 : Int) < (List.length (α := Line) l : Int) ∧ (x4 : Int) = (U.rowLen l (Int.toNat x3) : Int) ∧ (x7 : Int) = (x4 : Int) ∧ 0 ≤ (x8 : Int)) && U.okl l)
      (.ite (U.colF (U.hit l s row col side (Int.toNat x3)) back (Int.toNat x4) (Int.toNat x8)).isSome
        (.ret (.inl (x5, x6, l, s, row, col, x3, ((U.colF (U.hit l s row col side (Int.toNat x3)) back (Int.toNat x4) (Int.toNat x8)).getD 0 : Nat), (0 : Int), side, l2, back, r44_0)))
        (.ret (.inr (x5, x6, l, s, row, col, r1, r2, r3, side, l2, back, r44_0)))) .fail
theorem R44r0_1 (l : List Line) (s : ByteArray) (row col side : Int) (back : Bool) (r n : Nat) (hr : r < l.length) (hn : U.rowLen l r = n) (gk : U.okl l = true) (x5 x6 r1 r2 r3 : Int) (l2 : List Line) : ∀ (d k : Nat) (rl : RL), d + k = n →
    Rounds b44r0_1 (((r : Int), (n : Int), x5, x6, (n : Int), (k : Int), ()), (l, ()), (s, ()), (row, ()), (col, ()), (r1, ()), (r2, ()), (r3, ()), (side, ()), (l2, ()), (back, ()), rl, ())
      (match U.colF (U.hit l s row col side r) back n k with | some c => .inl (x5, x6, l, s, row, col, (r : Int), (c : Int), (0 : Int), side, l2, back, r44_0) | none => .inr (x5, x6, l, s, row, col, r1, r2, r3, side, l2, back, r44_0))
  | 0, k, rl, e => by
    rw [U.colF_end _ _ (by omega)]
    refine .exit ?_
    simp only [b44r0_1, B44r0_1, Tr.val, show ¬ ((k : Int) < (n : Int)) by omega, decide_false, cond_false]
  | d + 1, k, rl, e => by
    have hk : k < n := by omega
    rw [U.colF_step _ _ hk]
    have hcl := U.okc_len (U.okl_at gk hr)
    have hcl : (l.getD r U.dL).1.length ≤ 1048576 := hcl
    have hn' : (l.getD r U.dL).1.length = n := hn
    have er : rget link l (r : Int) = l.getD r U.dL := rgetL l r
    have w : IntKind.wrap IntKind.i64 ((k : Int) + 1) = ((k + 1 : Nat) : Int) := wrap64_nat (show k ≤ 1048576 by omega)
    have w2 : IntKind.wrap IntKind.i64 (IntKind.wrap IntKind.i64 ((n : Int) - 1) - (k : Int)) = ((n - 1 - k : Nat) : Int) := by
      rw [Go.Ev.w64 (n := (n : Int) - 1) (by omega) (by omega), Go.Ev.w64 (by omega) (by omega)]; omega
    have lt : decide ((k : Int) < (n : Int)) = true := decide_eq_true (by omega)
    have key : ∀ c : Nat, c < n → sub (l.getD r U.dL).1 c (l.getD r U.dL).1.length = (l.getD r U.dL).1.drop c ∧ decide ((0 : Int) ≤ (c : Int) ∧ (c : Int) ≤ ((l.getD r U.dL).1.length : Int)) = true ∧ inB (0 : Int) ((l.getD r U.dL).1.drop c).length = true ∧
        rget celk ((l.getD r U.dL).1.drop c) (0 : Int) = (l.getD r U.dL).1.getD c U.dC ∧ decide (((l.getD r U.dL).1.drop c).length ≤ 1048576 ∧ (U.sayL ((l.getD r U.dL).1.drop c)).length ≤ 140737488355328) = true := by
      intro c hc
      refine ⟨by unfold sub; rw [List.take_length], decide_eq_true (by omega), ?_, ?_, decide_eq_true (U.okc_say (U.okl_at gk hr) c)⟩
      · rw [List.length_drop, hn']
        exact inB_nat (show 0 < n - c by omega)
      · rw [show (0 : Int) = ((0 : Nat) : Int) from rfl, rgetC]
        simp [List.getD_eq_getElem?_getD]
    have hb : U.atB back n k < n := by unfold U.atB; cases back <;> simp <;> omega
    have ih := R44r0_1 l s row col side back r n hr hn gk x5 x6 r1 r2 r3 l2 d (k + 1) r44_0 (by omega)
    have hv : (b44r0_1 (((r : Int), (n : Int), x5, x6, (n : Int), (k : Int), ()), (l, ()), (s, ()), (row, ()), (col, ()), (r1, ()), (r2, ()), (r3, ()), (side, ()), (l2, ()), (back, ()), rl, ())).val =
        bif U.hit l s row col side r (U.atB back n k) then some (.inr (.inl (x5, x6, l, s, row, col, (r : Int), ((U.atB back n k : Nat) : Int), (0 : Int), side, l2, back, r44_0)))
        else some (.inl (((r : Int), (n : Int), x5, x6, (n : Int), ((k + 1 : Nat) : Int), ()), (l, ()), (s, ()), (row, ()), (col, ()), (r1, ()), (r2, ()), (r3, ()), (side, ()), (l2, ()), (back, ()), r44_0, ())) := by
      cases back with
      | false =>
        obtain ⟨k1, k2, k3, k4, k5⟩ := key k hk
        simp only [b44r0_1, B44r0_1, Tr.val, er, w, lt, inB_nat hr, Int.toNat_natCast, k1, k2, k3, k4, k5, cond_true, cond_false, U.atB, U.hit]
        by_cases p1 : U.orI [U.cmpI (r : Int) row, U.cmpI (k : Int) col] = side
        · by_cases p2 : (0 : Int) < ((l.getD r U.dL).1.getD k U.dC).2.1
          · simp only [p1, p2, decide_true, Bool.true_and, cond_true]
          · simp only [p1, p2, decide_true, decide_false, Bool.true_and, Bool.false_and, cond_true, cond_false]
        · simp only [p1, decide_false, Bool.false_and, cond_false]
      | true =>
        obtain ⟨k1, k2, k3, k4, k5⟩ := key (n - 1 - k) (by omega)
        simp only [b44r0_1, B44r0_1, Tr.val, er, w, w2, lt, inB_nat hr, Int.toNat_natCast, k1, k2, k3, k4, k5, cond_true, cond_false, U.atB, U.hit]
        by_cases p1 : U.orI [U.cmpI (r : Int) row, U.cmpI ((n - 1 - k : Nat) : Int) col] = side
        · by_cases p2 : (0 : Int) < ((l.getD r U.dL).1.getD (n - 1 - k) U.dC).2.1
          · simp only [p1, p2, decide_true, Bool.true_and, cond_true]
          · simp only [p1, p2, decide_true, decide_false, Bool.true_and, Bool.false_and, cond_true, cond_false]
        · simp only [p1, decide_false, Bool.false_and, cond_false]
    cases hh : U.hit l s row col side r (U.atB back n k) with
    | true =>
      rw [hh] at hv
      exact .exit hv
    | false =>
      rw [hh] at hv
      exact .step hv ih
theorem K44r0_1 (k : Nat) (L : Nat → VS → Option (Tr (Ex × VS))) (x : q44_0.T) (h8 : ∀ y, L 8 y = p44r0_1.ls (fun a => .ite (o44r0_1 a) ((T44r0_1 a).map X44r0_1) .fail) y) : LoopOK (evI 1) (I44 k L x) (lc Tryd.f143 1) := by
  obtain ⟨⟨_⟩, ⟨g0, _⟩, ⟨g1, _⟩, ⟨g2, _⟩, ⟨g3, _⟩, ⟨g4, _⟩, ⟨g5, _⟩, ⟨g6, _⟩, ⟨g7, _⟩, ⟨g8, _⟩, ⟨g9, _⟩, _⟩ := x
  refine l44r0_1 (T := T44r0_1) k L g0 g1 g2 g3 g4 g5 g6 g7 g8 g9 h8 ?_
  rintro ⟨⟨x3, x4, x5, x6, x7, x8, z⟩, ⟨⟨l, z0⟩, ⟨s, z1⟩, ⟨row, z2⟩, ⟨col, z3⟩, ⟨r1, z4⟩, ⟨r2, z5⟩, ⟨r3, z6⟩, ⟨side, z7⟩, ⟨l2, z8⟩, ⟨back, z9⟩, rl, z10⟩⟩ r hh
  obtain ⟨e1, e2⟩ := pre_val hh
  rw [Bool.and_eq_true] at e1
  obtain ⟨e1, gk⟩ := e1
  have e1 : 0 ≤ (x3 : Int) ∧ (x3 : Int) < (List.length (α := Line) l : Int) ∧ (x4 : Int) = (U.rowLen l (Int.toNat x3) : Int) ∧ (x7 : Int) = (x4 : Int) ∧ 0 ≤ (x8 : Int) := of_decide_eq_true e1
  obtain ⟨h1, h2, h3, h4, h5⟩ := e1
  obtain ⟨r', rfl⟩ := Int.eq_ofNat_of_zero_le h1
  obtain ⟨k', rfl⟩ := Int.eq_ofNat_of_zero_le h5
  have h2 : r' < l.length := Int.ofNat_lt.1 h2
  subst h4
  have h3 : x7 = ((U.rowLen l r' : Nat) : Int) := h3
  subst h3
  by_cases hk : k' ≤ U.rowLen l r'
  · have := R44r0_1 l s row col side back r' (U.rowLen l r') h2 rfl gk x5 x6 r1 r2 r3 l2 (U.rowLen l r' - k') k' rl (by omega)
    have e2 : (Tr.ite (U.colF (U.hit l s row col side r') back (U.rowLen l r') k').isSome
        (.ret (.inl (x5, x6, l, s, row, col, (r' : Int), (((U.colF (U.hit l s row col side r') back (U.rowLen l r') k').getD 0 : Nat) : Int), (0 : Int), side, l2, back, r44_0)))
        (.ret (.inr (x5, x6, l, s, row, col, r1, r2, r3, side, l2, back, r44_0)))).val = some r := e2
    revert this e2
    cases U.colF (U.hit l s row col side r') back (U.rowLen l r') k' with
    | some c => intro this e2; cases e2; exact this
    | none => intro this e2; cases e2; exact this
  · have e2 : (Tr.ite (U.colF (U.hit l s row col side r') back (U.rowLen l r') k').isSome
        (.ret (.inl (x5, x6, l, s, row, col, (r' : Int), (((U.colF (U.hit l s row col side r') back (U.rowLen l r') k').getD 0 : Nat) : Int), (0 : Int), side, l2, back, r44_0)))
        (.ret (.inr (x5, x6, l, s, row, col, r1, r2, r3, side, l2, back, r44_0)))).val = some r := e2
    rw [U.colF_end _ _ (by omega)] at e2
    cases e2
    refine .exit ?_
    simp only [b44r0_1, B44r0_1, Tr.val, show ¬ ((k' : Int) < ((U.rowLen l r' : Nat) : Int)) by omega, decide_false, cond_false]
noncomputable def V44 (L : Nat → VS → Option (Tr (Ex × VS))) (key : Nat) (y : VS) : Option (Tr (Ex × VS)) := bif Nat.beq key 8 then p44r0_1.ls (fun a => .ite (o44r0_1 a) ((T44r0_1 a).map X44r0_1) .fail) y else L key y
noncomputable abbrev J44 (k : Nat) (L : Nat → VS → Option (Tr (Ex × VS))) (x : q44_0.T) : Env := I44 0 (V44 L) x
noncomputable def B44r0_0 (x3 : Int) (x4 : Int) (h0_0 : List Line) (h1_0 : ByteArray) (h2_0 : Int) (h3_0 : Int) (h4_0 : Int) (h5_0 : Int) (h6_0 : Int) (h7_0 : Int) (h8_0 : List Line) (h9_0 : Bool) (rl : RL) : Tr (p44r0_0.T ⊕ (List Line × ByteArray × Int × Int × Int × Int × Int × Int × List Line × Bool × RL ⊕ List Line × ByteArray × Int × Int × Int × Int × Int × Int × List Line × Bool × RL)) :=
  let v1 : Int := ((↑(List.length h0_0) : Int))
  let v2 : Int := ((↑(U.rowLen h0_0 (Int.toNat x4)) : Int))
  let v3 : Int := ((↑(List.length (rget link h8_0 x4).fst) : Int))
  let v4 : Int := (IntKind.wrap IntKind.i64 (IntKind.wrap IntKind.i64 ((↑(List.length h8_0) : Int) - (1 : Int)) - x4))
  let v5 : Int := ((↑(U.rowLen h0_0 (Int.toNat v4)) : Int))
  let v6 : Int := ((↑(List.length (rget link h8_0 v4).fst) : Int))
  Tr.ite (decide (x4 < x3))
    (Tr.ite h9_0
      (Tr.ite (inB v4 (List.length h8_0))
        (Tr.ite (o44r0_1 ((v4, v6, x3, x4, v6, (0 : Int), ()), (h0_0, ()), (h1_0, ()), (h2_0, ()), (h3_0, ()), (h4_0, ()), (h5_0, ()), (h6_0, ()), (h7_0, ()), (h8_0, ()), (h9_0, ()), r44_0, ()))
          (Tr.ite (decide ((0 : Int) ≤ v4 ∧ v4 < v1 ∧ v6 = v5 ∧ v6 = v6 ∧ (0 : Int) ≤ (0 : Int)) && U.okl h0_0)
            (Tr.ite (Option.isSome (U.colF (U.hit h0_0 h1_0 h2_0 h3_0 h7_0 (Int.toNat v4)) h9_0 (Int.toNat v6) (0 : Nat)))
              (Tr.ret
                (Sum.inr
                  (Sum.inl
                    (h0_0, h1_0, h2_0, h3_0, v4, (↑(Option.getD (U.colF (U.hit h0_0 h1_0 h2_0 h3_0 h7_0 (Int.toNat v4)) h9_0 (Int.toNat v6) (0 : Nat)) (0 : Nat)) : Int), (0 : Int), h7_0, h8_0, h9_0,
                      r44_0))))
              (Tr.ret
                (Sum.inl
                  ((x3, IntKind.wrap IntKind.i64 (x4 + (1 : Int)), ()), (h0_0, ()), (h1_0, ()), (h2_0, ()), (h3_0, ()), (h4_0, ()), (h5_0, ()), (h6_0, ()), (h7_0, ()), (h8_0, ()), (h9_0, ()), r44_0,
                    ()))))
            Tr.fail)
          Tr.fail)
        Tr.fail)
      (Tr.ite (inB x4 (List.length h8_0))
        (Tr.ite (o44r0_1 ((x4, v3, x3, x4, v3, (0 : Int), ()), (h0_0, ()), (h1_0, ()), (h2_0, ()), (h3_0, ()), (h4_0, ()), (h5_0, ()), (h6_0, ()), (h7_0, ()), (h8_0, ()), (h9_0, ()), r44_0, ()))
          (Tr.ite (decide ((0 : Int) ≤ x4 ∧ x4 < v1 ∧ v3 = v2 ∧ v3 = v3 ∧ (0 : Int) ≤ (0 : Int)) && U.okl h0_0)
            (Tr.ite (Option.isSome (U.colF (U.hit h0_0 h1_0 h2_0 h3_0 h7_0 (Int.toNat x4)) h9_0 (Int.toNat v3) (0 : Nat)))
              (Tr.ret
                (Sum.inr
                  (Sum.inl
                    (h0_0, h1_0, h2_0, h3_0, x4, (↑(Option.getD (U.colF (U.hit h0_0 h1_0 h2_0 h3_0 h7_0 (Int.toNat x4)) h9_0 (Int.toNat v3) (0 : Nat)) (0 : Nat)) : Int), (0 : Int), h7_0, h8_0, h9_0,
                      r44_0))))
              (Tr.ret
                (Sum.inl
                  ((x3, IntKind.wrap IntKind.i64 (x4 + (1 : Int)), ()), (h0_0, ()), (h1_0, ()), (h2_0, ()), (h3_0, ()), (h4_0, ()), (h5_0, ()), (h6_0, ()), (h7_0, ()), (h8_0, ()), (h9_0, ()), r44_0,
                    ()))))
            Tr.fail)
          Tr.fail)
        Tr.fail))
    (Tr.ret (Sum.inr (Sum.inr (h0_0, h1_0, h2_0, h3_0, h4_0, h5_0, h6_0, h7_0, h8_0, h9_0, r44_0))))
def X44r0_0 : (List Line × ByteArray × Int × Int × Int × Int × Int × Int × List Line × Bool × RL ⊕ List Line × ByteArray × Int × Int × Int × Int × Int × Int × List Line × Bool × RL) → Ex × VS
  | (.inl r) => Prod.mk Ex.ret { n := 44, v := [], h := [( 0, Blk.box [Leaf.dat (Kd.sl link) r.fst]), ( 1, Blk.box [Leaf.dat Kd.str r.snd.fst]), ( 2, Blk.box [Leaf.dat (.int .i64) r.snd.snd.fst]), ( 3, Blk.box [Leaf.dat (.int .i64) r.snd.snd.snd.fst]), ( 4, Blk.box [Leaf.dat (.int .i64) r.snd.snd.snd.snd.fst]), ( 5, Blk.box [Leaf.dat (.int .i64) r.snd.snd.snd.snd.snd.fst]), ( 6, Blk.box [Leaf.dat (.int .i64) r.snd.snd.snd.snd.snd.snd.fst]), ( 7, Blk.box [Leaf.dat (.int .i64) r.snd.snd.snd.snd.snd.snd.snd.fst]), ( 8, Blk.box [Leaf.dat (Kd.sl link) r.snd.snd.snd.snd.snd.snd.snd.snd.fst]), ( 9, Blk.box [Leaf.dat Kd.bool r.snd.snd.snd.snd.snd.snd.snd.snd.snd.fst]), ( 10, Blk.lrec false (some Code.ret) r.snd.snd.snd.snd.snd.snd.snd.snd.snd.snd)] }
  | (.inr r) => Prod.mk (Ex.exit ( 0)) { n := 44, v := [], h := [( 0, Blk.box [Leaf.dat (Kd.sl link) r.fst]), ( 1, Blk.box [Leaf.dat Kd.str r.snd.fst]), ( 2, Blk.box [Leaf.dat (.int .i64) r.snd.snd.fst]), ( 3, Blk.box [Leaf.dat (.int .i64) r.snd.snd.snd.fst]), ( 4, Blk.box [Leaf.dat (.int .i64) r.snd.snd.snd.snd.fst]), ( 5, Blk.box [Leaf.dat (.int .i64) r.snd.snd.snd.snd.snd.fst]), ( 6, Blk.box [Leaf.dat (.int .i64) r.snd.snd.snd.snd.snd.snd.fst]), ( 7, Blk.box [Leaf.dat (.int .i64) r.snd.snd.snd.snd.snd.snd.snd.fst]), ( 8, Blk.box [Leaf.dat (Kd.sl link) r.snd.snd.snd.snd.snd.snd.snd.snd.fst]), ( 9, Blk.box [Leaf.dat Kd.bool r.snd.snd.snd.snd.snd.snd.snd.snd.snd.fst]), ( 10, Blk.lrec false none r.snd.snd.snd.snd.snd.snd.snd.snd.snd.snd)] }
noncomputable def b44r0_0 : p44r0_0.T → Tr (p44r0_0.T ⊕ (List Line × ByteArray × Int × Int × Int × Int × Int × Int × List Line × Bool × RL ⊕ List Line × ByteArray × Int × Int × Int × Int × Int × Int × List Line × Bool × RL)) := fun ⟨⟨x3, ⟨x4, _⟩⟩, ⟨⟨h0_0, _⟩, ⟨⟨h1_0, _⟩, ⟨⟨h2_0, _⟩, ⟨⟨h3_0, _⟩, ⟨⟨h4_0, _⟩, ⟨⟨h5_0, _⟩, ⟨⟨h6_0, _⟩, ⟨⟨h7_0, _⟩, ⟨⟨h8_0, _⟩, ⟨⟨h9_0, _⟩, ⟨rl, _⟩⟩⟩⟩⟩⟩⟩⟩⟩⟩⟩⟩ => B44r0_0 x3 x4 h0_0 h1_0 h2_0 h3_0 h4_0 h5_0 h6_0 h7_0 h8_0 h9_0 rl
noncomputable def z44r0_0 : p44r0_0.T → p44r0_0.T := fun ⟨⟨x3, ⟨x4, _⟩⟩, ⟨⟨h0_0, _⟩, ⟨⟨h1_0, _⟩, ⟨⟨h2_0, _⟩, ⟨⟨h3_0, _⟩, ⟨⟨h4_0, _⟩, ⟨⟨h5_0, _⟩, ⟨⟨h6_0, _⟩, ⟨⟨h7_0, _⟩, ⟨⟨h8_0, _⟩, ⟨⟨h9_0, _⟩, ⟨rl, _⟩⟩⟩⟩⟩⟩⟩⟩⟩⟩⟩⟩ => ((x3, x4, ()), (h0_0, ()), (h1_0, ()), (h2_0, ()), (h3_0, ()), (h4_0, ()), (h5_0, ()), (h6_0, ()), (h7_0, ()), (h8_0, ()), (h9_0, ()), r44_0, ())
noncomputable def o44r0_0 : p44r0_0.T → Bool := fun ⟨⟨x3, ⟨x4, _⟩⟩, ⟨⟨h0_0, _⟩, ⟨⟨h1_0, _⟩, ⟨⟨h2_0, _⟩, ⟨⟨h3_0, _⟩, ⟨⟨h4_0, _⟩, ⟨⟨h5_0, _⟩, ⟨⟨h6_0, _⟩, ⟨⟨h7_0, _⟩, ⟨⟨h8_0, _⟩, ⟨⟨h9_0, _⟩, ⟨rl, _⟩⟩⟩⟩⟩⟩⟩⟩⟩⟩⟩⟩ => isRL r44_0 rl
theorem ho44r0_0 (y : p44r0_0.T) (h : o44r0_0 y = true) : y = z44r0_0 y := by
  obtain ⟨⟨x3, ⟨x4, _⟩⟩, ⟨⟨h0_0, _⟩, ⟨⟨h1_0, _⟩, ⟨⟨h2_0, _⟩, ⟨⟨h3_0, _⟩, ⟨⟨h4_0, _⟩, ⟨⟨h5_0, _⟩, ⟨⟨h6_0, _⟩, ⟨⟨h7_0, _⟩, ⟨⟨h8_0, _⟩, ⟨⟨h9_0, _⟩, ⟨rl, _⟩⟩⟩⟩⟩⟩⟩⟩⟩⟩⟩⟩ := y; have h := isRL_iff.1 h
  subst h
  rfl
theorem h44r0_0 (k : Nat) (L : Nat → VS → Option (Tr (Ex × VS))) (g0_0 : List Line) (g1_0 : ByteArray) (g2_0 : Int) (g3_0 : Int) (g4_0 : Int) (g5_0 : Int) (g6_0 : Int) (g7_0 : Int) (g8_0 : List Line) (g9_0 : Bool) (y : p44r0_0.T) : (evC (evI 1) (lc Tryd.f143 0) (J44 k L ((), (g0_0, ()), (g1_0, ()), (g2_0, ()), (g3_0, ()), (g4_0, ()), (g5_0, ()), (g6_0, ()), (g7_0, ()), (g8_0, ()), (g9_0, ()), ())) (unV (live143 1) (p44r0_0.V (z44r0_0 y)))).map (decL 11 (live143 1) (live143 1001)) = ((b44r0_0) y).map (encR (fun a => p44r0_0.V (z44r0_0 a)) X44r0_0) := by
  obtain ⟨⟨x3, ⟨x4, _⟩⟩, ⟨⟨h0_0, _⟩, ⟨⟨h1_0, _⟩, ⟨⟨h2_0, _⟩, ⟨⟨h3_0, _⟩, ⟨⟨h4_0, _⟩, ⟨⟨h5_0, _⟩, ⟨⟨h6_0, _⟩, ⟨⟨h7_0, _⟩, ⟨⟨h8_0, _⟩, ⟨⟨h9_0, _⟩, ⟨rl, _⟩⟩⟩⟩⟩⟩⟩⟩⟩⟩⟩⟩ := y; kernel_rfl
theorem c44r0_0 (y : p44r0_0.T) : canV 11 (live143 1) (unV (live143 1) (p44r0_0.V (z44r0_0 y))) = p44r0_0.V (z44r0_0 y) := by
  obtain ⟨⟨x3, ⟨x4, _⟩⟩, ⟨⟨h0_0, _⟩, ⟨⟨h1_0, _⟩, ⟨⟨h2_0, _⟩, ⟨⟨h3_0, _⟩, ⟨⟨h4_0, _⟩, ⟨⟨h5_0, _⟩, ⟨⟨h6_0, _⟩, ⟨⟨h7_0, _⟩, ⟨⟨h8_0, _⟩, ⟨⟨h9_0, _⟩, ⟨rl, _⟩⟩⟩⟩⟩⟩⟩⟩⟩⟩⟩⟩ := y; kernel_rfl
theorem l44r0_0 {T : p44r0_0.T → Tr (List Line × ByteArray × Int × Int × Int × Int × Int × Int × List Line × Bool × RL ⊕ List Line × ByteArray × Int × Int × Int × Int × Int × Int × List Line × Bool × RL)} (k : Nat) (L : Nat → VS → Option (Tr (Ex × VS))) (g0_0 : List Line) (g1_0 : ByteArray) (g2_0 : Int) (g3_0 : Int) (g4_0 : Int) (g5_0 : Int) (g6_0 : Int) (g7_0 : Int) (g8_0 : List Line) (g9_0 : Bool) (hls : ∀ x, L 1 x = p44r0_0.ls (fun a => .ite (o44r0_0 a) ((T a).map X44r0_0) .fail) x) (hS : ∀ x r, (T x).val = some r → Rounds (b44r0_0) x r) : LoopOK (evI 1) (J44 k L ((), (g0_0, ()), (g1_0, ()), (g2_0, ()), (g3_0, ()), (g4_0, ()), (g5_0, ()), (g6_0, ()), (g7_0, ()), (g8_0, ()), (g9_0, ()), ())) (lc Tryd.f143 0) :=
  loopB 1 (live143 1) (live143 1001) p44r0_0 id z44r0_0 o44r0_0 ho44r0_0 (b44r0_0) X44r0_0 T (by kernel_rfl) rfl rfl hls (h44r0_0 k L g0_0 g1_0 g2_0 g3_0 g4_0 g5_0 g6_0 g7_0 g8_0 g9_0) c44r0_0 hS
abbrev R44T := (List Line × ByteArray × Int × Int × Int × Int × Int × Int × List Line × Bool × RL ⊕ List Line × ByteArray × Int × Int × Int × Int × Int × Int × List Line × Bool × RL)
noncomputable def T44r0_0 (x : p44r0_0.T) : Tr R44T :=
  match x with
  | ⟨⟨x3, x4, _⟩, ⟨⟨l, _⟩, ⟨s, _⟩, ⟨row, _⟩, ⟨col, _⟩, ⟨r1, _⟩, ⟨r2, _⟩, ⟨r3, _⟩, ⟨side, _⟩, ⟨l2, _⟩, ⟨back, _⟩, rl, _⟩⟩ =>
    .ite (decide (0 ≤ (x4 : Int) ∧ (x3 : Int) = (List.length (α := Line) l : Int)) && (U.okl l && Kd.eqb (.sl link) l l2))
      (.ite (U.rowsF (U.hit l s row col side) (U.rowLen l) back (List.length (α := Line) l) (Int.toNat x4)).isSome
        (.ret (.inl (l, s, row, col, (((U.rowsF (U.hit l s row col side) (U.rowLen l) back (List.length (α := Line) l) (Int.toNat x4)).getD (0, 0)).1 : Int), (((U.rowsF (U.hit l s row col side) (U.rowLen l) back (List.length (α := Line) l) (Int.toNat x4)).getD (0, 0)).2 : Int), (0 : Int), side, l2, back, r44_0)))
        (.ret (.inr (l, s, row, col, r1, r2, r3, side, l2, back, r44_0)))) .fail
theorem R44r0_0 (l : List Line) (s : ByteArray) (row col side : Int) (back : Bool) (gk : U.okl l = true) (r1 r2 r3 : Int) : ∀ (d k : Nat) (rl : RL), d + k = l.length →
    Rounds b44r0_0 (((l.length : Int), (k : Int), ()), (l, ()), (s, ()), (row, ()), (col, ()), (r1, ()), (r2, ()), (r3, ()), (side, ()), (l, ()), (back, ()), rl, ())
      (match U.rowsF (U.hit l s row col side) (U.rowLen l) back l.length k with | some p => (.inl (l, s, row, col, (p.1 : Int), (p.2 : Int), (0 : Int), side, l, back, r44_0) : R44T) | none => .inr (l, s, row, col, r1, r2, r3, side, l, back, r44_0))
  | 0, k, rl, e => by
    rw [U.rowsF_end _ _ _ (by omega)]
    refine .exit ?_
    simp only [b44r0_0, B44r0_0, Tr.val, show ¬ ((k : Int) < (l.length : Int)) by omega, decide_false, cond_false]
  | d + 1, k, rl, e => by
    have hk : k < l.length := by omega
    rw [U.rowsF_step _ _ _ hk]
    have hl := U.okl_len gk
    have w : IntKind.wrap IntKind.i64 ((k : Int) + 1) = ((k + 1 : Nat) : Int) := wrap64_nat (show k ≤ 1048576 by omega)
    have w2 : IntKind.wrap IntKind.i64 (IntKind.wrap IntKind.i64 ((l.length : Int) - 1) - (k : Int)) = ((l.length - 1 - k : Nat) : Int) := by
      rw [Go.Ev.w64 (n := (l.length : Int) - 1) (by omega) (by omega), Go.Ev.w64 (by omega) (by omega)]; omega
    have lt : decide ((k : Int) < (l.length : Int)) = true := decide_eq_true (by omega)
    have hb : U.atB back l.length k < l.length := by unfold U.atB; cases back <;> simp <;> omega
    have ih := R44r0_0 l s row col side back gk r1 r2 r3 d (k + 1) r44_0 (by omega)
    have key : ∀ c : Nat, c < l.length → rget link l (c : Int) = l.getD c U.dL ∧ inB (c : Int) l.length = true ∧ decide ((0 : Int) ≤ (c : Int) ∧ (c : Int) < (l.length : Int)) = true :=
      fun c hc => ⟨rgetL l c, inB_nat hc, decide_eq_true (by omega)⟩
    have hv : (b44r0_0 (((l.length : Int), (k : Int), ()), (l, ()), (s, ()), (row, ()), (col, ()), (r1, ()), (r2, ()), (r3, ()), (side, ()), (l, ()), (back, ()), rl, ())).val =
        match U.colF (U.hit l s row col side (U.atB back l.length k)) back (U.rowLen l (U.atB back l.length k)) 0 with
        | some c => some (.inr (.inl (l, s, row, col, ((U.atB back l.length k : Nat) : Int), (c : Int), (0 : Int), side, l, back, r44_0)))
        | none => some (.inl (((l.length : Int), ((k + 1 : Nat) : Int), ()), (l, ()), (s, ()), (row, ()), (col, ()), (r1, ()), (r2, ()), (r3, ()), (side, ()), (l, ()), (back, ()), r44_0, ())) := by
      cases back with
      | false =>
        obtain ⟨k1, k2, k3⟩ := key k hk
        have k4 : ((l.getD k U.dL).1.length : Int) = ((U.rowLen l k : Nat) : Int) := rfl
        simp only [b44r0_0, B44r0_0, Tr.val, w, lt, Int.toNat_natCast, k1, k2, k4, gk, Bool.and_true, cond_true, cond_false, U.atB, o44r0_1, isRL_self, Int.natCast_nonneg, hk, Int.ofNat_lt, and_self, decide_true, Int.le_refl]
        cases U.colF (U.hit l s row col side k) false (U.rowLen l k) 0 <;> rfl
      | true =>
        obtain ⟨k1, k2, k3⟩ := key (l.length - 1 - k) (by omega)
        have k4 : ((l.getD (l.length - 1 - k) U.dL).1.length : Int) = ((U.rowLen l (l.length - 1 - k) : Nat) : Int) := rfl
        have k5 : l.length - 1 - k < l.length := by omega
        simp only [b44r0_0, B44r0_0, Tr.val, w, w2, lt, Int.toNat_natCast, k1, k2, k4, gk, Bool.and_true, cond_true, cond_false, U.atB, o44r0_1, isRL_self, Int.natCast_nonneg, hk, k5, Int.ofNat_lt, and_self, decide_true, Int.le_refl]
        cases U.colF (U.hit l s row col side (l.length - 1 - k)) true (U.rowLen l (l.length - 1 - k)) 0 <;> rfl
    revert hv
    cases U.colF (U.hit l s row col side (U.atB back l.length k)) back (U.rowLen l (U.atB back l.length k)) 0 with
    | some c => exact fun hv => .exit hv
    | none => exact fun hv => .step hv ih
theorem K44r0_0 (k : Nat) (L : Nat → VS → Option (Tr (Ex × VS))) (x : q44_0.T) (h1 : ∀ y, L 1 y = p44r0_0.ls (fun a => .ite (o44r0_0 a) ((T44r0_0 a).map X44r0_0) .fail) y) : LoopOK (evI 1) (J44 k L x) (lc Tryd.f143 0) := by
  obtain ⟨⟨_⟩, ⟨g0, _⟩, ⟨g1, _⟩, ⟨g2, _⟩, ⟨g3, _⟩, ⟨g4, _⟩, ⟨g5, _⟩, ⟨g6, _⟩, ⟨g7, _⟩, ⟨g8, _⟩, ⟨g9, _⟩, _⟩ := x
  refine l44r0_0 (T := T44r0_0) k L g0 g1 g2 g3 g4 g5 g6 g7 g8 g9 h1 ?_
  rintro ⟨⟨x3, x4, z⟩, ⟨⟨l, z0⟩, ⟨s, z1⟩, ⟨row, z2⟩, ⟨col, z3⟩, ⟨r1, z4⟩, ⟨r2, z5⟩, ⟨r3, z6⟩, ⟨side, z7⟩, ⟨l2, z8⟩, ⟨back, z9⟩, rl, z10⟩⟩ r hh
  obtain ⟨e1, e2⟩ := pre_val hh
  simp only [Bool.and_eq_true] at e1
  obtain ⟨e1, gk, e3⟩ := e1
  have e1 : 0 ≤ (x4 : Int) ∧ (x3 : Int) = (List.length (α := Line) l : Int) := of_decide_eq_true e1
  obtain ⟨h1, h2⟩ := e1
  obtain ⟨k', rfl⟩ := Int.eq_ofNat_of_zero_le h1
  have e3 := eqb_iff e3
  subst e3
  subst h2
  have e2 : (Tr.ite (U.rowsF (U.hit l s row col side) (U.rowLen l) back l.length k').isSome
        (.ret (.inl (l, s, row, col, (((U.rowsF (U.hit l s row col side) (U.rowLen l) back l.length k').getD (0, 0)).1 : Int), (((U.rowsF (U.hit l s row col side) (U.rowLen l) back l.length k').getD (0, 0)).2 : Int), (0 : Int), side, l, back, r44_0)))
        (.ret (.inr (l, s, row, col, r1, r2, r3, side, l, back, r44_0))) : Tr R44T).val = some r := e2
  by_cases hk : k' ≤ l.length
  · have := R44r0_0 l s row col side back gk r1 r2 r3 (l.length - k') k' rl (by omega)
    revert this e2
    cases U.rowsF (U.hit l s row col side) (U.rowLen l) back l.length k' with
    | some c => intro e2 this; cases e2; exact this
    | none => intro e2 this; cases e2; exact this
  · rw [U.rowsF_end _ _ _ (by omega)] at e2
    cases e2
    refine .exit ?_
    simp only [b44r0_0, B44r0_0, Tr.val, show ¬ ((k' : Int) < (l.length : Int)) by omega, decide_false, cond_false]
noncomputable abbrev W44 (key : Nat) (y : VS) : Option (Tr (Ex × VS)) := bif Nat.beq key 1 then p44r0_0.ls (fun a => .ite (o44r0_0 a) ((T44r0_0 a).map X44r0_0) .fail) y else none
theorem run44 (l : List Line) (s : ByteArray) (row col side : Int) (back : Bool) (r1 r2 r3 : Int) :
    ((evI 2 (((E44.lend 0).told 0 (V44 W44)).inner (Nat.succ 10) (yldR (evI 2 ((E44.lend 0).told 0 (V44 W44)).round) (unV ((E44.lend 0).live (Nat.add 500 (loopKey (rg Tryd.f44 0).body))) (q44_0.V ((), (l, ()), (s, ()), (row, ()), (col, ()), (r1, ()), (r2, ()), (r3, ()), (side, ()), (l, ()), (back, ()), ()))).t 10)) (bodyOf Tryd.f143) (itSt ((E44.lend 0).told 0 (V44 W44)) (rg Tryd.f44 0).f (unV ((E44.lend 0).live (Nat.add 500 (loopKey (rg Tryd.f44 0).body))) (q44_0.V ((), (l, ()), (s, ()), (row, ()), (col, ()), (r1, ()), (r2, ()), (r3, ()), (side, ()), (l, ()), (back, ()), ()))) Tryd.f143 10 { ps := (rg Tryd.f44 0).ps.toList, asg := (rg Tryd.f44 0).asg, body := (rg Tryd.f44 0).body })).map fun r => (r.1, canV (Nat.succ 10) { ls := [] } r.2))
    = (Tr.ite (o44r0_0 (((l.length : Int), (0 : Int), ()), (l, ()), (s, ()), (row, ()), (col, ()), (r1, ()), (r2, ()), (r3, ()), (side, ()), (l, ()), (back, ()), r44_0, ())) (T44r0_0 (((l.length : Int), (0 : Int), ()), (l, ()), (s, ()), (row, ()), (col, ()), (r1, ()), (r2, ()), (r3, ()), (side, ()), (l, ()), (back, ()), r44_0, ())) .fail).map fun r => match X44r0_0 r with | (.exit _, v) => (.nrm, v) | (e, v) => (e, v) := by
  kernel_rfl
theorem env44 (l : List Line) (s : ByteArray) (row col side : Int) (back : Bool) (r1 r2 r3 : Int) : ((E44.lend 0).told 0 (V44 W44)).inner (Nat.succ (len (unV ((E44.lend 0).live (Nat.add 500 (loopKey (rg Tryd.f44 0).body))) (q44_0.V ((), (l, ()), (s, ()), (row, ()), (col, ()), (r1, ()), (r2, ()), (r3, ()), (side, ()), (l, ()), (back, ()), ()))).h)) (yldR (evI 2 ((E44.lend 0).told 0 (V44 W44)).round) (unV ((E44.lend 0).live (Nat.add 500 (loopKey (rg Tryd.f44 0).body))) (q44_0.V ((), (l, ()), (s, ()), (row, ()), (col, ()), (r1, ()), (r2, ()), (r3, ()), (side, ()), (l, ()), (back, ()), ()))).t (len (unV ((E44.lend 0).live (Nat.add 500 (loopKey (rg Tryd.f44 0).body))) (q44_0.V ((), (l, ()), (s, ()), (row, ()), (col, ()), (r1, ()), (r2, ()), (r3, ()), (side, ()), (l, ()), (back, ()), ()))).h)) = J44 0 W44 ((), (l, ()), (s, ()), (row, ()), (col, ()), (r1, ()), (r2, ()), (r3, ()), (side, ()), (l, ()), (back, ()), ()) := by kernel_rfl
theorem iter44 (l : List Line) (s : ByteArray) (row col side : Int) (back : Bool) (r1 r2 r3 : Int) : IterOK (evI 2) (evI 1) ((E44.lend 0).told 0 (V44 W44)) (rg Tryd.f44 0).f (unV ((E44.lend 0).live (Nat.add 500 (loopKey (rg Tryd.f44 0).body))) (q44_0.V ((), (l, ()), (s, ()), (row, ()), (col, ()), (r1, ()), (r2, ()), (r3, ()), (side, ()), (l, ()), (back, ()), ()))) :=
  iterOK_of (gf := 143) (caps := [8, 9]) (fn := Tryd.f143) (lcs := [lc Tryd.f143 0, lc Tryd.f143 1]) (by kernel_rfl) (by kernel_rfl) rfl (by kernel_rfl) (by kernel_rfl)
    (by rw [env44]; exact ⟨K44r0_0 0 W44 _ fun y => rfl, K44r0_1 0 (V44 W44) _ fun y => rfl⟩)
theorem range44 : RangeOK (evI 2) (E44.lend 0) (rg Tryd.f44 0) := by
  intro x tr rr h1 h2
  have h1 : q44_0.ls T44 x = some tr := h1
  unfold LP.ls at h1
  split at h1
  · rename_i a ha
    cases h1
    rw [LP.get_eq ha]
    clear ha
    obtain ⟨⟨_⟩, ⟨l, z0⟩, ⟨s, z1⟩, ⟨row, z2⟩, ⟨col, z3⟩, ⟨r1, z4⟩, ⟨r2, z5⟩, ⟨r3, z6⟩, ⟨side, z7⟩, ⟨l2, z8⟩, ⟨back, z9⟩, z10⟩ := a
    obtain ⟨g1, g2⟩ := pre_val h2
    rw [Bool.and_eq_true] at g1
    obtain ⟨gk, g3⟩ := g1
    have g3 := eqb_iff g3
    subst g3
    have gk : U.okl l = true := gk
    have hi := congrArg Tr.val (run44 l s row col side back r1 r2 r3)
    have t0 : (Tr.ite (o44r0_0 (((l.length : Int), (0 : Int), ()), (l, ()), (s, ()), (row, ()), (col, ()), (r1, ()), (r2, ()), (r3, ()), (side, ()), (l, ()), (back, ()), r44_0, ())) (T44r0_0 (((l.length : Int), (0 : Int), ()), (l, ()), (s, ()), (row, ()), (col, ()), (r1, ()), (r2, ()), (r3, ()), (side, ()), (l, ()), (back, ()), r44_0, ())) .fail).val =
        some (match U.rowsF (U.hit l s row col side) (U.rowLen l) back l.length 0 with | some p => (.inl (l, s, row, col, (p.1 : Int), (p.2 : Int), (0 : Int), side, l, back, r44_0) : R44T) | none => .inr (l, s, row, col, r1, r2, r3, side, l, back, r44_0)) := by
      simp only [o44r0_0, isRL_self, T44r0_0, Tr.val, gk, eqb_self, Int.toNat_zero, Bool.and_self, cond_true, Int.le_refl, and_self, decide_true]
      cases U.rowsF (U.hit l s row col side) (U.rowLen l) back l.length 0 <;> rfl
    have hi := hi.trans ((Tr.map_val _ _).trans (congrArg (Option.map _) t0))
    clear t0
    refine ⟨0, V44 W44, ?_⟩
    cases hf : U.rowsF (U.hit l s row col side) (U.rowLen l) back l.length 0 with
    | some p =>
      rw [hf] at hi
      have g4 : rr = (.ret, Y44 (p.1 : Int) (p.2 : Int) 0) := by
        have g2 : (Tr.ite (U.rowsF (U.hit l s row col side) (U.rowLen l) back l.length 0).isSome (.ret (.ret, Y44 (((U.rowsF (U.hit l s row col side) (U.rowLen l) back l.length 0).getD (0, 0)).1 : Int) (((U.rowsF (U.hit l s row col side) (U.rowLen l) back l.length 0).getD (0, 0)).2 : Int) 0)) (.ret (.nrm, Y44 r1 r2 r3)) : Tr (Ex × VS)).val = some rr := g2
        rw [hf] at g2; cases g2; rfl
      subst g4
      exact ⟨_, iter44 l s row col side back r1 r2 r3,
        range_run (k0 := 2) (g := 143) (caps := [8, 9]) (fn := Tryd.f143) (c := bodyOf Tryd.f143) (m := 10) (by kernel_rfl) (by kernel_rfl) rfl (by kernel_rfl) (by kernel_rfl) hi (.inr rfl) (pe := some .ret) (rl' := r44_0) rfl rfl, Prod.ext rfl (by kernel_rfl)⟩
    | none =>
      rw [hf] at hi
      have g4 : rr = (.nrm, Y44 r1 r2 r3) := by
        have g2 : (Tr.ite (U.rowsF (U.hit l s row col side) (U.rowLen l) back l.length 0).isSome (.ret (.ret, Y44 (((U.rowsF (U.hit l s row col side) (U.rowLen l) back l.length 0).getD (0, 0)).1 : Int) (((U.rowsF (U.hit l s row col side) (U.rowLen l) back l.length 0).getD (0, 0)).2 : Int) 0)) (.ret (.nrm, Y44 r1 r2 r3)) : Tr (Ex × VS)).val = some rr := g2
        rw [hf] at g2; cases g2; rfl
      subst g4
      exact ⟨_, iter44 l s row col side back r1 r2 r3,
        range_run (k0 := 2) (g := 143) (caps := [8, 9]) (fn := Tryd.f143) (c := bodyOf Tryd.f143) (m := 10) (by kernel_rfl) (by kernel_rfl) rfl (by kernel_rfl) (by kernel_rfl) hi (.inl rfl) (pe := none) (rl' := r44_0) rfl rfl, Prod.ext rfl (by kernel_rfl)⟩
  · cases h1
def d44 (a : List Line) (b : ByteArray) (c : Int) (y : Int) (f : Bool) : Tr (Int × Int × Int) :=
  let v1 : Bool := (U.okl a && Kd.eqb (Kd.sl link) a a)
  let v2 : Nat × Nat := (Option.getD (U.rowsF (U.hit a b c y (1 : Int)) (U.rowLen a) f (List.length a) (0 : Nat)) ((0 : Nat), (0 : Nat)))
  let v3 : Nat × Nat := (Option.getD (U.rowsF (U.hit a b c y (-1 : Int)) (U.rowLen a) f (List.length a) (0 : Nat)) ((0 : Nat), (0 : Nat)))
  Tr.ite (U.okl a && decide (U.cells a ≤ (1048576 : Nat)))
    (Tr.ite (!U.may a) (Tr.ret ((0 : Int), (0 : Int), (1 : Int)))
      (Tr.ite (!U.there a c y) (Tr.ret ((0 : Int), (0 : Int), (1 : Int)))
        (Tr.ite (decide (b = { data := #[] })) (Tr.ret ((0 : Int), (0 : Int), (1 : Int)))
          (Tr.ite (decide ((64 : Int) < (↑(ByteArray.size b) : Int))) (Tr.ret ((0 : Int), (0 : Int), (1 : Int)))
            (Tr.ite f
              (Tr.ite v1
                (Tr.ite (Option.isSome (U.rowsF (U.hit a b c y (-1 : Int)) (U.rowLen a) f (List.length a) (0 : Nat))) (Tr.ret ((↑v3.fst : Int), (↑v3.snd : Int), (0 : Int)))
                  (Tr.ret ((0 : Int), (0 : Int), (5 : Int))))
                Tr.fail)
              (Tr.ite v1
                (Tr.ite (Option.isSome (U.rowsF (U.hit a b c y (1 : Int)) (U.rowLen a) f (List.length a) (0 : Nat))) (Tr.ret ((↑v2.fst : Int), (↑v2.snd : Int), (0 : Int)))
                  (Tr.ret ((0 : Int), (0 : Int), (5 : Int))))
                Tr.fail))))))
    Tr.fail
def e44 (r : Int × Int × Int) : FRes := { rs := Slot.tup [AV.one (Leaf.dat (.int .i64) r.fst), AV.one (Leaf.dat (.int .i64) r.snd.fst), AV.one (Leaf.dat (.int .i64) r.snd.snd)], upd := [], new := [] }
@[reducible] def a44 : List AK := [AK.d (Kd.sl link), AK.d Kd.str, AK.d (.int .i64), AK.d (.int .i64), AK.d Kd.bool]
@[reducible] def b44 : List BK := []
theorem t44 (a : List Line) (b : ByteArray) (c : Int) (y : Int) (f : Bool) : evFn (E44) Tryd.f44 [PM.data (.int .i64), PM.data (.int .i64), PM.data (.int .i64)] (akAV a44 (a, b, c, y, f, ())) (bkBs b44 ()) = (d44 a b c y f).map e44 := by kernel_rfl
def s44 (C : akT a44 → Bool) (G : akT a44 → Int × Int × Int) : FSpec := aspec a44 b44 e44 (fun x _ => C x) (fun x _ => G x)
theorem k44 {C : akT a44 → Bool} {G : akT a44 → Int × Int × Int} (hd : ∀ (a : List Line) (b : ByteArray) (c : Int) (y : Int) (f : Bool), C (a, b, c, y, f, ()) = true → (d44 a b c y f).val = some (G (a, b, c, y, f, ()))) (IO : ItOK Tryd.prog (E44) := by exact itOK_none rfl) (L : ∀ c, Tryd.f44.body = some c → LsOK (evI 2) ((E44).lend 0) c := by exact fun c _ => LsOK_none rfl c) : SpecOK Tryd.prog E0 44 (s44 C G) :=
  aspec_ok (ak := a44) (bl := b44) (e := e44) (c := fun x _ => C x) (g := fun x _ => G x) (E0 := E0) (E := E44) tab AG44 rfl rfl hm Tryd.func44 (by kernel_rfl) [PM.data (.int .i64), PM.data (.int .i64), PM.data (.int .i64)] (fun X Y H => by obtain ⟨a, ⟨b, ⟨c, ⟨y, ⟨f, _⟩⟩⟩⟩⟩ := X; exact val_of (t44 a b c y f) (hd a b c y f H)) IO L
theorem IO44 : ItOK Tryd.prog E44 := itOK_of (l := [(143, Tryd.f143)]) rfl (by
  intro p hp
  rw [List.mem_singleton] at hp
  subst hp
  exact ⟨Tryd.func143, by kernel_rfl⟩)
end Go.Proofs.YtmnbcnhpklejcaaDoor
namespace U
open Go.Proofs.YtmnbcnhpklejcaaDoor
def finds (l : List Ln) (s : ByteArray) (row col : Int) (back : Bool) : Option (Nat × Nat) := rowsF (hit l s row col (bif back then -1 else 1)) (rowLen l) back l.length 0
def findR (l : List Ln) (s : ByteArray) (row col : Int) (back : Bool) : Int × Int × Int :=
  bif !U.may l || (!there l row col || (decide (s = (⟨#[]⟩ : ByteArray)) || decide ((64 : Int) < (s.size : Int)))) then (0, 0, 1) else match finds l s row col back with | some p => ((p.1 : Int), (p.2 : Int), 0) | none => (0, 0, 5)
end U
namespace Go.Proofs.YtmnbcnhpklejcaaDoor
abbrev w44 : FSpec := s44 (fun x => U.okl x.1 && decide (U.cells x.1 ≤ 1048576)) fun x => U.findR x.1 x.2.1 x.2.2.1 x.2.2.2.1 x.2.2.2.2.1
theorem wk44 : SpecOK Tryd.prog E0 44 w44 := by
  refine k44 (fun l s row col back H => ?_) IO44 (L := ls_ok (lcs := []) (rgs := [rg Tryd.f44 0]) (by kernel_rfl) (by kernel_rfl) trivial range44)
  have H : (U.okl l && decide (U.cells l ≤ 1048576)) = true := H
  have gk : U.okl l = true := by rw [Bool.and_eq_true] at H; exact H.1
  have ge : (U.okl l && Kd.eqb (Kd.sl link) l l) = true := by rw [gk, eqb_self]; rfl
  show _ = some (U.findR l s row col back)
  simp only [d44, Tr.val, H, ge, cond_true]
  unfold U.findR U.finds
  cases U.may l
  · rfl
  cases U.there l row col
  · rfl
  by_cases h1 : s = (⟨#[]⟩ : ByteArray)
  · simp only [h1, decide_true, Bool.not_true, Bool.true_or, Bool.or_true, cond_true, cond_false]
  by_cases h2 : (64 : Int) < (s.size : Int)
  · simp only [h1, h2, decide_true, decide_false, Bool.not_true, Bool.false_or, Bool.or_true, cond_true, cond_false]
  simp only [h1, h2, decide_false, Bool.not_true, Bool.false_or, cond_false]
  cases back
  · simp only [cond_false]
    cases U.rowsF (U.hit l s row col 1) (U.rowLen l) false l.length 0 <;> rfl
  · simp only [cond_true]
    cases U.rowsF (U.hit l s row col (-1)) (U.rowLen l) true l.length 0 <;> rfl
def d47 : Tr (Bool) :=
  Tr.ite true (Tr.ite true (Tr.ite true (Tr.ret true) (Tr.ret false)) (Tr.ret false)) Tr.fail
def e47 (r : Bool) : FRes := { rs := Slot.av (AV.one (Leaf.dat Kd.bool r)), upd := [], new := [] }
@[reducible] def a47 : List AK := []
@[reducible] def b47 : List BK := []
theorem t47 : evFn (Env.withFns E0 [((44 : Nat), w44)]) Tryd.f47 [PM.data Kd.bool] (akAV a47 ()) (bkBs b47 ()) = (d47).map e47 := by kernel_rfl
def s47' (G : akT a47 → Bool) : FSpec := aspec0 a47 b47 e47 (fun x _ => G x)
theorem k47' {G : akT a47 → Bool} (hd : (d47).val = some (G ())) (IO : ItOK Tryd.prog (Env.withFns E0 [((44 : Nat), w44)]) := by exact itOK_none rfl) (L : ∀ c, Tryd.f47.body = some c → LsOK (evI 2) ((Env.withFns E0 [((44 : Nat), w44)]).lend 0) c := by exact fun c _ => LsOK_none rfl c) : SpecOK Tryd.prog E0 47 (s47' G) :=
  aspec0_ok (ak := a47) (bl := b47) (e := e47) (g := fun x _ => G x) (E0 := E0) (E := Env.withFns E0 [((44 : Nat), w44)]) tab (.cons wk44 .nil) rfl rfl hm Tryd.func47 (by kernel_rfl) [PM.data Kd.bool] (fun X Y => by exact val_of (t47) (hd)) IO L
abbrev w47 : FSpec := s47' fun _ => true
theorem wk47 : SpecOK Tryd.prog E0 47 w47 := k47' (by kernel_rfl)
end Go.Proofs.YtmnbcnhpklejcaaDoor

end
section
set_option linter.unusedVariables false
set_option linter.unusedSimpArgs false
set_option maxRecDepth 20000
set_option maxHeartbeats 4000000
open Go Go.Ev
namespace U
open Go.Proofs.YtmnbcnhpklejcaaDoor
def places (l : List Ln) : List (Nat × Nat) := (List.range' 0 l.length).flatMap fun i => (List.range' 0 (rowLen l i)).map fun j => (i, j)
theorem mem_places {l : List Ln} {i j : Nat} : (i, j) ∈ places l ↔ i < l.length ∧ j < rowLen l i := by
  unfold places
  simp only [List.mem_flatMap, List.mem_range'_1, List.mem_map, Prod.mk.injEq]
  constructor
  · rintro ⟨a, ha, b, hb, rfl, rfl⟩; omega
  · intro h; exact ⟨i, by omega, j, by omega, rfl, rfl⟩
theorem at_false (n : Nat) : (List.range' 0 n).map (atB false n) = List.range' 0 n := by
  have : atB false n = id := by funext j; rfl
  rw [this, List.map_id]
theorem at_true (n : Nat) : (List.range' 0 n).map (atB true n) = (List.range' 0 n).reverse := by
  rw [List.reverse_range', List.range_eq_range']
  apply List.map_congr_left
  intro x hx
  unfold atB
  simp only [cond_true, Nat.zero_add]
theorem rows_places (P : Nat → Nat → Bool) (l : List Ln) (back : Bool) : rowsF P (rowLen l) back l.length 0 = (bif back then (places l).reverse else places l).find? fun x => P x.1 x.2 := by
  unfold rowsF colF
  simp only [Nat.sub_zero]
  cases back with
  | false =>
    simp only [at_false, cond_false]
    unfold places
    rw [List.find?_flatMap]
    congr 1
    funext r
    rw [List.find?_map]
    rfl
  | true =>
    simp only [at_true, cond_true]
    unfold places
    rw [List.reverse_flatMap, List.find?_flatMap]
    congr 1
    funext r
    rw [Function.comp, ← List.map_reverse, List.find?_map]
    rfl
theorem or_two (a b c d : Int) : (decide (orI [cmpI a c, cmpI b d] = 1) = behind a b c d) ∧ (decide (orI [cmpI a c, cmpI b d] = -1) = behind c d a b) := by
  unfold orI behind
  simp only [orI, cmpI]
  constructor
  · by_cases h1 : a < c <;> by_cases h2 : c < a <;> by_cases h3 : b < d <;> by_cases h4 : d < b <;> simp [h1, h2, h3, h4] <;> omega
  · by_cases h1 : a < c <;> by_cases h2 : c < a <;> by_cases h3 : b < d <;> by_cases h4 : d < b <;> simp [h1, h2, h3, h4] <;> omega
theorem cellR_wide {c : Cl} (h : cellR c = true) : 0 ≤ c.2.1 := by
  unfold cellR at h
  split at h
  · simp only [Bool.and_eq_true] at h
    have := h.2
    unfold inn at this
    simp at this
    omega
  · split at h
    · rename_i h1
      have := h1.2.1
      unfold inn at this
      simp at this
      omega
    · cases h
end U
namespace Go.Proofs.YtmnbcnhpklejcaaDoor
open Go.RowKit
end Go.Proofs.YtmnbcnhpklejcaaDoor
namespace U
open Go.Proofs.YtmnbcnhpklejcaaDoor
theorem mayR_odd (y : Ln) : mayR y = !odd y.1 := by
  unfold mayR odd
  rw [Bool.not_not]
  by_cases h1 : 1 ≤ y.1.length
  · by_cases h2 : y.1.length ≤ 80
    · simp [h1, h2, show ¬ ((y.1.length : Int) < 1) by omega, show ¬ ((80 : Int) < (y.1.length : Int)) by omega]
    · simp [h1, h2, show ¬ ((y.1.length : Int) < 1) by omega, show ((80 : Int) < (y.1.length : Int)) by omega]
  · simp [h1, show ((y.1.length : Int) < 1) by omega]
theorem may_evens (l : List Ln) : mayL l = evens l := by
  unfold mayL evens
  rw [allN_list (q := mayR)]
  induction l with
  | nil => rfl
  | cons y l ih => rw [List.all_cons, List.any_cons, Bool.not_or, ih, mayR_odd]
theorem may_mayL (l : List Ln) : U.may l = (mayL l && decide ((l.length : Int) ≤ 200)) := by
  rw [may_evens]; rfl
theorem mayL_at {l : List Ln} (h : mayL l = true) {i : Nat} (hi : i < l.length) : mayR (l.getD i dL) = true := by
  unfold mayL at h
  exact allN_iff.1 h i (by omega) (by omega)
theorem mayL_wide {l : List Ln} (h : mayL l = true) {i j : Nat} (hi : i < l.length) (hj : j < rowLen l i) : 0 ≤ ((l.getD i dL).1.getD j dC).2.1 := by
  have h1 := mayL_at h hi
  unfold mayR at h1
  simp only [Bool.and_eq_true] at h1
  have h2 := h1.2.2
  unfold fitC at h2
  have h3 := allN_iff.1 h2 j (by omega) (by unfold rowLen at hj; omega)
  rw [Bool.and_eq_true] at h3
  exact cellR_wide h3.1
theorem hit_fwd {l : List Ln} (h : mayL l = true) (s : ByteArray) (row col : Int) {i j : Nat} (hi : i < l.length) (hj : j < rowLen l i) : hit l s row col 1 i j = (stands l s i j && behind (i : Int) (j : Int) row col) := by
  have hw := mayL_wide h hi hj
  unfold hit stands
  rw [(or_two (i : Int) (j : Int) row col).1]
  by_cases h0 : ((l.getD i dL).1.getD j dC).2.1 = 0
  · simp only [h0, Int.lt_irrefl, decide_true, decide_false, Bool.not_true, Bool.false_and, Bool.and_false]
  · simp only [h0, show (0 : Int) < ((l.getD i dL).1.getD j dC).2.1 by omega, decide_true, decide_false, Bool.not_false, Bool.true_and]
    rw [Bool.and_comm]
theorem hit_back {l : List Ln} (h : mayL l = true) (s : ByteArray) (row col : Int) {i j : Nat} (hi : i < l.length) (hj : j < rowLen l i) : hit l s row col (-1) i j = (stands l s i j && behind row col (i : Int) (j : Int)) := by
  have hw := mayL_wide h hi hj
  unfold hit stands
  rw [(or_two (i : Int) (j : Int) row col).2]
  by_cases h0 : ((l.getD i dL).1.getD j dC).2.1 = 0
  · simp only [h0, Int.lt_irrefl, decide_true, decide_false, Bool.not_true, Bool.false_and, Bool.and_false]
  · simp only [h0, show (0 : Int) < ((l.getD i dL).1.getD j dC).2.1 by omega, decide_true, decide_false, Bool.not_false, Bool.true_and]
    rw [Bool.and_comm]
theorem cells_few (l : List Ln) : ∀ n, cells (few l n) ≤ 82 * n := by
  intro n
  unfold few
  induction n generalizing l with
  | zero => simp [cells]
  | succ n ih =>
    cases l with
    | nil => simp [cells]
    | cons y l =>
      have h2 := ih l
      rw [List.take_succ_cons, List.map_cons]
      unfold cells
      have h3 : (cutL y.1).length ≤ 82 := by unfold cutL; rw [List.length_map, List.length_take]; omega
      have h4 : (cutL y.1, y.2.1, ()).1.length ≤ 82 := h3
      omega
end U
namespace Go.Proofs.YtmnbcnhpklejcaaDoor
end Go.Proofs.YtmnbcnhpklejcaaDoor

end
section
set_option linter.unusedVariables false
set_option linter.unusedSimpArgs false
set_option maxRecDepth 20000
set_option maxHeartbeats 4000000
open Go Go.Ev
namespace Go.Proofs.YtmnbcnhpklejcaaDoor
open Go.RowKit
def live8 (key : Nat) : Lv :=
  bif Nat.beq key 25014 then { ls := [9999, 8] } else bif Nat.beq key 45014 then { ls := [8, 121, 122, 123, 124, 125, 126, 127, 128, 129, 130, 131, 132, 133, 134, 135, 136, 137] } else
  bif Nat.beq key 20120 then { ls := [9999, 0, 1, 9, 10, 16, 17, 18] } else bif Nat.beq key 40120 then { ls := [8] } else
  bif Nat.beq key 25012 then { ls := [9999, 0, 1, 9, 10, 16, 17, 18, 120] } else bif Nat.beq key 45012 then { ls := [107, 108, 109, 110, 111, 112, 113, 114, 115, 116, 117, 118, 119, 120] } else
  bif Nat.beq key 20088 then { ls := [9999, 0, 1, 9, 10] } else bif Nat.beq key 40088 then { ls := [8] } else
  bif Nat.beq key 25008 then { ls := [9999, 0, 1, 9, 10, 88] } else bif Nat.beq key 45008 then { ls := [80, 81, 82, 83, 84, 85, 86, 87, 88] } else
  bif Nat.beq key 20070 then { ls := [9999, 0, 1, 2, 3, 9, 10] } else bif Nat.beq key 40070 then { ls := [8] } else
  bif Nat.beq key 25005 then { ls := [9999, 0, 1, 2, 3, 9, 10, 70] } else bif Nat.beq key 45005 then { ls := [46, 47, 48, 49, 50, 51, 52, 53, 54, 55, 56, 57, 58, 59, 60, 61, 62, 63, 64, 65, 66, 67, 68, 69, 70] } else
  bif Nat.beq key 25004 then { ls := [9999, 8] } else bif Nat.beq key 45004 then { ls := [8, 37, 38, 39, 40, 41, 42, 43, 44, 45] } else
  bif Nat.beq key 20036 then { ls := [9999, 0, 1, 2, 3, 9, 10] } else bif Nat.beq key 40036 then { ls := [8, 37, 38, 39, 40, 41, 42, 43, 44, 45] } else
  { ls := [] }
abbrev G8 : List (Nat × FSpec) := [(43, w43), (44, w44), (46, w46), (47, w47), (49, w49), (50, w50)]
theorem AG8 : AllFn Tryd.prog E0 G8 := .cons wk43 (.cons wk44 (.cons wk46 (.cons wk47 (.cons wk49 (.cons wk50 .nil)))))
def d8 (a : List Line) (b : ByteArray) (c : Int) (y : Int) : Tr (Bool) :=
  let v1 : List U.Ln := (U.few a (30 : Nat))
  let v2 : Bool := (U.okl v1)
  let v3 : Int := (minI (↑(ByteArray.size b) : Int) (66 : Int))
  let v4 : Bool := (Kd.eqb (Kd.sl link) v1 v1)
  let v5 : ByteArray := (ByteArray.extract b (0 : Nat) (Int.toNat v3))
  let v6 : Int := (IntKind.wrap IntKind.i64 ((↑(List.length v1) : Int) - (1 : Int)))
  let v7 : Int × Int × Int := (U.findR v1 v5 c y false)
  let v8 : Int := (v7.fst)
  let v9 : Int × Int := (v7.snd)
  let v10 : Int := (v9.snd)
  let v11 : Int := (v9.fst)
  let v12 : Bool := (inB v6 (List.length v1))
  let v13 : Bool := (Kd.eqb Kd.str v5 v5)
  let v14 : Bool := (v2 && decide (U.cells v1 ≤ (1048576 : Nat)))
  let v15 : Int := (IntKind.wrap IntKind.i64 ((↑(List.length (rget link v1 v6).fst) : Int) - (1 : Int)))
  let v16 : Bool := (Kd.eqb (.int .i64) v8 v8)
  let v17 : Bool := (Kd.eqb (.int .i64) v11 v11)
  let v18 : Bool := (U.there v1 v8 v11)
  let v19 : Bool := (!v18)
  let v20 : Int × Int × Int := (U.findR v1 v5 v8 v11 true)
  let v21 : Bool := (!U.stands v1 v5 (Int.toNat v8) (Int.toNat v11))
  let v22 : Int × Int := (v20.snd)
  let v23 : Int := (v22.snd)
  let v24 : Int × Int × Int := (U.findR v1 v5 v6 v15 true)
  let v25 : Int := (v24.fst)
  let v26 : Int × Int := (v24.snd)
  let v27 : Int := (v26.snd)
  let v28 : Int := (v26.fst)
  let v29 : Bool := (decide (v8 = v6))
  let v30 : Bool := (v16 && v17)
  let v31 : Bool := (v4 && (v13 && (Kd.eqb (.int .i64) c c && (Kd.eqb (.int .i64) y y && v30))))
  let v32 : Bool := (decide (v27 = (0 : Int)))
  let v33 : Bool := (!U.behind v8 v11 v25 v28)
  Tr.ite (decide ((0 : Int) ≤ v3 ∧ v3 ≤ (↑(ByteArray.size b) : Int)))
    (Tr.ite v14
      (Tr.ite (!decide (v10 = (0 : Int))) (Tr.ret (bif true then bif decide (v10 = (5 : Int)) then true else decide (v10 = (1 : Int)) else false))
        (Tr.ite ((bif v19 then true else v2 && v18 && ((bif v21 then true else v31) && v31)) && v31)
          (Tr.ite (bif v19 then true else bif v21 then true else bif !U.behind v8 v11 c y then true else false) (Tr.ret false)
            (Tr.ite v14
              (Tr.ite (v4 && (v13 && v30))
                (Tr.ite (bif decide (v23 = (0 : Int)) then U.behind v20.fst v22.fst c y else false) (Tr.ret false)
                  (Tr.ite v12
                    (Tr.ite v14
                      (Tr.ite
                        ((bif v29 then v12 else true) &&
                          (v4 && (v13 && (v16 && (v17 && (Kd.eqb (.int .i64) v25 v25 && (Kd.eqb (.int .i64) v28 v28 && Kd.eqb (.int .i64) v27 v27)))))))
                        (Tr.ite (bif v29 then decide (v11 = v15) else false) (Tr.ret true)
                          (Tr.ite (bif v32 then bif v33 then v2 && U.there v1 v25 v28 else true else true)
                            (Tr.ret (bif v32 then bif v33 then U.stands v1 v5 (Int.toNat v25) (Int.toNat v28) else false else false)) Tr.fail))
                        Tr.fail)
                      Tr.fail)
                    Tr.fail))
                Tr.fail)
              Tr.fail))
          Tr.fail))
      Tr.fail)
    Tr.fail
def e8 (r : Bool) : FRes := { rs := Slot.av (AV.one (Leaf.dat Kd.bool r)), upd := [], new := [] }
@[reducible] def a8 : List AK := [AK.d (Kd.sl link), AK.d Kd.str, AK.d (.int .i64), AK.d (.int .i64)]
@[reducible] def b8 : List BK := []
theorem t8 (a : List Line) (b : ByteArray) (c : Int) (y : Int) : evFn (Env.loops (Env.withFns E0 G8) live8 fun (x : Nat) (x_1 : VS) => none) Tryd.f8 [PM.data Kd.bool] (akAV a8 (a, b, c, y, ())) (bkBs b8 ()) = (d8 a b c y).map e8 := by kernel_rfl
def s8' (G : akT a8 → Bool) : FSpec := aspec0 a8 b8 e8 (fun x _ => G x)
theorem k8' {G : akT a8 → Bool} (hd : ∀ (a : List Line) (b : ByteArray) (c : Int) (y : Int), (d8 a b c y).val = some (G (a, b, c, y, ()))) (IO : ItOK Tryd.prog (Env.loops (Env.withFns E0 G8) live8 fun (x : Nat) (x_1 : VS) => none) := by exact itOK_none rfl) (L : ∀ c, Tryd.f8.body = some c → LsOK (evI 2) ((Env.loops (Env.withFns E0 G8) live8 fun (x : Nat) (x_1 : VS) => none).lend 0) c := by exact fun c _ => LsOK_none rfl c) : SpecOK Tryd.prog E0 8 (s8' G) :=
  aspec0_ok (ak := a8) (bl := b8) (e := e8) (g := fun x _ => G x) (E0 := E0) (E := Env.loops (Env.withFns E0 G8) live8 fun (x : Nat) (x_1 : VS) => none) tab AG8 rfl rfl hm Tryd.func8 (by kernel_rfl) [PM.data Kd.bool] (fun X Y => by obtain ⟨a, ⟨b, ⟨c, ⟨y, _⟩⟩⟩⟩ := X; exact val_of (t8 a b c y) (hd a b c y)) IO L
end Go.Proofs.YtmnbcnhpklejcaaDoor
namespace U
open Go.Proofs.YtmnbcnhpklejcaaDoor
def lt2 (x y : Nat × Nat) : Prop := x.1 < y.1 ∨ x.1 = y.1 ∧ x.2 < y.2
theorem behind_lt (i j a b : Nat) : behind (i : Int) (j : Int) (a : Int) (b : Int) = true ↔ lt2 (a, b) (i, j) := by
  unfold behind lt2
  simp only [Bool.or_eq_true, Bool.and_eq_true, decide_eq_true_eq]
  omega
theorem places_sorted (l : List Ln) : (places l).Pairwise lt2 := by
  unfold places
  rw [List.pairwise_flatMap]
  refine ⟨fun i _ => ?_, ?_⟩
  · rw [List.pairwise_map]
    exact List.Pairwise.imp (fun {a b} h => .inr ⟨rfl, h⟩) List.pairwise_lt_range'
  · refine List.Pairwise.imp (fun {a b} h => ?_) List.pairwise_lt_range'
    intro x hx y hy
    obtain ⟨_, _, rfl⟩ := List.mem_map.1 hx
    obtain ⟨_, _, rfl⟩ := List.mem_map.1 hy
    exact .inl h
theorem lt2_irrefl {x y : Nat × Nat} (h : lt2 x y) (h' : lt2 y x) : False := by
  unfold lt2 at h h'
  omega
theorem first_is {α : Type} {R : α → α → Prop} (hR : ∀ x y, R x y → R y x → False) {l : List α} (hs : l.Pairwise R) {Q : α → Bool} {a : α} (h : l.find? Q = some a) : a ∈ l ∧ Q a = true ∧ ∀ x ∈ l, R x a → Q x = false := by
  obtain ⟨h1, m1, m2, rfl, h2⟩ := List.find?_eq_some_iff_append.1 h
  refine ⟨by simp, h1, fun x hx hxa => ?_⟩
  rcases List.mem_append.1 hx with hx | hx
  · have := h2 x hx
    simpa using this
  · exfalso
    rw [List.pairwise_append] at hs
    rcases List.mem_cons.1 hx with rfl | hx
    · exact hR _ _ hxa hxa
    · exact hR _ _ hxa ((List.pairwise_cons.1 hs.2.1).1 x hx)
theorem first_some {α : Type} {l : List α} {Q : α → Bool} {a : α} (ha : a ∈ l) (hq : Q a = true) : ∃ b, l.find? Q = some b := by
  cases h : l.find? Q with
  | some b => exact ⟨b, rfl⟩
  | none =>
    have := List.find?_eq_none.1 h a ha
    rw [hq] at this
    exact absurd rfl this
theorem finds_fwd {l : List Ln} (h : mayL l = true) {s : ByteArray} {row col : Int} {i j : Nat} (hf : finds l s row col false = some (i, j)) :
    i < l.length ∧ j < rowLen l i ∧ stands l s i j = true ∧ behind (i : Int) (j : Int) row col = true ∧ ∀ a b, a < l.length → b < rowLen l a → lt2 (a, b) (i, j) → stands l s a b = true → behind (a : Int) (b : Int) row col = false := by
  unfold finds at hf
  rw [rows_places] at hf
  obtain ⟨h1, h2, h3⟩ := first_is (R := lt2) (fun x y => lt2_irrefl) (places_sorted l) hf
  obtain ⟨m1, m2⟩ := mem_places.1 h1
  have h2 : hit l s row col 1 i j = true := h2
  rw [hit_fwd h s row col m1 m2, Bool.and_eq_true] at h2
  refine ⟨m1, m2, h2.1, h2.2, fun a b ha hb hlt hs => ?_⟩
  have := h3 (a, b) (mem_places.2 ⟨ha, hb⟩) hlt
  have this : hit l s row col 1 a b = false := this
  rw [hit_fwd h s row col ha hb, hs, Bool.true_and] at this
  exact this
theorem finds_bwd {l : List Ln} (h : mayL l = true) {s : ByteArray} {row col : Int} {i j : Nat} (hf : finds l s row col true = some (i, j)) :
    i < l.length ∧ j < rowLen l i ∧ stands l s i j = true ∧ behind row col (i : Int) (j : Int) = true ∧ ∀ a b, a < l.length → b < rowLen l a → lt2 (i, j) (a, b) → stands l s a b = true → behind row col (a : Int) (b : Int) = false := by
  unfold finds at hf
  rw [rows_places] at hf
  obtain ⟨h1, h2, h3⟩ := first_is (R := fun x y => lt2 y x) (fun x y => lt2_irrefl) (List.pairwise_reverse.2 (places_sorted l)) hf
  obtain ⟨m1, m2⟩ := mem_places.1 (List.mem_reverse.1 h1)
  have h2 : hit l s row col (-1) i j = true := h2
  rw [hit_back h s row col m1 m2, Bool.and_eq_true] at h2
  refine ⟨m1, m2, h2.1, h2.2, fun a b ha hb hlt hs => ?_⟩
  have := h3 (a, b) (List.mem_reverse.2 (mem_places.2 ⟨ha, hb⟩)) hlt
  have this : hit l s row col (-1) a b = false := this
  rw [hit_back h s row col ha hb, hs, Bool.true_and] at this
  exact this
theorem finds_any {l : List Ln} (h : mayL l = true) {s : ByteArray} {row col : Int} {i j : Nat} (hi : i < l.length) (hj : j < rowLen l i) (hs : stands l s i j = true) (hb : behind row col (i : Int) (j : Int) = true) : ∃ p, finds l s row col true = some p := by
  unfold finds
  rw [rows_places]
  exact first_some (a := (i, j)) (List.mem_reverse.2 (mem_places.2 ⟨hi, hj⟩)) (by show hit l s row col (-1) i j = true; rw [hit_back h s row col hi hj, hs, hb]; rfl)
end U
namespace Go.Proofs.YtmnbcnhpklejcaaDoor
theorem law8 (a : List Line) (b : ByteArray) (c y : Int) : (d8 a b c y).val = some true := by
  have k1 := U.few_ok a (n := 30) (by omega)
  have k2 : decide (U.cells (U.few a 30) ≤ 1048576) = true := decide_eq_true (by have := U.cells_few a 30; omega)
  have k3 : decide ((0 : Int) ≤ minI (b.size : Int) (66 : Int) ∧ minI (b.size : Int) (66 : Int) ≤ (b.size : Int)) = true := decide_eq_true (by
    have := minI_nat b.size 66
    rw [show ((66 : Nat) : Int) = 66 from rfl] at this
    rw [this]; omega)
  have k4 := U.few_len a 30
  simp only [d8, Tr.val, k1, k2, k3, eqb_self, Bool.and_self, Bool.cond_self, cond_true]
  generalize ByteArray.extract b 0 (Int.toNat (minI (b.size : Int) 66)) = s
  generalize U.few a 30 = l at *
  have hR : ∀ r q up, U.findR l s r q up = (bif !(U.mayL l && decide ((l.length : Int) ≤ 200)) || (!U.there l r q || (decide (s = (⟨#[]⟩ : ByteArray)) || decide ((64 : Int) < (s.size : Int)))) then ((0, 0, 1) : Int × Int × Int) else match U.finds l s r q up with | some p => ((p.1 : Int), (p.2 : Int), 0) | none => (0, 0, 5)) := fun r q up => by
    unfold U.findR; rw [U.may_mayL]
    try (cases U.finds l s r q up <;> rfl)
  cases hc : (!(U.mayL l && decide ((l.length : Int) ≤ 200)) || (decide (s = (⟨#[]⟩ : ByteArray)) || decide ((64 : Int) < (s.size : Int)))) with
  | true =>
    have : U.findR l s c y false = (0, 0, 1) := by
      rw [hR]
      have hc' : (!(U.mayL l && decide ((l.length : Int) ≤ 200)) || (!U.there l c y || (decide (s = (⟨#[]⟩ : ByteArray)) || decide ((64 : Int) < (s.size : Int))))) = true := by
        revert hc
        generalize (U.mayL l && decide ((l.length : Int) ≤ 200)) = A
        generalize (decide (s = (⟨#[]⟩ : ByteArray)) || decide ((64 : Int) < (s.size : Int))) = B
        cases A <;> cases U.there l c y <;> cases B <;> intro h <;> first | rfl | exact h
      rw [hc']
      rfl
    rw [this]
    simp
  | false =>
    simp only [Bool.or_eq_false_iff, Bool.not_eq_false'] at hc
    obtain ⟨c1, c2, c3⟩ := hc
    have hR : ∀ r q up, U.findR l s r q up = (bif !U.there l r q then ((0, 0, 1) : Int × Int × Int) else match U.finds l s r q up with | some p => ((p.1 : Int), (p.2 : Int), 0) | none => (0, 0, 5)) := fun r q up => by
      rw [hR, c1, c2, c3]; simp
    rw [Bool.and_eq_true] at c1
    obtain ⟨hm, hlen⟩ := c1
    cases ht : U.there l c y with
    | false => rw [hR c y, ht]; simp
    | true =>
    cases hf : U.finds l s c y false with
    | none => rw [hR c y, ht, hf]; simp
    | some p =>
      obtain ⟨i, j⟩ := p
      obtain ⟨f1, f2, f3, f4, f5⟩ := U.finds_fwd hm hf
      have e0 : U.findR l s c y false = ((i : Int), (j : Int), 0) := by rw [hR, ht, hf]; rfl
      have t1 := U.there_of f1 f2
      have e1 : IntKind.wrap IntKind.i64 ((l.length : Int) - 1) = ((l.length - 1 : Nat) : Int) := by rw [Go.Ev.w64 (by omega) (by omega)]; omega
      have hl1 : l.length - 1 < l.length := by omega
      have hr1 : 1 ≤ U.rowLen l (l.length - 1) ∧ U.rowLen l (l.length - 1) ≤ 80 := by
        have := U.mayL_at hm hl1
        unfold U.mayR at this
        simp only [Bool.and_eq_true, Bool.not_eq_true', decide_eq_false_iff_not] at this
        unfold U.rowLen
        omega
      have e2 : rget link l ((l.length - 1 : Nat) : Int) = l.getD (l.length - 1) U.dL := rgetL l _
      have e3 : IntKind.wrap IntKind.i64 (((l.getD (l.length - 1) U.dL).1.length : Int) - 1) = ((U.rowLen l (l.length - 1) - 1 : Nat) : Int) := by
        have : (l.getD (l.length - 1) U.dL).1.length = U.rowLen l (l.length - 1) := rfl
        rw [this, Go.Ev.w64 (by omega) (by omega)]; omega
      have t2 := U.there_of hl1 (m := U.rowLen l (l.length - 1) - 1) (by show _ < U.rowLen l (l.length - 1); omega)
      simp only [e0, e1, e2, e3, t1, f3, f4, Int.toNat_natCast, inB_nat hl1, decide_true, Bool.not_true, Bool.and_self, Bool.and_true, cond_true, cond_false, Bool.cond_self]
      have s1 : (bif decide ((U.findR l s (i : Int) (j : Int) true).2.2 = 0) then U.behind (U.findR l s (i : Int) (j : Int) true).1 (U.findR l s (i : Int) (j : Int) true).2.1 c y else false) = false := by
        rw [hR, t1]
        cases hg : U.finds l s (i : Int) (j : Int) true with
        | none => rfl
        | some q =>
          obtain ⟨i', j'⟩ := q
          obtain ⟨g1, g2, g3, g4, _⟩ := U.finds_bwd hm hg
          have := f5 i' j' g1 g2 ((U.behind_lt i j i' j').1 g4) g3
          simpa using this
      rw [s1]
      simp only [cond_false]
      by_cases hlast : (i, j) = (l.length - 1, U.rowLen l (l.length - 1) - 1)
      · simp only [Prod.mk.injEq] at hlast
        obtain ⟨rfl, rfl⟩ := hlast
        simp
      · have hb : U.behind ((l.length - 1 : Nat) : Int) ((U.rowLen l (l.length - 1) - 1 : Nat) : Int) (i : Int) (j : Int) = true := by
          rw [U.behind_lt]
          unfold U.lt2
          simp only [Prod.mk.injEq, not_and] at hlast
          by_cases hi : i = l.length - 1
          · have h6 := hlast hi
            subst hi
            have h7 : j ≤ U.rowLen l (l.length - 1) - 1 := by omega
            exact .inr ⟨rfl, by show j < _; omega⟩
          · exact .inl (by show i < l.length - 1; omega)
        obtain ⟨⟨p, q⟩, hp⟩ := U.finds_any hm f1 f2 f3 hb
        obtain ⟨g1, g2, g3, g4, g5⟩ := U.finds_bwd hm hp
        have e4 : U.findR l s ((l.length - 1 : Nat) : Int) ((U.rowLen l (l.length - 1) - 1 : Nat) : Int) true = ((p : Int), (q : Int), 0) := by rw [hR, t2, hp]; rfl
        have nb : U.behind (i : Int) (j : Int) (p : Int) (q : Int) = false := by
          rw [← Bool.not_eq_true, U.behind_lt]
          intro h
          have := g5 i j f1 f2 h f3
          rw [hb] at this
          cases this
        have nl : (bif decide ((i : Int) = ((l.length - 1 : Nat) : Int)) then decide ((j : Int) = ((U.rowLen l (l.length - 1) - 1 : Nat) : Int)) else false) = false := by
          simp only [Prod.mk.injEq, not_and] at hlast
          by_cases hi : i = l.length - 1
          · have := hlast hi
            subst hi
            have : ¬ ((j : Int) = ((U.rowLen l (l.length - 1) - 1 : Nat) : Int)) := by omega
            simp only [this, decide_false, Bool.cond_self]
          · have : ¬ ((i : Int) = ((l.length - 1 : Nat) : Int)) := by omega
            simp only [this, decide_false, cond_false]
        have t3 := U.there_of g1 g2
        simp only [nl, e4, nb, t3, g3, Int.toNat_natCast, decide_true, Bool.not_false, cond_true, cond_false]
        rfl
abbrev w8 : FSpec := s8' fun _ => true
theorem wk8 : SpecOK Tryd.prog E0 8 w8 := k8' fun a b c y => law8 a b c y
end Go.Proofs.YtmnbcnhpklejcaaDoor

end
