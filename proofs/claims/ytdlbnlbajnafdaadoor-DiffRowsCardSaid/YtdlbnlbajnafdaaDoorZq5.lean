/- Part 5 of what the proof leans on: an evaluator of Go code over plain data, with its soundness; contracts of functions; laws of plain data. -/
import Derived.Test.YtdlbnlbajnafdaaDoorZq4
section
set_option linter.unusedVariables false
set_option linter.unusedSimpArgs false
set_option maxRecDepth 20000
set_option maxHeartbeats 4000000
open Go Go.Ev
namespace U
def blkN (l : List Cl) (i : Nat) : Nat := bif isB (l.getD i dC) then alike (l.getD i dC) (l.drop (i + 1)) + 1 else 0
end U
namespace Go.Proofs.YtdlbnlbajnafdaaDoor
open Go.RowKit
def live49 (key : Nat) : Lv :=
  bif Nat.beq key 2 then { ls := [0, 1, 5] } else bif Nat.beq key 1002 then { ls := [5] } else
  { ls := [] }
abbrev M49 (ls : Nat → VS → Option (Tr (Ex × VS))) : Env := (E0.withFns []).loops live49 ls
@[reducible] def p49_0 : LP := { n := 48, sl := [.d (Kd.sl celk), .d (.int .i64), .d (.int .i64)], bl := [] }
def B49_0 (x0 : List Cell) (x1 : Int) (x2 : Int) : Tr (p49_0.T ⊕ (Int)) :=
 let v1 : Int := ((↑(List.length x0) : Int))
 let v2 : Int := (IntKind.wrap IntKind.i64 (x1 + x2))
 let v3 : Bool := (inB v2 (List.length x0))
 Tr.ite (decide (v2 < v1)) (Tr.ite v3 (Tr.ite (decide ((rget celk x0 v2).fst = { data := #[] })) (Tr.ite v3 (Tr.ite (decide ((rget celk x0 v2).snd.fst = (1 : Int))) (Tr.ite v3 (Tr.ite (inB x1 (List.length x0)) (Tr.ite (decide ((rget celk x0 v2).fst = (rget celk x0 x1).fst) && (decide ((rget celk x0 v2).snd.fst = (rget celk x0 x1).snd.fst) && (decide ((rget celk x0 v2).snd.snd.fst.fst = (rget celk x0 x1).snd.snd.fst.fst) && (decide ((rget celk x0 v2).snd.snd.fst.snd.fst = (rget celk x0 x1).snd.snd.fst.snd.fst) && decide ((rget celk x0 v2).snd.snd.fst.snd.snd.fst = (rget celk x0 x1).snd.snd.fst.snd.snd.fst))))) (Tr.ret (Sum.inl ((x0, x1, IntKind.wrap IntKind.i64 (x2 + (1 : Int)), ()), ()))) (Tr.ret (Sum.inr x2))) Tr.fail) Tr.fail) (Tr.ret (Sum.inr x2))) Tr.fail) (Tr.ret (Sum.inr x2))) Tr.fail) (Tr.ret (Sum.inr x2))
def X49_0 (r : (Int)) : Ex × VS := Prod.mk (Ex.exit ( 0)) { n := 48, v := [Slot.av (AV.one (Leaf.dat (.int .i64) r))], h := [] }
def b49_0 : p49_0.T → Tr (p49_0.T ⊕ (Int)) := fun ⟨⟨x0, ⟨x1, ⟨x2, _⟩⟩⟩, _⟩ => B49_0 x0 x1 x2
theorem h49_0 (ls : Nat → VS → Option (Tr (Ex × VS))) (x : p49_0.T) : (evC (evI 2) (lc Tryd.f49 0) (Env.lend (M49 ls) 0) (unV (live49 2) (p49_0.V x))).map (decL 0 (live49 2) (live49 1002)) = (b49_0 x).map (encR p49_0.V X49_0) := by
  obtain ⟨⟨x0, ⟨x1, ⟨x2, _⟩⟩⟩, _⟩ := x; kernel_rfl
theorem c49_0 (x : p49_0.T) : canV 0 (live49 2) (unV (live49 2) (p49_0.V x)) = p49_0.V x := by
  obtain ⟨⟨x0, ⟨x1, ⟨x2, _⟩⟩⟩, _⟩ := x; kernel_rfl
theorem l49_0 {T : p49_0.T → Tr (Int)} {ls : Nat → VS → Option (Tr (Ex × VS))} (hls : ∀ x, (Env.lend (M49 ls) 0).ls 2 x = p49_0.ls (fun a => (T a).map X49_0) x) (hS : ∀ x r, (T x).val = some r → Rounds b49_0 x r) : LoopOK (evI 2) (Env.lend (M49 ls) 0) (lc Tryd.f49 0) :=
  loopA 2 (live49 2) (live49 1002) p49_0 b49_0 X49_0 T (by kernel_rfl) rfl rfl hls (h49_0 ls) c49_0 hS
def T49 (x : p49_0.T) : Tr Int :=
  match x with
  | ⟨⟨l, i, n, _⟩, _⟩ => .ite (decide (0 ≤ (i : Int) ∧ (i : Int) < (List.length (α := Cell) l : Int) ∧ (n : Int) = 0 ∧ List.length (α := Cell) l ≤ 1048576)) (.ret (U.blkN l (Int.toNat i) : Int)) .fail
abbrev E49 : Env := M49 fun key x => bif Nat.beq key 2 then p49_0.ls (fun a => (T49 a).map X49_0) x else none
theorem eqC_self (c : Cell) : U.eqC c c = true := U.eqC_iff.2 rfl
theorem R49 (l : List Cell) (hl : l.length ≤ 1048576) (i : Nat) (hi : i < l.length) (hb : U.isB (l.getD i U.dC) = true) : ∀ (k n : Nat), i + n + k = l.length →
    Rounds b49_0 ((l, (i : Int), (n : Int), ()), ()) (((n + U.alike (l.getD i U.dC) (l.drop (i + n)) : Nat) : Int))
  | 0, n, e => by
    rw [show i + n = l.length by omega, List.drop_length]
    refine .exit ?_
    have w : IntKind.wrap IntKind.i64 ((i : Int) + (n : Int)) = (l.length : Int) := by rw [Go.Ev.w64 (by omega) (by omega)]; omega
    simp only [b49_0, B49_0, Tr.val, w, show ¬ ((l.length : Int) < (l.length : Int)) by omega, decide_false, cond_false]
    rfl
  | k + 1, n, e => by
    have hj : i + n < l.length := by omega
    have w : IntKind.wrap IntKind.i64 ((i : Int) + (n : Int)) = ((i + n : Nat) : Int) := by rw [Go.Ev.w64 (by omega) (by omega)]; omega
    have w2 : IntKind.wrap IntKind.i64 ((n : Int) + 1) = ((n + 1 : Nat) : Int) := wrap64_nat (by omega)
    rw [U.alike_step _ hj]
    have hv : (b49_0 ((l, (i : Int), (n : Int), ()), ())).val =
        bif U.isB (l.getD (i + n) U.dC) && U.eqC (l.getD (i + n) U.dC) (l.getD i U.dC) then some (.inl ((l, (i : Int), ((n + 1 : Nat) : Int), ()), ())) else some (.inr (n : Int)) := by
      unfold U.isB
      simp only [b49_0, B49_0, Tr.val, inB_nat hi, inB_nat hj, rgetC, w, w2, show (((i + n : Nat) : Int) < (l.length : Int)) by omega, decide_true, cond_true]
      cases decide ((l.getD (i + n) U.dC).1 = (⟨#[]⟩ : ByteArray)) <;> cases decide ((l.getD (i + n) U.dC).2.1 = 1) <;> simp only [Bool.and_self, Bool.and_true, Bool.and_false, Bool.false_and, Bool.true_and, cond_true, cond_false] <;> rfl
    cases he : U.eqC (l.getD (i + n) U.dC) (l.getD i U.dC) with
    | true =>
      rw [he, U.eqC_iff.1 he, hb] at hv
      have ih := R49 l hl i hi hb k (n + 1) (by omega)
      rw [show i + (n + 1) = i + n + 1 by omega, show n + 1 + U.alike (l.getD i U.dC) (l.drop (i + n + 1)) = n + (U.alike (l.getD i U.dC) (l.drop (i + n + 1)) + 1) by omega] at ih
      exact .step hv ih
    | false =>
      rw [he, Bool.and_false] at hv
      exact .exit hv
theorem L49 : LoopOK (evI 2) (E49.lend 0) (lc Tryd.f49 0) := by
  refine l49_0 (T := T49) (fun x => rfl) ?_
  rintro ⟨⟨l, i, n, z⟩, z2⟩ r h
  obtain ⟨g1, g2⟩ := pre_val h
  have g1 : 0 ≤ (i : Int) ∧ (i : Int) < (l.length : Int) ∧ (n : Int) = 0 ∧ l.length ≤ 1048576 := of_decide_eq_true g1
  obtain ⟨h1, h2, h3, h4⟩ := g1
  obtain ⟨i', rfl⟩ := Int.eq_ofNat_of_zero_le h1
  have h2 : i' < l.length := Int.ofNat_lt.1 h2
  subst h3
  cases g2
  show Rounds b49_0 _ ((U.blkN l i' : Nat) : Int)
  cases hb : U.isB (l.getD i' U.dC) with
  | true =>
    have := R49 l h4 i' h2 hb (l.length - i') 0 (by omega)
    rw [Nat.add_zero, Nat.zero_add, U.alike_step _ h2, eqC_self, cond_true] at this
    have e : U.blkN l i' = U.alike (l.getD i' U.dC) (l.drop (i' + 1)) + 1 := by unfold U.blkN; rw [hb, cond_true]
    rw [e]
    exact this
  | false =>
    have e : U.blkN l i' = 0 := by unfold U.blkN; rw [hb, cond_false]
    rw [e]
    refine .exit ?_
    have w : IntKind.wrap IntKind.i64 ((i' : Int) + 0) = (i' : Int) := by rw [Int.add_zero]; exact Go.Ev.w64 (by omega) (by omega)
    unfold U.isB at hb
    simp only [b49_0, B49_0, Tr.val, inB_nat h2, rgetC, w, show ((i' : Int) < (l.length : Int)) by omega, decide_true, cond_true]
    cases h7 : decide ((l.getD i' U.dC).1 = (⟨#[]⟩ : ByteArray)) <;> cases h8 : decide ((l.getD i' U.dC).2.1 = 1) <;> rw [h7, h8] at hb <;> first | rfl | cases hb
def d49 (xa : List Cell) (xb : Int) : Tr (Int) :=
 let v1 : Int := ((↑(List.length xa) : Int))
 Tr.ite (decide ((0 : Int) ≤ xb ∧ xb < v1 ∧ (0 : Int) = (0 : Int) ∧ List.length xa ≤ (1048576 : Nat))) (Tr.ret (↑(U.blkN xa (Int.toNat xb)) : Int)) Tr.fail
def e49 (r : Int) : FRes := { rs := Slot.av (AV.one (Leaf.dat (.int .i64) r)), upd := [], new := [] }
@[reducible] def a49 : List AK := [AK.d (Kd.sl celk), AK.d (.int .i64)]
@[reducible] def b49 : List BK := []
theorem t49 (xa : List Cell) (xb : Int) : evFn (E49) Tryd.f49 [PM.data (.int .i64)] (akAV a49 (xa, xb, ())) (bkBs b49 ()) = (d49 xa xb).map e49 := by kernel_rfl
def s49 (C : akT a49 → Bool) (G : akT a49 → Int) : FSpec := aspec a49 b49 e49 (fun x _ => C x) (fun x _ => G x)
theorem k49 {C : akT a49 → Bool} {G : akT a49 → Int} (hd : ∀ (xa : List Cell) (xb : Int), C (xa, xb, ()) = true → (d49 xa xb).val = some (G (xa, xb, ()))) (IO : ItOK Tryd.prog (E49) := by exact itOK_none rfl) (L : ∀ c, Tryd.f49.body = some c → LsOK (evI 2) ((E49).lend 0) c := by exact fun c _ => LsOK_none rfl c) : SpecOK Tryd.prog E0 49 (s49 C G) :=
  aspec_ok (ak := a49) (bl := b49) (e := e49) (c := fun x _ => C x) (g := fun x _ => G x) (E0 := E0) (E := E49) tab .nil rfl rfl hm Tryd.func49 (by kernel_rfl) [PM.data (.int .i64)] (fun X Y H => by obtain ⟨xa, ⟨xb, _⟩⟩ := X; exact val_of (t49 xa xb) (hd xa xb H)) IO L
abbrev w49 : FSpec := s49 (fun x => decide (0 ≤ (x.2.1 : Int) ∧ (x.2.1 : Int) < (List.length (α := Cell) x.1 : Int) ∧ List.length (α := Cell) x.1 ≤ 1048576)) fun x => (U.blkN x.1 (Int.toNat x.2.1) : Int)
theorem wk49 : SpecOK Tryd.prog E0 49 w49 := by
  refine k49 (fun l i H => ?_) (L := ls_ok (lcs := [lc Tryd.f49 0]) (rgs := []) (by kernel_rfl) (by kernel_rfl) L49 trivial)
  have H : 0 ≤ (i : Int) ∧ (i : Int) < (l.length : Int) ∧ l.length ≤ 1048576 := of_decide_eq_true H
  show _ = some (U.blkN l (Int.toNat i) : Int)
  simp only [d49, Tr.val, H, and_self, decide_true, cond_true]
abbrev G16 : List (Nat × FSpec) := [(49, w49), (50, w50), (51, itoaS)]
theorem AG16 : AllFn Tryd.prog E0 G16 := .cons wk49 (.cons wk50 (.cons wk51 .nil))
def live16 (key : Nat) : Lv :=
  bif Nat.beq key 4 then { ls := [1, 3, 4, 5] } else bif Nat.beq key 1004 then { ls := [3] } else
  { ls := [] }
abbrev M16 (ls : Nat → VS → Option (Tr (Ex × VS))) : Env := (E0.withFns G16).loops live16 ls
@[reducible] def p16_0 : LP := { n := 78, sl := [.c (Leaf.ptr ( 0) ( 0)), .d (Kd.str), .c (Leaf.ptr ( 1) ( 0)), .d (.int .i64)], bl := [(0, .box [.d (Kd.sl celk), .d (Kd.bool)]), (1, .box [.d (.int .i64), .d (.int .i64), .d (.int .i64)])] }
def B16_0 (x1 : ByteArray) (x3 : Int) (h0_0 : List Cell) (h0_1 : Bool) (h1_0 : Int) (h1_1 : Int) (h1_2 : Int) : Tr (p16_0.T ⊕ (ByteArray)) :=
 let v1 : Int := ((↑(List.length h0_0) : Int))
 let v2 : Int := ((↑(List.length h0_0) : Int))
 let v3 : Int := ((↑(U.blkN h0_0 (Int.toNat x3)) : Int))
 let v4 : ByteArray := (itoaB v3)
 let v5 : Int := (IntKind.wrap IntKind.i64 (x3 + v3))
 let v6 : Bool := (U.look (rget celk h0_0 x3).snd.snd.fst)
 let v7 : ByteArray := (U.askS (rget celk h0_0 x3).snd.snd.fst)
 let v8 : ByteArray := (x1 ++ v7)
 let v9 : ByteArray := (v8 ++ { data := #[OfNat.ofNat (27 : Nat), OfNat.ofNat (91 : Nat)] })
 let v10 : Bool := (decide (ByteArray.size x1 + ByteArray.size v7 ≤ (9223372036854775807 : Nat)))
 let v11 : ByteArray := (v9 ++ v4)
 let v12 : Bool := (decide ((-9223372036854775808 : Int) ≤ v3 ∧ v3 ≤ (9223372036854775807 : Int)))
 let v13 : ByteArray := (v11 ++ { data := #[OfNat.ofNat (88 : Nat)] })
 let v14 : ByteArray := (v13 ++ { data := #[OfNat.ofNat (27 : Nat), OfNat.ofNat (91 : Nat)] })
 let v15 : ByteArray := (v14 ++ v4)
 Tr.ite (decide (x3 < v2)) (Tr.ite (inB x3 (List.length h0_0)) (Tr.ite (decide ((0 : Int) ≤ x3 ∧ x3 < v1 ∧ List.length h0_0 ≤ (1048576 : Nat))) (Tr.ite (decide ((0 : Int) < v3)) (Tr.ite v6 (Tr.ite v10 (Tr.ite (decide (ByteArray.size v8 + (2 : Nat) ≤ (9223372036854775807 : Nat))) (Tr.ite v12 (Tr.ite (decide (ByteArray.size v9 + ByteArray.size v4 ≤ (9223372036854775807 : Nat))) (Tr.ite (decide (ByteArray.size v11 + (1 : Nat) ≤ (9223372036854775807 : Nat))) (Tr.ite (decide (v5 < v2)) (Tr.ite (decide (ByteArray.size v13 + (2 : Nat) ≤ (9223372036854775807 : Nat))) (Tr.ite v12 (Tr.ite (decide (ByteArray.size v14 + ByteArray.size v4 ≤ (9223372036854775807 : Nat))) (Tr.ite (decide (ByteArray.size v15 + (1 : Nat) ≤ (9223372036854775807 : Nat))) (Tr.ret (Sum.inl ((v15 ++ { data := #[OfNat.ofNat (67 : Nat)] }, v5, ()), (h0_0, h0_1, ()), ((rget celk h0_0 x3).snd.snd.fst.fst, (rget celk h0_0 x3).snd.snd.fst.snd.fst, (rget celk h0_0 x3).snd.snd.fst.snd.snd.fst, ()), ()))) Tr.fail) Tr.fail) Tr.fail) Tr.fail) (Tr.ret (Sum.inl ((v13, v5, ()), (h0_0, h0_1, ()), ((rget celk h0_0 x3).snd.snd.fst.fst, (rget celk h0_0 x3).snd.snd.fst.snd.fst, (rget celk h0_0 x3).snd.snd.fst.snd.snd.fst, ()), ())))) Tr.fail) Tr.fail) Tr.fail) Tr.fail) Tr.fail) Tr.fail) (Tr.ite (decide ((0 : Int) < (rget celk h0_0 x3).snd.fst)) (Tr.ite (decide (x3 = (0 : Int))) (Tr.ite v6 (Tr.ite v10 (Tr.ite (decide (ByteArray.size v8 + ByteArray.size (rget celk h0_0 x3).fst ≤ (9223372036854775807 : Nat))) (Tr.ret (Sum.inl ((v8 ++ (rget celk h0_0 x3).fst, IntKind.wrap IntKind.i64 (x3 + (1 : Int)), ()), (h0_0, h0_1, ()), ((rget celk h0_0 x3).snd.snd.fst.fst, (rget celk h0_0 x3).snd.snd.fst.snd.fst, (rget celk h0_0 x3).snd.snd.fst.snd.snd.fst, ()), ()))) Tr.fail) Tr.fail) Tr.fail) (Tr.ite (!(decide ((rget celk h0_0 x3).snd.snd.fst.fst = h1_0) && (decide ((rget celk h0_0 x3).snd.snd.fst.snd.fst = h1_1) && decide ((rget celk h0_0 x3).snd.snd.fst.snd.snd.fst = h1_2)))) (Tr.ite v6 (Tr.ite v10 (Tr.ite (decide (ByteArray.size v8 + ByteArray.size (rget celk h0_0 x3).fst ≤ (9223372036854775807 : Nat))) (Tr.ret (Sum.inl ((v8 ++ (rget celk h0_0 x3).fst, IntKind.wrap IntKind.i64 (x3 + (1 : Int)), ()), (h0_0, h0_1, ()), ((rget celk h0_0 x3).snd.snd.fst.fst, (rget celk h0_0 x3).snd.snd.fst.snd.fst, (rget celk h0_0 x3).snd.snd.fst.snd.snd.fst, ()), ()))) Tr.fail) Tr.fail) Tr.fail) (Tr.ite (decide (ByteArray.size x1 + ByteArray.size (rget celk h0_0 x3).fst ≤ (9223372036854775807 : Nat))) (Tr.ret (Sum.inl ((x1 ++ (rget celk h0_0 x3).fst, IntKind.wrap IntKind.i64 (x3 + (1 : Int)), ()), (h0_0, h0_1, ()), ((rget celk h0_0 x3).snd.snd.fst.fst, (rget celk h0_0 x3).snd.snd.fst.snd.fst, (rget celk h0_0 x3).snd.snd.fst.snd.snd.fst, ()), ()))) Tr.fail))) (Tr.ret (Sum.inl ((x1, IntKind.wrap IntKind.i64 (x3 + (1 : Int)), ()), (h0_0, h0_1, ()), (h1_0, h1_1, h1_2, ()), ()))))) Tr.fail) Tr.fail) (Tr.ret (Sum.inr x1))
def X16_0 (r : (ByteArray)) : Ex × VS := Prod.mk (Ex.exit ( 0)) { n := 78, v := [Slot.av (AV.one (Leaf.dat Kd.str r))], h := [] }
def b16_0 : p16_0.T → Tr (p16_0.T ⊕ (ByteArray)) := fun ⟨⟨x1, ⟨x3, _⟩⟩, ⟨⟨h0_0, ⟨h0_1, _⟩⟩, ⟨⟨h1_0, ⟨h1_1, ⟨h1_2, _⟩⟩⟩, _⟩⟩⟩ => B16_0 x1 x3 h0_0 h0_1 h1_0 h1_1 h1_2
theorem h16_0 (ls : Nat → VS → Option (Tr (Ex × VS))) (x : p16_0.T) : (evC (evI 2) (lc Tryd.f16 0) (Env.lend (M16 ls) 0) (unV (live16 4) (p16_0.V x))).map (decL 0 (live16 4) (live16 1004)) = (b16_0 x).map (encR p16_0.V X16_0) := by
  obtain ⟨⟨x1, ⟨x3, _⟩⟩, ⟨⟨h0_0, ⟨h0_1, _⟩⟩, ⟨⟨h1_0, ⟨h1_1, ⟨h1_2, _⟩⟩⟩, _⟩⟩⟩ := x; kernel_rfl
theorem c16_0 (x : p16_0.T) : canV 0 (live16 4) (unV (live16 4) (p16_0.V x)) = p16_0.V x := by
  obtain ⟨⟨x1, ⟨x3, _⟩⟩, ⟨⟨h0_0, ⟨h0_1, _⟩⟩, ⟨⟨h1_0, ⟨h1_1, ⟨h1_2, _⟩⟩⟩, _⟩⟩⟩ := x; kernel_rfl
theorem l16_0 {T : p16_0.T → Tr (ByteArray)} {ls : Nat → VS → Option (Tr (Ex × VS))} (hls : ∀ x, (Env.lend (M16 ls) 0).ls 4 x = p16_0.ls (fun a => (T a).map X16_0) x) (hS : ∀ x r, (T x).val = some r → Rounds b16_0 x r) : LoopOK (evI 2) (Env.lend (M16 ls) 0) (lc Tryd.f16 0) :=
  loopA 4 (live16 4) (live16 1004) p16_0 b16_0 X16_0 T (by kernel_rfl) rfl rfl hls (h16_0 ls) c16_0 hS
end Go.Proofs.YtdlbnlbajnafdaaDoor
namespace U
theorem seq_one (e : ByteArray) (n : Int) : seqS e [n] = escS ++ itoaB n ++ e := by
  unfold seqS
  rw [List.map_cons, List.map_nil, join_one]
theorem blkN_run {l : List Cl} {i : Nat} (h : isB (l.getD i dC) = true) : blkN l i = runN l i := by unfold blkN runN; rw [h]; rfl
end U
namespace Go.Proofs.YtdlbnlbajnafdaaDoor
def T16 (x : p16_0.T) : Tr ByteArray :=
  match x with
  | ⟨⟨out, i, _⟩, ⟨⟨l, s, _⟩, ⟨a, b, c, _⟩, _⟩⟩ => .ite (decide ((i : Int) = 0 ∧ ByteArray.size out = 0) && U.okW l) (.ret (strOf (U.rowB (List.length (α := Cell) l) true (a, b, c, ()) l))) .fail
abbrev E16 : Env := M16 fun key x => bif Nat.beq key 4 then p16_0.ls (fun a => (T16 a).map X16_0) x else none
theorem R16 (l : List Cell) (s : Bool) (ok : U.okW l = true) : ∀ (k i : Nat) (a b c : Int) (out : ByteArray), i ≤ l.length → l.length ≤ i + k → out.size + k * 1100000 ≤ 140737488355328 →
    Rounds b16_0 ((out, (i : Int), ()), (l, s, ()), (a, b, c, ()), ()) (out ++ strOf (U.rowB k (decide (i = 0)) (a, b, c, ()) (l.drop i)))
  | k, i, a, b, c, out, h1, h2, h3 => by
    have hl := U.okW_len ok
    by_cases hi : i < l.length
    · obtain ⟨k, rfl⟩ : ∃ k', k = k' + 1 := ⟨k - 1, by omega⟩
      obtain ⟨hm1, hm2⟩ := U.runN_le hi
      obtain ⟨ht, hk⟩ := U.okW_at ok hi
      have hd : l.drop i = l[i] :: l.drop (i + 1) := List.drop_eq_getElem_cons hi
      have ha := U.askS_size hk
      have lt : decide ((i : Int) < (l.length : Int)) = true := decide_eq_true (by omega)
      have hg : rget celk l (i : Int) = l[i] := by rw [rgetC]; exact getD_el hi
      have w1 : IntKind.wrap IntKind.i64 ((i : Int) + 1) = ((i + 1 : Nat) : Int) := wrap64_nat (by omega)
      rw [hd]
      generalize hx : l[i] = x at hg ht hk ha
      obtain ⟨xt, xw, ⟨x1, x2, x3, z1⟩, z2⟩ := x
      have ha : (U.askS (x1, x2, x3, z1)).size ≤ 10003 := ha
      have hk : U.look (x1, x2, x3, z1) = true := hk
      have ht : xt.size ≤ 1048576 := ht
      have hq : l.getD i U.dC = (xt, xw, (x1, x2, x3, z1), z2) := by rw [getD_el hi]; exact hx
      have h0 : out.size ≤ 140737488355328 := Nat.le_trans (Nat.le_add_right _ _) h3
      cases hb : U.isB (xt, xw, (x1, x2, x3, z1), z2) with
      | true =>
        have hbr : U.blkN l i = U.runN l i := U.blkN_run (by rw [hq]; exact hb)
        have hr : U.runN l i = U.alike (xt, xw, (x1, x2, x3, z1), z2) (l.drop (i + 1)) + 1 := by unfold U.runN; rw [hq, hb, cond_true]
        have hdd : l.drop (i + U.runN l i) = (l.drop (i + 1)).drop (U.alike (xt, xw, (x1, x2, x3, z1), z2) (l.drop (i + 1))) := by rw [List.drop_drop, hr]; exact congrArg (fun n => l.drop n) (by omega)
        rw [U.rowB_run hb, ← hdd, ← hr]
        have ih := fun (bs' : ByteArray) (hb : bs'.size + k * 1100000 ≤ 140737488355328) => R16 l s ok k (i + U.runN l i) x1 x2 x3 bs' hm2 (by omega) hb
        have hn0 : decide (i + U.runN l i = 0) = false := decide_eq_false (by omega)
        have hlt : decide (U.alike (xt, xw, (x1, x2, x3, z1), z2) (l.drop (i + 1)) < (l.drop (i + 1)).length) = decide (((i + U.runN l i : Nat) : Int) < (l.length : Int)) := by
          rw [List.length_drop]
          exact decide_eq_decide.2 (by omega)
        rw [hlt]
        rw [← hbr] at hm1 hm2 ih hn0 ⊢
        have w4 : IntKind.wrap IntKind.i64 ((i : Int) + ((U.blkN l i : Nat) : Int)) = ((i + U.blkN l i : Nat) : Int) := by rw [Go.Ev.w64 (by omega) (by omega)]; omega
        have i9 : (itoaB ((U.blkN l i : Nat) : Int)).size ≤ 9 := U.itoa_size (by omega) (by omega)
        have z2 : ({ data := #[27, 91] } : ByteArray).size = 2 := rfl
        have z8 : ({ data := #[88] } : ByteArray).size = 1 := rfl
        have z7 : ({ data := #[67] } : ByteArray).size = 1 := rfl
        have r1 : (out ++ (U.askS (x1, x2, x3, z1))).size ≤ out.size + 10003 := by rw [ByteArray.size_append]; omega
        have r2 : ((out ++ (U.askS (x1, x2, x3, z1))) ++ ({ data := #[27, 91] } : ByteArray)).size ≤ out.size + 10005 := by rw [ByteArray.size_append]; omega
        have r3 : (((out ++ (U.askS (x1, x2, x3, z1))) ++ ({ data := #[27, 91] } : ByteArray)) ++ (itoaB ((U.blkN l i : Nat) : Int))).size ≤ out.size + 10014 := by rw [ByteArray.size_append]; omega
        have r4 : ((((out ++ (U.askS (x1, x2, x3, z1))) ++ ({ data := #[27, 91] } : ByteArray)) ++ (itoaB ((U.blkN l i : Nat) : Int))) ++ ({ data := #[88] } : ByteArray)).size ≤ out.size + 10015 := by rw [ByteArray.size_append]; omega
        have r5 : (((((out ++ (U.askS (x1, x2, x3, z1))) ++ ({ data := #[27, 91] } : ByteArray)) ++ (itoaB ((U.blkN l i : Nat) : Int))) ++ ({ data := #[88] } : ByteArray)) ++ ({ data := #[27, 91] } : ByteArray)).size ≤ out.size + 10017 := by rw [ByteArray.size_append]; omega
        have r6 : ((((((out ++ (U.askS (x1, x2, x3, z1))) ++ ({ data := #[27, 91] } : ByteArray)) ++ (itoaB ((U.blkN l i : Nat) : Int))) ++ ({ data := #[88] } : ByteArray)) ++ ({ data := #[27, 91] } : ByteArray)) ++ (itoaB ((U.blkN l i : Nat) : Int))).size ≤ out.size + 10026 := by rw [ByteArray.size_append]; omega
        have a1 : out.size + (U.askS (x1, x2, x3, z1)).size ≤ 9223372036854775807 := by omega
        have a2 : (out ++ (U.askS (x1, x2, x3, z1))).size + 2 ≤ 9223372036854775807 := by omega
        have a3 : ((out ++ (U.askS (x1, x2, x3, z1))) ++ ({ data := #[27, 91] } : ByteArray)).size + (itoaB ((U.blkN l i : Nat) : Int)).size ≤ 9223372036854775807 := by omega
        have a4 : (((out ++ (U.askS (x1, x2, x3, z1))) ++ ({ data := #[27, 91] } : ByteArray)) ++ (itoaB ((U.blkN l i : Nat) : Int))).size + 1 ≤ 9223372036854775807 := by omega
        have a5 : ((((out ++ (U.askS (x1, x2, x3, z1))) ++ ({ data := #[27, 91] } : ByteArray)) ++ (itoaB ((U.blkN l i : Nat) : Int))) ++ ({ data := #[88] } : ByteArray)).size + 2 ≤ 9223372036854775807 := by omega
        have a6 : (((((out ++ (U.askS (x1, x2, x3, z1))) ++ ({ data := #[27, 91] } : ByteArray)) ++ (itoaB ((U.blkN l i : Nat) : Int))) ++ ({ data := #[88] } : ByteArray)) ++ ({ data := #[27, 91] } : ByteArray)).size + (itoaB ((U.blkN l i : Nat) : Int)).size ≤ 9223372036854775807 := by omega
        have a7 : ((((((out ++ (U.askS (x1, x2, x3, z1))) ++ ({ data := #[27, 91] } : ByteArray)) ++ (itoaB ((U.blkN l i : Nat) : Int))) ++ ({ data := #[88] } : ByteArray)) ++ ({ data := #[27, 91] } : ByteArray)) ++ (itoaB ((U.blkN l i : Nat) : Int))).size + 1 ≤ 9223372036854775807 := by omega
        have hv : (b16_0 ((out, (i : Int), ()), (l, s, ()), (a, b, c, ()), ())).val =
            bif decide (((i + U.blkN l i : Nat) : Int) < (l.length : Int)) then
              some (.inl (((((((((out ++ (U.askS (x1, x2, x3, z1))) ++ ({ data := #[27, 91] } : ByteArray)) ++ (itoaB ((U.blkN l i : Nat) : Int))) ++ ({ data := #[88] } : ByteArray)) ++ ({ data := #[27, 91] } : ByteArray)) ++ (itoaB ((U.blkN l i : Nat) : Int))) ++ ({ data := #[67] } : ByteArray)), ((i + U.blkN l i : Nat) : Int), ()), (l, s, ()), (x1, x2, x3, ()), ()))
            else some (.inl ((((((out ++ (U.askS (x1, x2, x3, z1))) ++ ({ data := #[27, 91] } : ByteArray)) ++ (itoaB ((U.blkN l i : Nat) : Int))) ++ ({ data := #[88] } : ByteArray)), ((i + U.blkN l i : Nat) : Int), ()), (l, s, ()), (x1, x2, x3, ()), ())) := by
          simp only [b16_0, B16_0, Tr.val, lt, inB_nat hi, hg, Int.toNat_natCast, w4, hk, a1, a2, a3, a4, a5, a6, a7, hl, show ((0 : Int) ≤ (i : Int) ∧ (i : Int) < (l.length : Int)) by omega, show (0 : Int) ≤ (i : Int) by omega, show (i : Int) < (l.length : Int) by omega, show (0 : Int) < ((U.blkN l i : Nat) : Int) by omega, show (-9223372036854775808 ≤ ((U.blkN l i : Nat) : Int) ∧ ((U.blkN l i : Nat) : Int) ≤ 9223372036854775807) by omega, and_self, decide_true, cond_true]
        cases hc : decide (((i + U.blkN l i : Nat) : Int) < (l.length : Int)) with
        | true =>
          rw [hc, cond_true] at hv
          refine .step hv ?_
          have h4 : (((((((out ++ (U.askS (x1, x2, x3, z1))) ++ ({ data := #[27, 91] } : ByteArray)) ++ (itoaB ((U.blkN l i : Nat) : Int))) ++ ({ data := #[88] } : ByteArray)) ++ ({ data := #[27, 91] } : ByteArray)) ++ (itoaB ((U.blkN l i : Nat) : Int))) ++ ({ data := #[67] } : ByteArray)).size + k * 1100000 ≤ 140737488355328 := by
            rw [ByteArray.size_append]
            have r6 := r6
            omega
          have := ih _ h4
          rw [hn0] at this
          rw [cond_true, U.strOf_app, U.strOf_app, U.strOf_bytes, U.strOf_bytes, U.seq_one, U.seq_one]
          simp only [ByteArray.append_assoc] at this ⊢
          exact this
        | false =>
          rw [hc, cond_false] at hv
          refine .step hv ?_
          have h4 : ((((out ++ (U.askS (x1, x2, x3, z1))) ++ ({ data := #[27, 91] } : ByteArray)) ++ (itoaB ((U.blkN l i : Nat) : Int))) ++ ({ data := #[88] } : ByteArray)).size + k * 1100000 ≤ 140737488355328 := by
            have r4 := r4
            omega
          have := ih _ h4
          rw [hn0] at this
          rw [cond_false, List.nil_append, U.strOf_app, U.strOf_bytes, U.seq_one]
          simp only [ByteArray.append_assoc] at this ⊢
          exact this
      | false =>
        have hbz : U.blkN l i = 0 := by unfold U.blkN; rw [hq, hb, cond_false]
        have ih := fun (p q r : Int) (bs' : ByteArray) (hb : bs'.size + k * 1100000 ≤ 140737488355328) => R16 l s ok k (i + 1) p q r bs' (by omega) (by omega) hb
        have hn0 : decide (i + 1 = 0) = false := rfl
        by_cases hw : (0 : Int) < xw
        · rw [U.rowB_let hb hw]
          have r1 : (out ++ (U.askS (x1, x2, x3, z1))).size ≤ out.size + 10003 := by rw [ByteArray.size_append]; omega
          have a1 : out.size + (U.askS (x1, x2, x3, z1)).size ≤ 9223372036854775807 := by omega
          have a2 : (out ++ (U.askS (x1, x2, x3, z1))).size + xt.size ≤ 9223372036854775807 := by omega
          have a3 : out.size + xt.size ≤ 9223372036854775807 := by omega
          have hv : (b16_0 ((out, (i : Int), ()), (l, s, ()), (a, b, c, ()), ())).val =
              some (.inl (((out ++ (bif decide (i = 0) || !decide ((a, b, c, ()) = ((x1, x2, x3, z1) : U.At)) then (U.askS (x1, x2, x3, z1)) else ByteArray.empty)) ++ xt, ((i + 1 : Nat) : Int), ()), (l, s, ()), (x1, x2, x3, ()), ())) := by
            have hab : (decide (x1 = a) && (decide (x2 = b) && decide (x3 = c))) = decide ((a, b, c, ()) = ((x1, x2, x3, z1) : U.At)) := by
              rw [Bool.eq_iff_iff]
              simp only [Bool.and_eq_true, decide_eq_true_eq, Prod.mk.injEq, and_true]
              constructor
              · rintro ⟨rfl, rfl, rfl⟩; exact ⟨rfl, rfl, rfl⟩
              · rintro ⟨rfl, rfl, rfl⟩; exact ⟨rfl, rfl, rfl⟩
            have hi0 : decide ((i : Int) = 0) = decide (i = 0) := decide_eq_decide.2 (by omega)
            have hz : ((U.blkN l i : Nat) : Int) = 0 := by rw [hbz]; rfl
            simp only [b16_0, B16_0, Tr.val, lt, inB_nat hi, hg, Int.toNat_natCast, hz, w1, hk, hab, hi0, hw, a1, a2, a3, hl, show ((0 : Int) ≤ (i : Int) ∧ (i : Int) < (l.length : Int)) by omega, show (0 : Int) ≤ (i : Int) by omega, show (i : Int) < (l.length : Int) by omega, show ¬ ((0 : Int) < 0) by omega, and_self, decide_true, decide_false, cond_true, cond_false]
            cases decide (i = 0) <;> cases decide ((a, b, c, ()) = ((x1, x2, x3, z1) : U.At)) <;> simp only [cond_true, cond_false, Bool.not_true, Bool.not_false, Bool.true_or, Bool.false_or, ByteArray.append_empty] <;> rfl
          refine .step hv ?_
          have h4 : ((out ++ (bif decide (i = 0) || !decide ((a, b, c, ()) = ((x1, x2, x3, z1) : U.At)) then (U.askS (x1, x2, x3, z1)) else ByteArray.empty)) ++ xt).size + k * 1100000 ≤ 140737488355328 := by
            rw [ByteArray.size_append, ByteArray.size_append]
            have : (bif decide (i = 0) || !decide ((a, b, c, ()) = ((x1, x2, x3, z1) : U.At)) then (U.askS (x1, x2, x3, z1)) else ByteArray.empty).size ≤ 10003 := by
              cases decide (i = 0) || !decide ((a, b, c, ()) = ((x1, x2, x3, z1) : U.At))
              · exact Nat.zero_le _
              · exact ha
            omega
          have := ih x1 x2 x3 _ h4
          rw [hn0] at this
          have e : strOf (bif decide (i = 0) || !decide ((a, b, c, ()) = ((x1, x2, x3, z1) : U.At)) then bytesL (U.askS (x1, x2, x3, z1)) else []) = (bif decide (i = 0) || !decide ((a, b, c, ()) = ((x1, x2, x3, z1) : U.At)) then (U.askS (x1, x2, x3, z1)) else ByteArray.empty) := by
            cases decide (i = 0) || !decide ((a, b, c, ()) = ((x1, x2, x3, z1) : U.At))
            · rfl
            · exact U.strOf_bytes _
          rw [U.strOf_app, U.strOf_app, U.strOf_bytes, e]
          simp only [ByteArray.append_assoc] at this ⊢
          exact this
        · rw [U.rowB_no hb hw]
          have hv : (b16_0 ((out, (i : Int), ()), (l, s, ()), (a, b, c, ()), ())).val =
              some (.inl ((out, ((i + 1 : Nat) : Int), ()), (l, s, ()), (a, b, c, ()), ())) := by
            have hz : ((U.blkN l i : Nat) : Int) = 0 := by rw [hbz]; rfl
            simp only [b16_0, B16_0, Tr.val, lt, inB_nat hi, hg, Int.toNat_natCast, hz, w1, hw, hl, show ((0 : Int) ≤ (i : Int) ∧ (i : Int) < (l.length : Int)) by omega, show (0 : Int) ≤ (i : Int) by omega, show (i : Int) < (l.length : Int) by omega, show ¬ ((0 : Int) < 0) by omega, and_self, decide_true, decide_false, cond_true, cond_false]
          refine .step hv ?_
          have h4 : out.size + k * 1100000 ≤ 140737488355328 := Nat.le_trans (Nat.add_le_add_left (Nat.mul_le_mul_right 1100000 (Nat.le_succ k)) out.size) h3
          have := ih a b c out h4
          rw [hn0] at this
          exact this
    · have e : i = l.length := by omega
      subst e
      rw [List.drop_length, U.rowB_nil]
      refine .exit ?_
      simp only [b16_0, B16_0, Tr.val, show ¬ ((l.length : Int) < (l.length : Int)) by omega, decide_false, cond_false]
      show some (Sum.inr out) = some (Sum.inr (out ++ ByteArray.empty))
      rw [ByteArray.append_empty]
theorem L16 : LoopOK (evI 2) (E16.lend 0) (lc Tryd.f16 0) := by
  refine l16_0 (T := T16) (fun x => rfl) ?_
  rintro ⟨⟨out, i, z⟩, ⟨⟨l, s, z1⟩, ⟨a, b, c, z2⟩, z3⟩⟩ r h
  obtain ⟨g1, g2⟩ := pre_val h
  rw [Bool.and_eq_true] at g1
  obtain ⟨g1, ok⟩ := g1
  have g1 : (i : Int) = 0 ∧ out.size = 0 := of_decide_eq_true g1
  have ok : U.okW l = true := ok
  obtain ⟨e1, e2⟩ := g1
  subst e1
  cases g2
  have e3 : out = ByteArray.empty := ByteArray.size_eq_zero_iff.1 e2
  subst e3
  have hl := U.okW_len ok
  have := R16 l s ok l.length 0 a b c ByteArray.empty (Nat.zero_le _) (by omega) (by show 0 + l.length * 1100000 ≤ 140737488355328; omega)
  rw [ByteArray.empty_append] at this
  exact this
def d16 (xa1 : List Cell) (xa2 : Bool) : Tr (ByteArray) :=
 Tr.ite (true && U.okW xa1) (Tr.ret (strOf (U.rowB (List.length xa1) true ((0 : Int), (0 : Int), (0 : Int), ()) xa1))) Tr.fail
def e16 (r : ByteArray) : FRes := { rs := Slot.av (AV.one (Leaf.dat Kd.str r)), upd := [], new := [] }
@[reducible] def a16 : List AK := [AK.d link]
@[reducible] def b16 : List BK := []
theorem t16 (xa1 : List Cell) (xa2 : Bool) : evFn (E16) Tryd.f16 [PM.data Kd.str] (akAV a16 ((xa1, xa2, ()), ())) (bkBs b16 ()) = (d16 xa1 xa2).map e16 := by kernel_rfl
def s16 (C : akT a16 → Bool) (G : akT a16 → ByteArray) : FSpec := aspec a16 b16 e16 (fun x _ => C x) (fun x _ => G x)
theorem k16 {C : akT a16 → Bool} {G : akT a16 → ByteArray} (hd : ∀ (xa1 : List Cell) (xa2 : Bool), C ((xa1, xa2, ()), ()) = true → (d16 xa1 xa2).val = some (G ((xa1, xa2, ()), ()))) (IO : ItOK Tryd.prog (E16) := by exact itOK_none rfl) (L : ∀ c, Tryd.f16.body = some c → LsOK (evI 2) ((E16).lend 0) c := by exact fun c _ => LsOK_none rfl c) : SpecOK Tryd.prog E0 16 (s16 C G) :=
  aspec_ok (ak := a16) (bl := b16) (e := e16) (c := fun x _ => C x) (g := fun x _ => G x) (E0 := E0) (E := E16) tab AG16 rfl rfl hm Tryd.func16 (by kernel_rfl) [PM.data Kd.str] (fun X Y H => by obtain ⟨⟨xa1, ⟨xa2, _⟩⟩, _⟩ := X; exact val_of (t16 xa1 xa2) (hd xa1 xa2 H)) IO L
abbrev w16 : FSpec := s16 (fun x => U.okW x.1.1) fun x => U.rowS x.1.1
theorem wk16 : SpecOK Tryd.prog E0 16 w16 := by
  refine k16 (fun l s H => ?_) (L := ls_ok (lcs := [lc Tryd.f16 0]) (rgs := []) (by kernel_rfl) (by kernel_rfl) L16 trivial)
  have ok : U.okW l = true := H
  show _ = some (U.rowS l)
  simp only [d16, Tr.val, ok, show ((⟨#[]⟩ : ByteArray).size) = 0 from rfl, and_self, decide_true, Bool.and_self, cond_true]
  rfl
end Go.Proofs.YtdlbnlbajnafdaaDoor
end
section
set_option linter.unusedVariables false
set_option linter.unusedSimpArgs false
set_option maxRecDepth 20000
set_option maxHeartbeats 4000000
open Go Go.Ev
namespace U
theorem cellR_look {c : Cl} (h : cellR c = true) : look c.2.2.1 = true := by
  unfold cellR at h
  split at h
  · rw [Bool.and_eq_true] at h; exact h.1
  · split at h
    · rw [Bool.and_eq_true] at h; exact h.1
    · cases h
theorem fit_okW {l : List Cl} (h : okc l = true) (hf : fitC l = true) : okW l = true := by
  unfold okW
  rw [h, Bool.true_and, List.all_eq_true]
  exact fun c hc => cellR_look ((fitC_iff.1 hf).1 c hc)
end U
namespace Go.Proofs.YtdlbnlbajnafdaaDoor
open Go.RowKit
abbrev w11 : FSpec := s11 (fun x => U.okc x.1.1) fun x => bif U.lineR x.1 then (U.rowS x.1.1, (0 : Int)) else (⟨#[]⟩, 1)
theorem wk11 : SpecOK Tryd.prog E0 11 w11 := by
  refine k11 fun l s H => ?_
  have ok : U.okc l = true := H
  have hl := U.okc_len ok
  show _ = some (bif U.lineR (l, s, ()) then (U.rowS l, (0 : Int)) else (⟨#[]⟩, 1))
  unfold U.lineR
  cases h1 : U.inn (l.length : Int) 1 80 with
  | false => simp only [d11, Tr.val, h1, Bool.not_false, Bool.false_and, cond_true, cond_false]
  | true =>
    cases h2 : U.fitC l with
    | false => simp only [d11, Tr.val, h1, h2, ok, Bool.not_true, Bool.not_false, Bool.false_and, Bool.and_false, cond_true, cond_false]
    | true =>
      have ow := U.fit_okW ok h2
      cases h3 : U.shown (l, s, ()) with
      | false => simp only [d11, Tr.val, h1, h2, h3, ok, hl, decide_true, Bool.not_true, Bool.not_false, Bool.and_self, Bool.and_false, Bool.true_and, cond_true, cond_false]
      | true => simp only [d11, Tr.val, h1, h2, h3, ok, ow, hl, decide_true, Bool.not_true, Bool.and_self, cond_true, cond_false]
def d14 : Tr (Bool) :=
 Tr.ite true (Tr.ite true (Tr.ret true) (Tr.ret false)) Tr.fail
def e14 (r : Bool) : FRes := { rs := Slot.av (AV.one (Leaf.dat Kd.bool r)), upd := [], new := [] }
@[reducible] def a14 : List AK := []
@[reducible] def b14 : List BK := []
theorem t14 : evFn (Env.withFns E0 [((11 : Nat), w11)]) Tryd.f14 [PM.data Kd.bool] (akAV a14 ()) (bkBs b14 ()) = (d14).map e14 := by kernel_rfl
def s14' (G : akT a14 → Bool) : FSpec := aspec0 a14 b14 e14 (fun x _ => G x)
theorem k14' {G : akT a14 → Bool} (hd : (d14).val = some (G ())) (IO : ItOK Tryd.prog (Env.withFns E0 [((11 : Nat), w11)]) := by exact itOK_none rfl) (L : ∀ c, Tryd.f14.body = some c → LsOK (evI 2) ((Env.withFns E0 [((11 : Nat), w11)]).lend 0) c := by exact fun c _ => LsOK_none rfl c) : SpecOK Tryd.prog E0 14 (s14' G) :=
  aspec0_ok (ak := a14) (bl := b14) (e := e14) (g := fun x _ => G x) (E0 := E0) (E := Env.withFns E0 [((11 : Nat), w11)]) tab (.cons wk11 .nil) rfl rfl hm Tryd.func14 (by kernel_rfl) [PM.data Kd.bool] (fun X Y => by exact val_of (t14) (hd)) IO L
abbrev w14 : FSpec := s14' fun _ => true
theorem wk14 : SpecOK Tryd.prog E0 14 w14 := k14' rfl
abbrev G3 : List (Nat × FSpec) := [(9, w9), (10, w10), (11, w11), (12, w12), (13, w13), (14, w14), (15, w15), (16, w16)]
theorem AG3 : AllFn Tryd.prog E0 G3 := .cons wk9 (.cons wk10 (.cons wk11 (.cons wk12 (.cons wk13 (.cons wk14 (.cons wk15 (.cons wk16 .nil)))))))
def d3 (xa11 : Int) (xa12 : List Line) (xa2 : Int) (xa3 : Int) (xa4 : Bool) (xb1 : List Cell) (xb2 : Bool) : Tr (Bool) :=
 let v1 : List Line := (List.map U.cutLn (List.take (30 : Nat) xa12))
 let v2 : Bool := (U.okl v1)
 let v3 : Bool := (U.lineR (U.cutL xb1, xb2, ()))
 let v4 : Bool := (U.scrR xa11 v1 xa2 xa3)
 let v5 : ByteArray × Int := (bif v3 then (U.rowS (U.cutL xb1), (0 : Int)) else ({ data := #[] }, (1 : Int)))
 let v6 : Int := (v5.snd)
 let v7 : ByteArray := (v5.fst)
 Tr.ite true (Tr.ite (U.okc (U.cutL xb1)) (Tr.ite v2 (Tr.ite v2 (Tr.ite (!v4 == v4) (Tr.ret false) (Tr.ite false (Tr.ret false) (Tr.ite (U.okc (U.cutL xb1)) (Tr.ite (!v3) (Tr.ite (decide (v6 = (1 : Int))) (Tr.ret (decide (v7 = { data := #[] }))) (Tr.ret false)) (Tr.ite (decide (v6 = (0 : Int))) (Tr.ite (U.okW (U.cutL xb1)) (Tr.ret (decide (v7 = U.rowS (U.cutL xb1)))) Tr.fail) (Tr.ret false))) Tr.fail))) Tr.fail) Tr.fail) Tr.fail) Tr.fail
def e3 (r : Bool) : FRes := { rs := Slot.av (AV.one (Leaf.dat Kd.bool r)), upd := [], new := [] }
@[reducible] def a3 : List AK := [AK.d scrk, AK.d link]
@[reducible] def b3 : List BK := []
theorem t3 (xa11 : Int) (xa12 : List Line) (xa2 : Int) (xa3 : Int) (xa4 : Bool) (xb1 : List Cell) (xb2 : Bool) : evFn (Env.withFns E0 G3) Tryd.f3 [PM.data Kd.bool] (akAV a3 (((xa11, xa12, ()), xa2, xa3, xa4, ()), (xb1, xb2, ()), ())) (bkBs b3 ()) = (d3 xa11 xa12 xa2 xa3 xa4 xb1 xb2).map e3 := by kernel_rfl
def s3' (G : akT a3 → Bool) : FSpec := aspec0 a3 b3 e3 (fun x _ => G x)
theorem k3' {G : akT a3 → Bool} (hd : ∀ (xa11 : Int) (xa12 : List Line) (xa2 : Int) (xa3 : Int) (xa4 : Bool) (xb1 : List Cell) (xb2 : Bool), (d3 xa11 xa12 xa2 xa3 xa4 xb1 xb2).val = some (G (((xa11, xa12, ()), xa2, xa3, xa4, ()), (xb1, xb2, ()), ()))) (IO : ItOK Tryd.prog (Env.withFns E0 G3) := by exact itOK_none rfl) (L : ∀ c, Tryd.f3.body = some c → LsOK (evI 2) ((Env.withFns E0 G3).lend 0) c := by exact fun c _ => LsOK_none rfl c) : SpecOK Tryd.prog E0 3 (s3' G) :=
  aspec0_ok (ak := a3) (bl := b3) (e := e3) (g := fun x _ => G x) (E0 := E0) (E := Env.withFns E0 G3) tab AG3 rfl rfl hm Tryd.func3 (by kernel_rfl) [PM.data Kd.bool] (fun X Y => by obtain ⟨⟨⟨xa11, ⟨xa12, _⟩⟩, ⟨xa2, ⟨xa3, ⟨xa4, _⟩⟩⟩⟩, ⟨⟨xb1, ⟨xb2, _⟩⟩, _⟩⟩ := X; exact val_of (t3 xa11 xa12 xa2 xa3 xa4 xb1 xb2) (hd xa11 xa12 xa2 xa3 xa4 xb1 xb2)) IO L
end Go.Proofs.YtdlbnlbajnafdaaDoor
namespace U
theorem cutS_ok (l : List Ln) : okl ((l.take 30).map cutLn) = true := by
  unfold okl
  rw [Bool.and_eq_true]
  refine ⟨decide_eq_true (by rw [List.length_map, List.length_take]; omega), List.all_eq_true.2 fun x hx => ?_⟩
  obtain ⟨d, _, rfl⟩ := List.mem_map.1 hx
  exact cutL_ok d.1
end U
namespace Go.Proofs.YtdlbnlbajnafdaaDoor
abbrev w3 : FSpec := s3' fun _ => true
theorem wk3 : SpecOK Tryd.prog E0 3 w3 := by
  refine k3' fun c l row col hide m s => ?_
  have h1 := U.cutL_ok m
  have h2 := U.cutS_ok l
  show _ = some true
  cases hr : U.lineR (U.cutL m, s, ()) with
  | false =>
    simp only [d3, Tr.val, h1, h2, hr, cond_true, cond_false, Bool.not_false, decide_true]
    cases U.scrR c ((l.take 30).map U.cutLn) row col <;> rfl
  | true =>
    have hf : U.fitC (U.cutL m) = true := by
      unfold U.lineR at hr
      rw [Bool.and_eq_true, Bool.and_eq_true] at hr
      exact hr.2.1
    have ow := U.fit_okW h1 hf
    simp only [d3, Tr.val, h1, h2, hr, ow, cond_true, cond_false, Bool.not_true, decide_true]
    cases U.scrR c ((l.take 30).map U.cutLn) row col <;> rfl
end Go.Proofs.YtdlbnlbajnafdaaDoor
end
