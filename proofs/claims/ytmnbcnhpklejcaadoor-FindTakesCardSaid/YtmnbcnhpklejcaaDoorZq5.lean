/- Part 5 of what the proof leans on: an evaluator of Go code over plain data, with its soundness; contracts of functions; laws of plain data. -/
import Derived.Test.YtmnbcnhpklejcaaDoorZq4
section
set_option linter.unusedVariables false
set_option linter.unusedSimpArgs false
set_option maxRecDepth 20000
set_option maxHeartbeats 4000000
open Go Go.Ev
namespace Go.Ev
open Go.RowKit
theorem aspec_or {P : Program} {E : Env} {f : FuncId} {ak : List AK} {bl : List BK} {ρ : Type} {e : ρ → FRes} {c c1 c2 : akT ak → bksT bl → Bool} {g : akT ak → bksT bl → ρ}
    (h1 : SpecOK P E f (aspec ak bl e c1 g)) (h2 : SpecOK P E f (aspec ak bl e c2 g)) (h : ∀ x y, c x y = true → c1 x y = true ∨ c2 x y = true) : SpecOK P E f (aspec ak bl e c g) := by
  intro F O args bs r hr hc
  unfold aspec bspec at hr
  simp only at hr
  split at hr
  · rename_i x hx
    split at hr
    · rename_i y hy
      have hc' : c x y = true := by
        cases hr
        cases hq : c x y with
        | true => rfl
        | false => exact absurd (by show some (c x y) = some false; rw [hq]) hc
      rcases h x y hc' with hh | hh
      · have := h1 F O args bs { c := some (c1 x y), rs := (e (g x y)).rs, upd := (e (g x y)).upd, new := (e (g x y)).new } (by unfold aspec bspec; simp only [hx, hy]) (by rw [hh]; intro hf; cases hf)
        cases hr
        exact this
      · have := h2 F O args bs { c := some (c2 x y), rs := (e (g x y)).rs, upd := (e (g x y)).upd, new := (e (g x y)).new } (by unfold aspec bspec; simp only [hx, hy]) (by rw [hh]; intro hf; cases hf)
        cases hr
        exact this
    · cases hr
  · cases hr
end Go.Ev
namespace U
open Go.Proofs.YtmnbcnhpklejcaaDoor
def takeB (l : List Ln) (row col row2 col2 : Int) : ByteArray :=
  bif behind row col row2 col2 then takeL l row2.toNat col2.toNat row.toNat col.toNat else takeL l row.toNat col.toNat row2.toNat col2.toNat
end U
namespace Go.Proofs.YtmnbcnhpklejcaaDoor
open Go.RowKit
abbrev u77 : FSpec := s77 (fun x => (U.okl x.1 && (decide (U.cells x.1 ≤ 1048576) && (U.there x.1 x.2.1 x.2.2.1 && U.there x.1 x.2.2.2.1 x.2.2.2.2.1))) && !U.behind x.2.1 x.2.2.1 x.2.2.2.1 x.2.2.2.2.1) fun x => U.takeB x.1 x.2.1 x.2.2.1 x.2.2.2.1 x.2.2.2.2.1
theorem uk77 : SpecOK Tryd.prog E0 77 u77 := by
  refine k77 (fun l row col row2 col2 H => ?_) (L := ls_ok (lcs := [lc Tryd.f77 0, lc Tryd.f77 1]) (rgs := []) (by kernel_rfl) (by kernel_rfl) ⟨L77_0, L77_1⟩ trivial)
  have H : ((U.okl l && (decide (U.cells l ≤ 1048576) && (U.there l row col && U.there l row2 col2))) && !U.behind row col row2 col2) = true := H
  simp only [Bool.and_eq_true, Bool.not_eq_true'] at H
  obtain ⟨⟨gk, g2, ht, ht2⟩, hb⟩ := H
  obtain ⟨a, c, rfl, rfl, h1, h2⟩ := U.there_nat ht
  obtain ⟨b, d, rfl, rfl, h3, h4⟩ := U.there_nat ht2
  have hb' := hb
  rw [← Bool.not_eq_true, U.behind_lt] at hb'
  have hab : a ≤ b := by unfold U.lt2 at hb'; simp only at hb'; omega
  show _ = some (U.takeB l a c b d)
  unfold U.takeB
  rw [hb, cond_false]
  simp only [Int.toNat_natCast]
  rw [← U.tkF_take l a c b d hab]
  have g2 : U.cells l ≤ 1048576 := of_decide_eq_true g2
  have a1 : (a : Int) ≤ (b : Int) := by omega
  have a2 : (b : Int) < (l.length : Int) := by omega
  simp only [d77, Tr.val, hb, gk, g2, a1, a2, Int.toNat_natCast, Int.natCast_nonneg, and_self, decide_true, Bool.and_self, cond_true, cond_false]
  rfl
namespace Rt
abbrev G77 : List (Nat × FSpec) := [(129, w129), (50, w50), (57, w57), (77, u77)]
theorem AG77 : AllFn Tryd.prog E0 G77 := .cons wk129 (.cons wk50 (.cons wk57 (.cons uk77 .nil)))
abbrev E77 : Env := (E0.withFns G77).loops live77 fun _ _ => none
def d77 (a : List Line) (b : Int) (c : Int) (y : Int) (f : Int) : Tr (ByteArray) :=
 Tr.ite (U.behind b c y f) (Tr.ite (U.okl a && (decide (U.cells a ≤ (1048576 : Nat)) && (U.there a y f && U.there a b c)) && !U.behind y f b c) (Tr.ret (U.takeB a y f b c)) Tr.fail) Tr.fail
def e77 (r : ByteArray) : FRes := { rs := Slot.av (AV.one (Leaf.dat Kd.str r)), upd := [], new := [] }
@[reducible] def a77 : List AK := [AK.d (Kd.sl link), AK.d (.int .i64), AK.d (.int .i64), AK.d (.int .i64), AK.d (.int .i64)]
@[reducible] def b77 : List BK := []
theorem t77 (a : List Line) (b : Int) (c : Int) (y : Int) (f : Int) : evFn (E77) Tryd.f77 [PM.data Kd.str] (akAV a77 (a, b, c, y, f, ())) (bkBs b77 ()) = (d77 a b c y f).map e77 := by kernel_rfl
def s77 (C : akT a77 → Bool) (G : akT a77 → ByteArray) : FSpec := aspec a77 b77 e77 (fun x _ => C x) (fun x _ => G x)
theorem k77 {C : akT a77 → Bool} {G : akT a77 → ByteArray} (hd : ∀ (a : List Line) (b : Int) (c : Int) (y : Int) (f : Int), C (a, b, c, y, f, ()) = true → (d77 a b c y f).val = some (G (a, b, c, y, f, ()))) (IO : ItOK Tryd.prog (E77) := by exact itOK_none rfl) (L : ∀ c, Tryd.f77.body = some c → LsOK (evI 2) ((E77).lend 0) c := by exact fun c _ => LsOK_none rfl c) : SpecOK Tryd.prog E0 77 (s77 C G) :=
  aspec_ok (ak := a77) (bl := b77) (e := e77) (c := fun x _ => C x) (g := fun x _ => G x) (E0 := E0) (E := E77) tab AG77 rfl rfl hm Tryd.func77 (by kernel_rfl) [PM.data Kd.str] (fun X Y H => by obtain ⟨a, ⟨b, ⟨c, ⟨y, ⟨f, _⟩⟩⟩⟩⟩ := X; exact val_of (t77 a b c y f) (hd a b c y f H)) IO L
end Rt
abbrev w77 : FSpec := s77 (fun x => U.okl x.1 && (decide (U.cells x.1 ≤ 1048576) && (U.there x.1 x.2.1 x.2.2.1 && U.there x.1 x.2.2.2.1 x.2.2.2.2.1))) fun x => U.takeB x.1 x.2.1 x.2.2.1 x.2.2.2.1 x.2.2.2.2.1
theorem rk77 : SpecOK Tryd.prog E0 77 (Rt.s77 (fun x => (U.okl x.1 && (decide (U.cells x.1 ≤ 1048576) && (U.there x.1 x.2.1 x.2.2.1 && U.there x.1 x.2.2.2.1 x.2.2.2.2.1))) && U.behind x.2.1 x.2.2.1 x.2.2.2.1 x.2.2.2.2.1) fun x => U.takeB x.1 x.2.1 x.2.2.1 x.2.2.2.1 x.2.2.2.2.1) := by
  refine Rt.k77 (fun l row col row2 col2 H => ?_)
  have H : ((U.okl l && (decide (U.cells l ≤ 1048576) && (U.there l row col && U.there l row2 col2))) && U.behind row col row2 col2) = true := H
  simp only [Bool.and_eq_true] at H
  obtain ⟨⟨gk, g2, ht, ht2⟩, hb⟩ := H
  have g2 : U.cells l ≤ 1048576 := of_decide_eq_true g2
  obtain ⟨a, c, rfl, rfl, h1, h2⟩ := U.there_nat ht
  obtain ⟨b, d, rfl, rfl, h3, h4⟩ := U.there_nat ht2
  have hb2 : U.behind (b : Int) (d : Int) (a : Int) (c : Int) = false := by
    rw [← Bool.not_eq_true, U.behind_lt]
    rw [U.behind_lt] at hb
    unfold U.lt2 at hb ⊢
    simp only at hb ⊢
    omega
  show _ = some (U.takeB l a c b d)
  simp only [Rt.d77, Tr.val, hb, hb2, gk, g2, ht, ht2, decide_true, Bool.and_self, Bool.not_false, cond_true]
  unfold U.takeB
  rw [hb, hb2]
  rfl
theorem wk77 : SpecOK Tryd.prog E0 77 w77 :=
  aspec_or uk77 rk77 fun x _ h => by
    show (_ && !U.behind x.2.1 x.2.2.1 x.2.2.2.1 x.2.2.2.2.1) = true ∨ (_ && U.behind x.2.1 x.2.2.1 x.2.2.2.1 x.2.2.2.2.1) = true
    cases U.behind x.2.1 x.2.2.1 x.2.2.2.1 x.2.2.2.2.1
    · exact .inl (by rw [Bool.and_eq_true]; exact ⟨h, rfl⟩)
    · exact .inr (by rw [Bool.and_eq_true]; exact ⟨h, rfl⟩)
def live14 (key : Nat) : Lv :=
  bif Nat.beq key 25026 then { ls := [9999, 12] } else bif Nat.beq key 45026 then { ls := [12, 187, 188, 189, 190, 191, 192, 193] } else
  bif Nat.beq key 20180 then { ls := [9999, 13, 14, 22] } else bif Nat.beq key 40180 then { ls := [22, 181, 182, 183, 184, 185, 186] } else
  bif Nat.beq key 25022 then { ls := [9999, 12] } else bif Nat.beq key 45022 then { ls := [12, 168, 169, 170, 171, 172, 173] } else
  bif Nat.beq key 20167 then { ls := [9999, 0, 1, 2, 3, 4, 5, 13, 14] } else bif Nat.beq key 40167 then { ls := [12, 168, 169, 170, 171, 172, 173] } else
  bif Nat.beq key 20099 then { ls := [9999, 0, 1, 2, 3, 4, 5, 13, 14] } else bif Nat.beq key 40099 then { ls := [12] } else
  bif Nat.beq key 25011 then { ls := [9999, 0, 1, 2, 3, 4, 5, 13, 14, 99] } else bif Nat.beq key 45011 then { ls := [90, 91, 92, 93, 94, 95, 96, 97, 98, 99] } else
  bif Nat.beq key 20161 then { ls := [9999, 0, 1, 2, 3, 4, 5, 13, 14, 153, 154, 155] } else bif Nat.beq key 40161 then { ls := [12] } else
  bif Nat.beq key 20156 then { ls := [9999, 0, 1, 2, 3, 4, 5, 13, 14, 153, 154, 155] } else bif Nat.beq key 40156 then { ls := [] } else
  bif Nat.beq key 16 then { ls := [0, 1, 2, 3, 4, 5, 13, 14, 153, 154, 155] } else bif Nat.beq key 1016 then { ls := [0, 1, 2, 3, 4, 5, 12, 13, 14] } else
  bif Nat.beq key 20148 then { ls := [9999, 0, 1, 2, 3, 4, 5, 13, 14, 15, 16, 19] } else bif Nat.beq key 40148 then { ls := [12] } else
  bif Nat.beq key 25013 then { ls := [9999, 0, 1, 2, 3, 4, 5, 13, 14, 15, 16, 19, 148] } else bif Nat.beq key 45013 then { ls := [100, 101, 102, 103, 104, 105, 106, 107, 108, 109, 110, 111, 112, 113, 114, 115, 116, 117, 118, 119, 120, 121, 122, 123, 124, 125, 126, 127, 128, 129, 130, 131, 132, 133, 134, 135, 136, 137, 138, 139, 140, 141, 142, 143, 144, 145, 146, 147, 148] } else
  bif Nat.beq key 20089 then { ls := [9999, 0, 1, 2, 3, 4, 5, 13, 14] } else bif Nat.beq key 40089 then { ls := [12, 21, 90, 91, 92, 93, 94, 95, 96, 97, 98, 99, 100, 101, 102, 103, 104, 105, 106, 107, 108, 109, 110, 111, 112, 113, 114, 115, 116, 117, 118, 119, 120, 121, 122, 123, 124, 125, 126, 127, 128, 129, 130, 131, 132, 133, 134, 135, 136, 137, 138, 139, 140, 141, 142, 143, 144, 145, 146, 147, 148, 149, 150, 151, 152, 153, 154, 155, 156, 157, 158, 159, 160, 161, 162] } else
  bif Nat.beq key 20078 then { ls := [9999, 0, 1, 2, 3, 4, 5, 13, 14, 15, 16, 17] } else bif Nat.beq key 40078 then { ls := [12] } else
  bif Nat.beq key 20076 then { ls := [9999, 0, 1, 2, 3, 4, 5, 13, 14, 15, 16, 17, 18] } else bif Nat.beq key 40076 then { ls := [12] } else
  bif Nat.beq key 25005 then { ls := [9999, 0, 1, 2, 3, 4, 5, 13, 14, 15, 16, 17, 18, 76] } else bif Nat.beq key 45005 then { ls := [51, 52, 53, 54, 55, 56, 57, 58, 59, 60, 61, 62, 63, 64, 65, 66, 67, 68, 69, 70, 71, 72, 73, 74, 75, 76] } else
  bif Nat.beq key 25004 then { ls := [9999, 0, 1, 2, 3, 4, 5, 13, 14, 15, 16, 17, 18] } else bif Nat.beq key 45004 then { ls := [18, 43, 44, 45, 46, 47, 48, 49, 50] } else
  { ls := [] }
abbrev G14 : List (Nat × FSpec) := [(43, w43), (45, w45), (46, w46), (47, w47), (74, w74), (75, w75), (76, w76), (77, w77), (78, w78)]
theorem AG14 : AllFn Tryd.prog E0 G14 := .cons wk43 (.cons wk45 (.cons wk46 (.cons wk47 (.cons wk74 (.cons wk75 (.cons wk76 (.cons wk77 (.cons wk78 .nil))))))))
abbrev M14 (ls : Nat → VS → Option (Tr (Ex × VS))) : Env := (E0.withFns G14).loops live14 ls
@[reducible] def p14_0 : LP := { n := 194, sl := [.d (Kd.sl link), .d (.int .i64), .d (.int .i64), .d (.int .i64), .d (.int .i64), .d (Kd.bool), .d (Kd.str), .d (.int .i64), .d (Kd.sl celk), .d (.int .i64), .d (.int .i64)], bl := [] }
def B14_0 (x0 : List Line) (x1 : Int) (x2 : Int) (x3 : Int) (x4 : Int) (x5 : Bool) (x6 : ByteArray) (x7 : Int) (x8 : List Cell) (x9 : Int) (x10 : Int) : Tr (p14_0.T ⊕ (List Line × Int × Int × Int × Int × Bool × ByteArray × Int ⊕ List Line × Int × Int × Int × Int × Bool × ByteArray × Int)) :=
 Tr.ite (decide (x10 < x9)) (Tr.ite (inB x10 (List.length x8)) (Tr.ite (!U.wordC (rget celk x8 x10)) (Tr.ret (Sum.inr (Sum.inl (x0, x1, x2, x3, x4, x5, x6, x7)))) (Tr.ret (Sum.inl ((x0, x1, x2, x3, x4, x5, x6, x7, x8, x9, IntKind.wrap IntKind.i64 (x10 + (1 : Int)), ()), ())))) Tr.fail) (Tr.ret (Sum.inr (Sum.inr (x0, x1, x2, x3, x4, x5, x6, x7))))
def X14_0 : (List Line × Int × Int × Int × Int × Bool × ByteArray × Int ⊕ List Line × Int × Int × Int × Int × Bool × ByteArray × Int) → Ex × VS
  | (.inl r) => Prod.mk Ex.ret { n := 194, v := [Slot.av (AV.one (Leaf.dat (Kd.sl link) r.fst)), Slot.av (AV.one (Leaf.dat (.int .i64) r.snd.fst)), Slot.av (AV.one (Leaf.dat (.int .i64) r.snd.snd.fst)), Slot.av (AV.one (Leaf.dat (.int .i64) r.snd.snd.snd.fst)), Slot.av (AV.one (Leaf.dat (.int .i64) r.snd.snd.snd.snd.fst)), Slot.av (AV.one (Leaf.dat Kd.bool r.snd.snd.snd.snd.snd.fst)), Slot.av (AV.one (Leaf.kb false)), Slot.av (AV.one (Leaf.dat Kd.str r.snd.snd.snd.snd.snd.snd.fst)), Slot.av (AV.one (Leaf.dat (.int .i64) r.snd.snd.snd.snd.snd.snd.snd))], h := [] }
  | (.inr r) => Prod.mk (Ex.exit ( 0)) { n := 194, v := [Slot.av (AV.one (Leaf.dat (Kd.sl link) r.fst)), Slot.av (AV.one (Leaf.dat (.int .i64) r.snd.fst)), Slot.av (AV.one (Leaf.dat (.int .i64) r.snd.snd.fst)), Slot.av (AV.one (Leaf.dat (.int .i64) r.snd.snd.snd.fst)), Slot.av (AV.one (Leaf.dat (.int .i64) r.snd.snd.snd.snd.fst)), Slot.av (AV.one (Leaf.dat Kd.bool r.snd.snd.snd.snd.snd.fst)), Slot.av (AV.one Leaf.undef), Slot.av (AV.one (Leaf.dat Kd.str r.snd.snd.snd.snd.snd.snd.fst)), Slot.av (AV.one (Leaf.dat (.int .i64) r.snd.snd.snd.snd.snd.snd.snd))], h := [] }
def b14_0 : p14_0.T → Tr (p14_0.T ⊕ (List Line × Int × Int × Int × Int × Bool × ByteArray × Int ⊕ List Line × Int × Int × Int × Int × Bool × ByteArray × Int)) := fun ⟨⟨x0, ⟨x1, ⟨x2, ⟨x3, ⟨x4, ⟨x5, ⟨x6, ⟨x7, ⟨x8, ⟨x9, ⟨x10, _⟩⟩⟩⟩⟩⟩⟩⟩⟩⟩⟩, _⟩ => B14_0 x0 x1 x2 x3 x4 x5 x6 x7 x8 x9 x10
theorem h14_0 (ls : Nat → VS → Option (Tr (Ex × VS))) (x : p14_0.T) : (evC (evI 2) (lc Tryd.f14 0) (Env.lend (M14 ls) 0) (unV (live14 16) (p14_0.V x))).map (decL 0 (live14 16) (live14 1016)) = (b14_0 x).map (encR p14_0.V X14_0) := by
  obtain ⟨⟨x0, ⟨x1, ⟨x2, ⟨x3, ⟨x4, ⟨x5, ⟨x6, ⟨x7, ⟨x8, ⟨x9, ⟨x10, _⟩⟩⟩⟩⟩⟩⟩⟩⟩⟩⟩, _⟩ := x; kernel_rfl
theorem c14_0 (x : p14_0.T) : canV 0 (live14 16) (unV (live14 16) (p14_0.V x)) = p14_0.V x := by
  obtain ⟨⟨x0, ⟨x1, ⟨x2, ⟨x3, ⟨x4, ⟨x5, ⟨x6, ⟨x7, ⟨x8, ⟨x9, ⟨x10, _⟩⟩⟩⟩⟩⟩⟩⟩⟩⟩⟩, _⟩ := x; kernel_rfl
theorem l14_0 {T : p14_0.T → Tr (List Line × Int × Int × Int × Int × Bool × ByteArray × Int ⊕ List Line × Int × Int × Int × Int × Bool × ByteArray × Int)} {ls : Nat → VS → Option (Tr (Ex × VS))} (hls : ∀ x, (Env.lend (M14 ls) 0).ls 16 x = p14_0.ls (fun a => (T a).map X14_0) x) (hS : ∀ x r, (T x).val = some r → Rounds b14_0 x r) : LoopOK (evI 2) (Env.lend (M14 ls) 0) (lc Tryd.f14 0) :=
  loopA 16 (live14 16) (live14 1016) p14_0 b14_0 X14_0 T (by kernel_rfl) rfl rfl hls (h14_0 ls) c14_0 hS
def T14_0 (x : p14_0.T) : Tr (List Line × Int × Int × Int × Int × Bool × ByteArray × Int ⊕ List Line × Int × Int × Int × Int × Bool × ByteArray × Int) :=
  match x with
  | ⟨⟨x0, x1, x2, x3, x4, x5, x6, x7, l, n, i, _⟩, _⟩ => .ite (decide ((n : Int) = (List.length (α := Cell) l : Int) ∧ (i : Int) = 0 ∧ List.length (α := Cell) l ≤ 1048576)) (.ite (List.all (α := Cell) l U.wordC) (.ret (.inr (x0, x1, x2, x3, x4, x5, x6, x7))) (.ret (.inl (x0, x1, x2, x3, x4, x5, x6, x7)))) .fail
abbrev E14 : Env := M14 fun key x => bif Nat.beq key 16 then p14_0.ls (fun a => (T14_0 a).map X14_0) x else none
theorem L14_0 : LoopOK (evI 2) (E14.lend 0) (lc Tryd.f14 0) := by
  refine l14_0 (T := T14_0) (fun x => rfl) ?_
  rintro ⟨⟨x0, x1, x2, x3, x4, x5, x6, x7, l, n, i, z⟩, z1⟩ r hh
  obtain ⟨g1, g2⟩ := pre_val hh
  have g1 : (n : Int) = (l.length : Int) ∧ (i : Int) = 0 ∧ l.length ≤ 1048576 := of_decide_eq_true g1
  obtain ⟨rfl, rfl, e3⟩ := g1
  have := Rounds.all (B := b14_0) (N := l.length) (fun i => ((x0, x1, x2, x3, x4, x5, x6, x7, l, (l.length : Int), (i : Int), ()), ())) (fun i => U.wordC (l.getD i U.dC)) (.inl (x0, x1, x2, x3, x4, x5, x6, x7)) (.inr (x0, x1, x2, x3, x4, x5, x6, x7)) (fun i hi => ?_) ?_
  · rw [allN_list (q := U.wordC) (d := U.dC)] at this
    have g2 : (Tr.ite (l.all U.wordC) (.ret (.inr (x0, x1, x2, x3, x4, x5, x6, x7))) (.ret (.inl (x0, x1, x2, x3, x4, x5, x6, x7))) : Tr (List Line × Int × Int × Int × Int × Bool × ByteArray × Int ⊕ List Line × Int × Int × Int × Int × Bool × ByteArray × Int)).val = some r := g2
    rcases Bool.eq_false_or_eq_true (List.all (α := Cell) l U.wordC) with hq | hq
    · simp only [hq, cond_true, Tr.val] at this g2
      cases g2; exact this
    · simp only [hq, cond_false, Tr.val] at this g2
      cases g2; exact this
  · have e : rget celk l (i : Int) = l.getD i U.dC := rgetC l i
    have c1 : decide ((i : Int) < (l.length : Int)) = true := decide_eq_true (by omega)
    simp only [b14_0, B14_0, Tr.val, e, c1, inB_nat hi, cond_true, wrap64_nat (show i ≤ 1048576 by omega)]
    cases U.wordC (List.getD l i U.dC) <;> rfl
  · simp only [b14_0, B14_0, Tr.val, show ¬ ((l.length : Int) < (l.length : Int)) by omega, decide_false, cond_false]
def d14 (a : List Line) (b : Int) (c : Int) (y : Int) (f : Int) (g : Bool) : Tr (Bool) :=
 let v1 : List U.Ln := (U.few a (30 : Nat))
 let v2 : Bool := (U.okl v1)
 let v3 : Bool := (U.there v1 y f)
 let v4 : Int × Int × Int := (U.wordR v1 b c)
 let v5 : Bool := (U.there v1 b c)
 let v6 : Int := ((↑(List.length v1) : Int))
 let v7 : ByteArray × Int := (U.takeR v1 b c y f g)
 let v8 : Int := (v4.fst)
 let v9 : Int × Int := (v4.snd)
 let v10 : ByteArray := (v7.fst)
 let v11 : Int := (v7.snd)
 let v12 : Bool := (Kd.eqb (Kd.sl link) v1 v1)
 let v13 : Int := (v9.fst)
 let v14 : Int := (v9.snd)
 let v15 : Bool := (!U.wordC (rget celk (rget link v1 b).fst c))
 let v16 : Int := ((↑(List.length (rget link v1 b).fst) : Int))
 let v17 : Int := (IntKind.wrap IntKind.i64 (v8 - (1 : Int)))
 let v18 : Bool := (decide (U.cells v1 ≤ (1048576 : Nat)))
 let v19 : Int := (IntKind.wrap IntKind.i64 (v13 + (1 : Int)))
 let v20 : Bool := (Kd.eqb (.int .i64) v8 v8)
 let v21 : Bool := (Kd.eqb Kd.str v10 v10)
 let v22 : Bool := (Kd.eqb (.int .i64) v11 v11)
 let v23 : Bool := (decide (c < v8))
 let v24 : Bool := (Kd.eqb (.int .i64) v14 v14)
 let v25 : Bool := (Kd.eqb (.int .i64) v13 v13)
 let v26 : Bool := (v2 && v18)
 let v27 : Bool := (decide (v13 < c))
 let v28 : Bool := (decide ((0 : Int) < v8))
 let v29 : Bool := (decide (v8 < (0 : Int)))
 let v30 : Bool := (decide (v10 = { data := #[] }))
 let v31 : Bool := (decide (v11 = (1 : Int)))
 let v32 : Bool := (!v31)
 let v33 : Bool := (!v30)
 let v34 : Bool := (U.wordC (rget celk (rget link v1 b).fst v17))
 let v35 : Bool := (!decide (v14 = (1 : Int)))
 let v36 : Bool := (!decide (v14 = (0 : Int)))
 let v37 : Bool := (!decide (v14 = (5 : Int)))
 let v38 : Bool := (v2 && (v18 && (v5 && v3)))
 let v39 : Bool := (!bif U.mayL v1 && decide (v6 ≤ (200 : Int)) then v5 else false)
 let v40 : Bool := (v21 && v22)
 let v41 : List Cell := (sub (rget link v1 b).fst (Int.toNat v8) (Int.toNat v19))
 let v42 : Bool := (List.all v41 U.wordC)
 let v43 : Int := ((↑(List.length v41) : Int))
 let v44 : Int := ((↑(List.length v41) : Int))
 let v45 : Bool := (decide (v16 ≤ v13))
 let v46 : Bool := (decide (v19 < v16))
 let v47 : Bool := (v12 && (Kd.eqb (.int .i64) b b && (Kd.eqb (.int .i64) c c && (Kd.eqb (.int .i64) y y && (Kd.eqb (.int .i64) f f && (Kd.eqb Kd.bool g g && v40))))))
 let v48 : Bool := (v12 && (Kd.eqb (.int .i64) b b && (Kd.eqb (.int .i64) c c && (Kd.eqb (.int .i64) y y && (Kd.eqb (.int .i64) f f && (Kd.eqb Kd.bool g g && (v21 && (v22 && (v20 && (v25 && Kd.eqb (Kd.sl celk) (rget link v1 b).fst (rget link v1 b).fst))))))))))
 let v49 : Bool := ((bif v37 then true else v47) && v47)
 let v50 : Bool := (v12 && (Kd.eqb (.int .i64) b b && (Kd.eqb (.int .i64) c c && (Kd.eqb (.int .i64) y y && (Kd.eqb (.int .i64) f f && (Kd.eqb Kd.bool g g && (v21 && (v22 && (v20 && (v25 && (v24 && Kd.eqb Kd.bool (bif U.mayL v1 && decide (v6 ≤ (200 : Int)) then v5 else false) (bif U.mayL v1 && decide (v6 ≤ (200 : Int)) then v5 else false))))))))))))
 let v51 : Bool := ((bif v46 then inB v19 (List.length (rget link v1 b).fst) else true) && v48)
 let v52 : Bool := (decide ((0 : Int) ≤ v8 ∧ v8 ≤ v19 ∧ v19 ≤ v16))
 let v53 : Bool := (decide (v44 = v43 ∧ (0 : Int) = (0 : Int) ∧ List.length v41 ≤ (1048576 : Nat)))
 let v54 : Bool := ((bif v36 then true else (bif v29 then true else (bif v23 then true else (bif v27 then true else (bif v45 then true else (bif v28 then inB v17 (List.length (rget link v1 b).fst) && ((bif v34 then true else v51) && v48) else v51) && v48) && v48) && v48) && v48) && v48) && v48)
 Tr.ite v26 (Tr.ite v26 (Tr.ite v2 (Tr.ite (v12 && (Kd.eqb (.int .i64) b b && (Kd.eqb (.int .i64) c c && (Kd.eqb (.int .i64) y y && (Kd.eqb (.int .i64) f f && (Kd.eqb Kd.bool g g && (v21 && (v22 && (v20 && (v25 && v24)))))))))) (Tr.ite ((bif false then true else (bif v39 then (bif v32 then true else (bif v35 then true else (bif v33 then true else v50) && v50) && v50) && v50 else true) && v50) && v50) (Tr.ite (bif false then true else bif v39 then bif v32 then true else bif v35 then true else bif v33 then true else bif !decide (v8 = (0 : Int)) then true else !decide (v13 = (0 : Int)) else false) (Tr.ret false) (Tr.ite v39 (Tr.ret true) (Tr.ite (inB b (List.length v1)) (Tr.ite (inB c (List.length (rget link v1 b).fst)) (Tr.ite ((bif v15 then v49 && !bif v37 then true else bif !decide (v8 = (0 : Int)) then true else !decide (v13 = (0 : Int)) else v54 && ((!bif v36 then true else bif v29 then true else bif v23 then true else bif v27 then true else bif v45 then true else bif v28 then bif v34 then true else bif v46 then U.wordC (rget celk (rget link v1 b).fst v19) else false else bif v46 then U.wordC (rget celk (rget link v1 b).fst v19) else false) && (v52 && (v53 && v42)))) && v47) (Tr.ite (!v3) (Tr.ret (bif v31 then v30 else false)) (Tr.ite v38 (Tr.ite ((bif g then v38 else true) && v40) (Tr.ret (bif decide (v11 = (0 : Int)) then decide (v10 = bif g then U.blockS v1 (Int.toNat (minI b y)) (Int.toNat (minI c f)) (Int.toNat (maxI b y)) (Int.toNat (maxI c f)) else U.takeB v1 b c y f) else false)) Tr.fail) Tr.fail)) (Tr.ite v15 (Tr.ite v49 (Tr.ite (bif v37 then true else bif !decide (v8 = (0 : Int)) then true else !decide (v13 = (0 : Int))) (Tr.ret false) Tr.fail) Tr.fail) (Tr.ite v54 (Tr.ite (bif v36 then true else bif v29 then true else bif v23 then true else bif v27 then true else bif v45 then true else bif v28 then bif v34 then true else bif v46 then U.wordC (rget celk (rget link v1 b).fst v19) else false else bif v46 then U.wordC (rget celk (rget link v1 b).fst v19) else false) (Tr.ret false) (Tr.ite v52 (Tr.ite v53 (Tr.ite v42 Tr.fail (Tr.ret false)) Tr.fail) Tr.fail)) Tr.fail))) Tr.fail) Tr.fail))) Tr.fail) Tr.fail) Tr.fail) Tr.fail) Tr.fail
def e14 (r : Bool) : FRes := { rs := Slot.av (AV.one (Leaf.dat Kd.bool r)), upd := [], new := [] }
@[reducible] def a14 : List AK := [AK.d (Kd.sl link), AK.d (.int .i64), AK.d (.int .i64), AK.d (.int .i64), AK.d (.int .i64), AK.d Kd.bool]
@[reducible] def b14 : List BK := []
theorem t14 (a : List Line) (b : Int) (c : Int) (y : Int) (f : Int) (g : Bool) : evFn (E14) Tryd.f14 [PM.data Kd.bool] (akAV a14 (a, b, c, y, f, g, ())) (bkBs b14 ()) = (d14 a b c y f g).map e14 := by kernel_rfl
def s14' (G : akT a14 → Bool) : FSpec := aspec0 a14 b14 e14 (fun x _ => G x)
theorem k14' {G : akT a14 → Bool} (hd : ∀ (a : List Line) (b : Int) (c : Int) (y : Int) (f : Int) (g : Bool), (d14 a b c y f g).val = some (G (a, b, c, y, f, g, ()))) (IO : ItOK Tryd.prog (E14) := by exact itOK_none rfl) (L : ∀ c, Tryd.f14.body = some c → LsOK (evI 2) ((E14).lend 0) c := by exact fun c _ => LsOK_none rfl c) : SpecOK Tryd.prog E0 14 (s14' G) :=
  aspec0_ok (ak := a14) (bl := b14) (e := e14) (g := fun x _ => G x) (E0 := E0) (E := E14) tab AG14 rfl rfl hm Tryd.func14 (by kernel_rfl) [PM.data Kd.bool] (fun X Y => by obtain ⟨a, ⟨b, ⟨c, ⟨y, ⟨f, ⟨g, _⟩⟩⟩⟩⟩⟩ := X; exact val_of (t14 a b c y f g) (hd a b c y f g)) IO L
end Go.Proofs.YtmnbcnhpklejcaaDoor
namespace U
open Go.Proofs.YtmnbcnhpklejcaaDoor
theorem takeR_no {l : List Ln} {a b c d : Int} {g : Bool} (h : (!U.may l || (!there l a b || !there l c d)) = true) : takeR l a b c d g = (ByteArray.empty, 1) := by
  unfold takeR; rw [h]; rfl
theorem takeR_yes {l : List Ln} {a b c d : Int} {g : Bool} (h1 : U.may l = true) (h2 : there l a b = true) (h3 : there l c d = true) :
    takeR l a b c d g = (bif g then blockS l (minI a c).toNat (minI b d).toNat (maxI a c).toNat (maxI b d).toNat else takeB l a b c d, 0) := by
  unfold takeR takeB; rw [h1, h2, h3]
  cases g
  · cases behind a b c d <;> rfl
  · rfl
theorem wordR_no {l : List Ln} {a b : Int} (h : (!U.may l || !there l a b) = true) : wordR l a b = (0, 0, 1) := by
  unfold wordR; rw [h]; rfl
theorem wordR_yes {l : List Ln} {r c : Nat} (h1 : U.may l = true) (h2 : there l (r : Int) (c : Int) = true) (hc : c < (l.getD r dL).1.length) (hw : wordC ((l.getD r dL).1.getD c dC) = true) :
    ∃ p q : Nat, wordR l r c = ((p : Int), (q : Int), 0) ∧ p ≤ c ∧ c ≤ q ∧ q < (l.getD r dL).1.length ∧ (0 < p → wordC ((l.getD r dL).1.getD (p - 1) dC) = false) ∧
      (q + 1 < (l.getD r dL).1.length → wordC ((l.getD r dL).1.getD (q + 1) dC) = false) ∧ (((l.getD r dL).1.take (q + 1)).drop p).all wordC = true := by
  obtain ⟨a1, a2, a3⟩ := wl_is (l.getD r dL).1 c
  obtain ⟨b1, b2, b3, b4⟩ := wr_is (l.getD r dL).1 (l.getD r dL).1.length c hc (by omega)
  refine ⟨_, _, ?_, a1, b1, b2, a2, b3, ?_⟩
  · unfold wordR
    rw [h1, h2]
    simp only [Int.toNat_natCast, hw]
    rfl
  · rw [List.all_eq_true]
    intro x hx
    obtain ⟨i, hi, rfl⟩ := List.mem_iff_getElem.1 hx
    rw [List.length_drop, List.length_take] at hi
    rw [List.getElem_drop, List.getElem_take]
    rw [← getD_el (d := dC) (by omega)]
    rcases Nat.lt_trichotomy (wl (l.getD r dL).1 c + i) c with e | e | e
    · exact a3 _ (by omega) e
    · rw [e]; exact hw
    · exact b4 _ e (by omega)
end U
namespace Go.Proofs.YtmnbcnhpklejcaaDoor
theorem law14 (a : List Line) (b c y f : Int) (g : Bool) : (d14 a b c y f g).val = some true := by
  have k1 := U.few_ok a (n := 30) (by omega)
  have k2 : decide (U.cells (U.few a 30) ≤ 1048576) = true := decide_eq_true (by have := U.cells_few a 30; omega)
  have e0 : (⟨#[]⟩ : ByteArray) = ByteArray.empty := rfl
  simp only [d14, Tr.val, k1, k2, eqb_self, Bool.and_self, Bool.cond_self, Bool.true_and, Bool.and_true, cond_true, cond_false, ← U.may_mayL]
  generalize U.few a 30 = l at *
  cases h1 : U.may l with
  | false =>
    rw [U.wordR_no (by rw [h1]; rfl), U.takeR_no (by rw [h1]; rfl)]
    simp [e0]
  | true =>
    cases h2 : U.there l b c with
    | false =>
      rw [U.wordR_no (by rw [h1, h2]; rfl), U.takeR_no (by rw [h1, h2]; rfl)]
      simp [e0]
    | true =>
      have hl := U.okl_len k1
      obtain ⟨r, q, rfl, rfl, q1, q2⟩ := U.there_nat h2
      have m1 := U.okc_len (U.okl_at k1 q1)
      have m1 : (l.getD r U.dL).1.length ≤ 1048576 := m1
      have er : rget link l (r : Int) = l.getD r U.dL := rgetL l r
      have ec : ∀ i : Nat, rget celk (l.getD r U.dL).1 (i : Int) = (l.getD r U.dL).1.getD i U.dC := rgetC _
      have hi : inB (r : Int) l.length = true := inB_nat q1
      have hj : inB (q : Int) (l.getD r U.dL).1.length = true := inB_nat q2
      have last : (Tr.ite (!U.there l y f) (Tr.ret (bif decide ((U.takeR l r q y f g).2 = (1 : Int)) then decide ((U.takeR l r q y f g).1 = { data := #[] }) else false))
          (Tr.ite (U.there l y f) (Tr.ite (bif g then U.there l y f else true) (Tr.ret (bif decide ((U.takeR l r q y f g).2 = (0 : Int)) then
            decide ((U.takeR l r q y f g).1 = bif g then U.blockS l (Int.toNat (minI r y)) (Int.toNat (minI q f)) (Int.toNat (maxI r y)) (Int.toNat (maxI q f)) else U.takeB l r q y f) else false)) Tr.fail) Tr.fail)).val = some true := by
        cases h3 : U.there l y f with
        | false =>
          rw [U.takeR_no (by rw [h1, h2, h3]; rfl)]
          simp [Tr.val, e0]
        | true =>
          rw [U.takeR_yes h1 h2 h3]
          cases g <;> simp [Tr.val]
      simp only [Tr.val] at last
      simp only [er, ec, hi, hj, cond_true, cond_false, Bool.not_true, Bool.not_false, Bool.true_and, Bool.and_true]
      cases h3 : U.wordC ((l.getD r U.dL).1.getD q U.dC) with
      | false =>
        have hw : U.wordR l (r : Int) (q : Int) = (0, 0, 5) := by
          unfold U.wordR
          rw [h1, h2]
          simp only [Int.toNat_natCast, h3]
          rfl
        rw [hw]
        simp only [decide_true, Bool.not_true, Bool.not_false, cond_true, cond_false, Bool.true_and, Bool.and_true, Bool.false_or]
        exact last
      | true =>
        obtain ⟨p, t, hw, z1, z2, z3, z4, z5, z6⟩ := U.wordR_yes h1 h2 q2 h3
        rw [hw]
        have y1 : IntKind.wrap IntKind.i64 ((t : Int) + 1) = ((t + 1 : Nat) : Int) := wrap64_nat (show t ≤ 1048576 by omega)
        have y2 : (decide ((p : Int) < 0)) = false := decide_eq_false (by omega)
        have y3 : (decide ((q : Int) < (p : Int))) = false := decide_eq_false (by omega)
        have y4 : (decide ((t : Int) < (q : Int))) = false := decide_eq_false (by omega)
        have y5 : (decide (((l.getD r U.dL).1.length : Int) ≤ (t : Int))) = false := decide_eq_false (by omega)
        have y6 : sub (l.getD r U.dL).1 p (t + 1) = ((l.getD r U.dL).1.take (t + 1)).drop p := rfl
        have y7 : decide (0 ≤ (p : Int) ∧ (p : Int) ≤ ((t + 1 : Nat) : Int) ∧ ((t + 1 : Nat) : Int) ≤ ((l.getD r U.dL).1.length : Int)) = true := decide_eq_true (by omega)
        have y8 : decide ((((((l.getD r U.dL).1.take (t + 1)).drop p).length : Nat) : Int) = ((((l.getD r U.dL).1.take (t + 1)).drop p).length : Int) ∧ (0 : Int) = 0 ∧ (((l.getD r U.dL).1.take (t + 1)).drop p).length ≤ 1048576) = true :=
          decide_eq_true ⟨rfl, rfl, by rw [List.length_drop, List.length_take]; omega⟩
        simp only [y1, y2, y3, y4, y5, ec, Int.toNat_natCast, y6, y7, y8, z6, decide_true, Bool.not_true, Bool.not_false, cond_true, cond_false, Bool.true_and, Bool.and_true]
        have y9 : decide (True ∧ True ∧ (((l.getD r U.dL).1.take (t + 1)).drop p).length ≤ 1048576) = true := decide_eq_true ⟨trivial, trivial, by rw [List.length_drop, List.length_take]; omega⟩
        have x1 : (bif decide (((t + 1 : Nat) : Int) < ((l.getD r U.dL).1.length : Int)) then inB ((t + 1 : Nat) : Int) (l.getD r U.dL).1.length else true) = true := by
          cases hq : decide (((t + 1 : Nat) : Int) < ((l.getD r U.dL).1.length : Int)) with
          | false => rfl
          | true => exact inB_nat (by have := of_decide_eq_true hq; omega)
        have x2 : (bif decide (((t + 1 : Nat) : Int) < ((l.getD r U.dL).1.length : Int)) then U.wordC ((l.getD r U.dL).1.getD (t + 1) U.dC) else false) = false := by
          cases hq : decide (((t + 1 : Nat) : Int) < ((l.getD r U.dL).1.length : Int)) with
          | false => rfl
          | true => exact z5 (by have := of_decide_eq_true hq; omega)
        simp only [x1, x2, y9]
        by_cases hp : 0 < p
        · have y10 : IntKind.wrap IntKind.i64 ((p : Int) - 1) = ((p - 1 : Nat) : Int) := by rw [Go.Ev.w64 (by omega) (by omega)]; omega
          have y11 : decide ((0 : Int) < (p : Int)) = true := decide_eq_true (by omega)
          have y12 : inB ((p - 1 : Nat) : Int) (l.getD r U.dL).1.length = true := inB_nat (by omega)
          simp only [y10, y11, y12, ec, z4 hp, Bool.and_self, Bool.not_false, cond_true, cond_false]
          exact last
        · have y11 : decide ((0 : Int) < (p : Int)) = false := decide_eq_false (by omega)
          simp only [y11, Bool.and_self, Bool.not_false, cond_true, cond_false]
          exact last
abbrev w14 : FSpec := s14' fun _ => true
theorem wk14 : SpecOK Tryd.prog E0 14 w14 := k14' (fun a b c y f g => law14 a b c y f g) (L := ls_ok (lcs := [lc Tryd.f14 0]) (rgs := []) (by kernel_rfl) (by kernel_rfl) L14_0 trivial)
end Go.Proofs.YtmnbcnhpklejcaaDoor
end
