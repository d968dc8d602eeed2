/- Cells, lines: whether they may be. -/
import Derived.Test.YtmnbcnhpklejcaaDoorZEvAuto
import Derived.Test.YtmnbcnhpklejcaaDoorZEvUtf5
set_option linter.unusedVariables false
set_option linter.unusedSimpArgs false
set_option maxRecDepth 20000
open Go Go.Ev
namespace Go.Proofs.YtmnbcnhpklejcaaDoor
open Go.RowKit
abbrev Attr := Int × Int × Int × Unit
abbrev Cell := ByteArray × Int × Attr × Unit
abbrev Line := List Cell × Bool × Unit

theorem wk139 : SpecOK Tryd.prog E0 139 w139 := by
  refine dspec_ok (E0 := E0) (E := E139) (fns := F6) tab A6 rfl rfl hm Tryd.func139 (by kernel_rfl) [.data (.int .i32), .data (.int .i64), .data (.int .i64)] (fun x hx => ?_)
  obtain ⟨s, z⟩ := x
  exact v139 s
abbrev G0 : List (Nat × FSpec) := [(139, w139), (140, w140), (138, w138), (94, w94)]
theorem AG0 : AllFn Tryd.prog E0 G0 := .cons wk139 (.cons wk140 (.cons wk138 (.cons wk94 .nil)))

def live141 (key : Nat) : Lv :=
  bif Nat.beq key 2 then { ls := [0, 3] } else bif Nat.beq key 1002 then { ls := [2, 3] } else
  { ls := [] }
abbrev M141 (ls : Nat → VS → Option (Tr (Ex × VS))) : Env := (E0.withFns G0).loops live141 ls
@[reducible] def p141_0 : LP := { n := 28, sl := [.d (Kd.str), .d (.int .i64)], bl := [] }
def B141_0 (x0 : ByteArray) (x1 : Int) : Tr (p141_0.T ⊕ (Int × Int ⊕ Int)) :=
  let v1 : Int := (U.first x0).fst
  let v2 : Int := (U.first x0).snd.snd
  let v3 : Int := (U.first x0).snd.fst
  Tr.ite (!decide (x0 = { data := #[] }))
    (Tr.ite (decide (x0.size ≤ (1048576 : Nat)))
      (Tr.ite (!decide (v2 = (0 : Int))) (Tr.ret (Sum.inr (Sum.inl ((-1 : Int), x1))))
        (Tr.ite (!decide (U.width v1 = (0 : Int))) (Tr.ret (Sum.inr (Sum.inl ((-1 : Int), x1))))
          (Tr.ite (decide ((0 : Int) ≤ v3 ∧ v3 ≤ (↑x0.size : Int))) (Tr.ret (Sum.inl ((x0.extract v3.toNat x0.size, IntKind.i64.wrap (x1 + (1 : Int)), ()), ()))) Tr.fail)))
      Tr.fail)
    (Tr.ret (Sum.inr (Sum.inr x1)))
def X141_0 : (Int × Int ⊕ Int) → Ex × VS
  | (.inl r) => Prod.mk Ex.ret { n := 28, v := [Slot.av (AV.one (Leaf.dat (.int .i64) r.fst)), Slot.av (AV.one (Leaf.dat (.int .i64) r.snd))], h := [] }
  | (.inr r) => Prod.mk (Ex.exit ( 0)) { n := 28, v := [Slot.av (AV.one Leaf.undef), Slot.av (AV.one (Leaf.dat (.int .i64) r))], h := [] }
def b141_0 : p141_0.T → Tr (p141_0.T ⊕ (Int × Int ⊕ Int)) := fun ⟨⟨x0, ⟨x1, _⟩⟩, _⟩ => B141_0 x0 x1
theorem h141_0 (ls : Nat → VS → Option (Tr (Ex × VS))) (x : p141_0.T) : (evC (evI 2) (lc Tryd.f141 0) (Env.lend (M141 ls) 0) (unV (live141 2) (p141_0.V x))).map (decL 0 (live141 2) (live141 1002)) = (b141_0 x).map (encR p141_0.V X141_0) := by
  obtain ⟨⟨x0, ⟨x1, _⟩⟩, _⟩ := x; kernel_rfl
theorem c141_0 (x : p141_0.T) : canV 0 (live141 2) (unV (live141 2) (p141_0.V x)) = p141_0.V x := by
  obtain ⟨⟨x0, ⟨x1, _⟩⟩, _⟩ := x; kernel_rfl
theorem l141_0 {T : p141_0.T → Tr (Int × Int ⊕ Int)} {ls : Nat → VS → Option (Tr (Ex × VS))} (hls : ∀ x, (Env.lend (M141 ls) 0).ls 2 x = p141_0.ls (fun a => (T a).map X141_0) x) (hS : ∀ x r, (T x).val = some r → Rounds b141_0 x r) : LoopOK (evI 2) (Env.lend (M141 ls) 0) (lc Tryd.f141 0) :=
  loopA 2 (live141 2) (live141 1002) p141_0 b141_0 X141_0 T (by kernel_rfl) rfl rfl hls (h141_0 ls) c141_0 hS
end Go.Proofs.YtmnbcnhpklejcaaDoor
namespace U
open Go Go.Ev
/-- How many marks a text is; else it is something else. -/
def marksL : Nat → ByteArray → Int → Int × Int ⊕ Int
  | 0, _, n => .inr n
  | k + 1, s, n => if s.size = 0 then .inr n else if (first s).2.2 = 0 ∧ width (first s).1 = 0 then marksL k (s.extract (first s).2.1.toNat s.size) (n + 1) else .inl (-1, n)
def marks (s : ByteArray) : Int := match marksL s.size s 0 with
  | .inr n => n
  | .inl r => r.1
def cellR (c : ByteArray × Int × (Int × Int × Int × Unit) × Unit) : Bool :=
  if c.1.size = 0 then look c.2.2.1 && inn c.2.1 0 1 else
  if (first c.1).2.2 = 0 ∧ inn c.2.1 1 2 = true ∧ width (first c.1).1 = c.2.1 then look c.2.2.1 && inn (marks (c.1.extract (first c.1).2.1.toNat c.1.size)) 0 2 else false
theorem first_ok {s : ByteArray} (h : (first s).2.2 = 0) : 1 ≤ (first s).2.1 ∧ (first s).2.1 ≤ (s.size : Int) := by
  unfold first at h ⊢
  cases hf : full s with
  | false => rw [hf] at h; simp at h
  | true =>
    rw [hf] at h
    cases hl : isL s with
    | false => rw [hl] at h; simp at h
    | true =>
      simp only [Bool.not_true, cond_false, cond_true]
      unfold full at hf
      unfold isL at hl
      have hN := need_cases (bt s 0)
      unfold dec at hl ⊢
      by_cases c0 : s.size = 0
      · simp [c0] at hf
      by_cases c1 : need (bt s 0) = 0
      · simp [c0, c1] at hl
      by_cases c2 : need (bt s 0) = 1
      · simp only [c0, c2, decide_true, decide_false, cond_true, cond_false, show ¬ (1 : Int) = 0 by omega]
        omega
      by_cases c3 : (s.size : Int) < need (bt s 0)
      · simp [c0, c1, c2, c3] at hl
      cases ho : ok1 s with
      | false => simp [c0, c1, c2, c3, ho] at hl
      | true =>
        by_cases c4 : need (bt s 0) = 2
        · have h9 : ¬ ((s.size : Int) < 2) := by omega
          simp [c0, c4, ho, h9]
          omega
        cases h1 : cont (bt s 2) with
        | false => simp [c0, c1, c2, c3, c4, ho, h1] at hl
        | true =>
          by_cases c5 : need (bt s 0) = 3
          · have h9 : ¬ ((s.size : Int) < 3) := by omega
            simp [c0, c5, ho, h1, h9]
            omega
          cases h2 : cont (bt s 3) with
          | false => simp [c0, c1, c2, c3, c4, c5, ho, h1, h2] at hl
          | true =>
            simp only [c0, c1, c2, c3, c4, c5, ho, h1, h2, decide_true, decide_false, cond_true, cond_false, Bool.not_true]
            omega
end U
namespace Go.Proofs.YtmnbcnhpklejcaaDoor
open Go Go.Ev Go.RowKit
def T141 (x : p141_0.T) : Tr (Int × Int ⊕ Int) := .ite (decide (ByteArray.size x.1.1 ≤ 1048576 ∧ x.1.2.1 = 0)) (.spl (U.marksL (ByteArray.size x.1.1) x.1.1 0) (0, 0) 0) .fail
abbrev E141 : Env := M141 fun key x => bif Nat.beq key 2 then p141_0.ls (fun a => (T141 a).map X141_0) x else none
theorem r141 : ∀ (k : Nat) (s : ByteArray) (n : Nat), s.size ≤ k → n + k ≤ 1048576 → Rounds b141_0 ((s, (n : Int), ()), ()) (U.marksL k s n)
  | 0, s, n, h1, h2 => by
    refine .exit ?_
    have := ba_nil (s := s) (by omega)
    subst this
    rfl
  | k + 1, s, n, h1, h2 => by
    by_cases h0 : s.size = 0
    · refine .exit ?_
      have := ba_nil (s := s) (by omega)
      subst this
      rfl
    · have hne := ba_ne h0
      have hsz : s.size ≤ 1048576 := by omega
      simp only [U.marksL, h0, if_false]
      by_cases h3 : (U.first s).2.2 = 0
      · by_cases h4 : U.width (U.first s).1 = 0
        · obtain ⟨a, b⟩ := U.first_ok h3
          rw [if_pos ⟨h3, h4⟩]
          refine .step (y := ((s.extract (U.first s).2.1.toNat s.size, ((n + 1 : Nat) : Int), ()), ())) ?_ ?_
          · have hb : (0 : Int) ≤ (U.first s).2.1 ∧ (U.first s).2.1 ≤ (s.size : Int) := ⟨by omega, b⟩
            simp only [b141_0, B141_0, Tr.val, h3, h4, hne, hsz, hb, decide_true, decide_false, Bool.not_false, Bool.not_true, cond_true, cond_false, wrap64_nat (show n ≤ 1048576 by omega), and_self]
          · refine r141 k _ (n + 1) ?_ (by omega)
            rw [← bl_len, bl_ext, List.length_drop, List.length_take, bl_len]
            omega
        · rw [if_neg (fun h => h4 h.2)]
          refine .exit ?_
          simp only [b141_0, B141_0, Tr.val, h3, h4, hne, hsz, decide_true, decide_false, Bool.not_false, Bool.not_true, cond_true, cond_false]
      · rw [if_neg (fun h => h3 h.1)]
        refine .exit ?_
        simp only [b141_0, B141_0, Tr.val, h3, hne, hsz, decide_true, decide_false, Bool.not_false, Bool.not_true, cond_true, cond_false]
theorem L141 : LoopOK (evI 2) (E141.lend 0) (lc Tryd.f141 0) := by
  refine l141_0 (T := T141) (fun x => rfl) ?_
  rintro ⟨⟨s, n, z⟩, z'⟩ r h
  obtain ⟨h1, h2⟩ := pre_val h
  rw [Tr.val_spl] at h2
  cases h2
  have h1 := of_decide_eq_true h1
  have h3 : n = (0 : Int) := h1.2
  subst h3
  exact r141 _ s 0 (Nat.le_refl _) (by have := h1.1; dsimp at this; omega)
def d141 (a : ByteArray) : Tr (Int) :=
  Tr.ite (decide (a.size ≤ (1048576 : Nat) ∧ (0 : Int) = (0 : Int)))
    (Tr.ite (U.marksL a.size a (0 : Int)).isLeft (Tr.ret ((U.marksL a.size a (0 : Int)).getLeft?.getD ((0 : Int), (0 : Int))).fst) (Tr.ret ((U.marksL a.size a (0 : Int)).getRight?.getD (0 : Int))))
    Tr.fail
def e141 (r : Int) : FRes := { rs := Slot.av (AV.one (Leaf.dat (.int .i64) r)), upd := [], new := [] }
@[reducible] def a141 : List AK := [AK.d Kd.str]
@[reducible] def b141 : List BK := []
theorem t141 (a : ByteArray) : evFn (E141) Tryd.f141 [PM.data (.int .i64)] (akAV a141 (a, ())) (bkBs b141 ()) = (d141 a).map e141 := by kernel_rfl
def s141 (C : akT a141 → Bool) (G : akT a141 → Int) : FSpec := aspec a141 b141 e141 (fun x _ => C x) (fun x _ => G x)
def s141' (G : akT a141 → Int) : FSpec := aspec0 a141 b141 e141 (fun x _ => G x)
theorem k141 {C : akT a141 → Bool} {G : akT a141 → Int} (hd : ∀ (a : ByteArray), C (a, ()) = true → (d141 a).val = some (G (a, ()))) (IO : ItOK Tryd.prog (E141) := by exact itOK_none rfl) (L : ∀ c, Tryd.f141.body = some c → LsOK (evI 2) ((E141).lend 0) c := by exact fun c _ => LsOK_none rfl c) : SpecOK Tryd.prog E0 141 (s141 C G) :=
  aspec_ok (E := E141) tab AG0 rfl rfl hm Tryd.func141 (by kernel_rfl) [PM.data (.int .i64)] (fun X Y H => by obtain ⟨a, _⟩ := X; exact val_of (t141 a) (hd a H)) IO L
theorem k141' {G : akT a141 → Int} (hd : ∀ (a : ByteArray), (d141 a).val = some (G (a, ()))) (IO : ItOK Tryd.prog (E141) := by exact itOK_none rfl) (L : ∀ c, Tryd.f141.body = some c → LsOK (evI 2) ((E141).lend 0) c := by exact fun c _ => LsOK_none rfl c) : SpecOK Tryd.prog E0 141 (s141' G) :=
  aspec0_ok (E := E141) tab AG0 rfl rfl hm Tryd.func141 (by kernel_rfl) [PM.data (.int .i64)] (fun X Y => by obtain ⟨a, _⟩ := X; exact val_of (t141 a) (hd a)) IO L
theorem wk141 : SpecOK Tryd.prog E0 141 (s141 (fun x => decide (ByteArray.size x.1 ≤ 1048576)) fun x => U.marks x.1) := by
  refine k141 (fun a h => ?_) (L := ls_ok (lcs := [lc Tryd.f141 0]) (rgs := []) (by kernel_rfl) (by kernel_rfl) L141 trivial)
  have h' : a.size ≤ 1048576 := of_decide_eq_true h
  simp only [d141, Tr.val, h', decide_true, cond_true, and_self]
  show _ = some (U.marks a)
  unfold U.marks
  cases hm : U.marksL a.size a 0 <;> rfl
abbrev G1 : List (Nat × FSpec) := (141, s141 (fun x => decide (ByteArray.size x.1 ≤ 1048576)) fun x => U.marks x.1) :: G0
theorem AG1 : AllFn Tryd.prog E0 G1 := .cons wk141 AG0
abbrev E89 : Env := E0.withFns G1
def d89 (a1 : ByteArray) (a2 : Int) (a31 : Int) (a32 : Int) (a33 : Int) : Tr (Bool) :=
  let v1 : Int := (U.first a1).fst
  let v2 : Int := (U.first a1).snd.snd
  let v3 : Int := (U.first a1).snd.fst
  let v4 : ByteArray := a1.extract v3.toNat a1.size
  Tr.ite (decide (a1 = { data := #[] })) (Tr.ite (U.look (a31, a32, a33, ())) (Tr.ret (U.inn a2 (0 : Int) (1 : Int))) (Tr.ret false))
    (Tr.ite (decide (a1.size ≤ (1048576 : Nat)))
      (Tr.ite (!decide (v2 = (0 : Int))) (Tr.ret false)
        (Tr.ite (!U.inn a2 (1 : Int) (2 : Int)) (Tr.ret false)
          (Tr.ite (!decide (U.width v1 = a2)) (Tr.ret false)
            (Tr.ite (U.look (a31, a32, a33, ()))
              (Tr.ite (decide ((0 : Int) ≤ v3 ∧ v3 ≤ (↑a1.size : Int))) (Tr.ite (decide (v4.size ≤ (1048576 : Nat))) (Tr.ret (U.inn (U.marks v4) (0 : Int) (2 : Int))) Tr.fail) Tr.fail)
              (Tr.ret false)))))
      Tr.fail)
def e89 (r : Bool) : FRes := { rs := Slot.av (AV.one (Leaf.dat Kd.bool r)), upd := [], new := [] }
@[reducible] def a89 : List AK := [AK.d celk]
@[reducible] def b89 : List BK := []
theorem t89 (a1 : ByteArray) (a2 : Int) (a31 : Int) (a32 : Int) (a33 : Int) : evFn (E89) Tryd.f89 [PM.data Kd.bool] (akAV a89 ((a1, a2, (a31, a32, a33, ()), ()), ())) (bkBs b89 ()) = (d89 a1 a2 a31 a32 a33).map e89 := by kernel_rfl
def s89 (C : akT a89 → Bool) (G : akT a89 → Bool) : FSpec := aspec a89 b89 e89 (fun x _ => C x) (fun x _ => G x)
def s89' (G : akT a89 → Bool) : FSpec := aspec0 a89 b89 e89 (fun x _ => G x)
theorem k89 {C : akT a89 → Bool} {G : akT a89 → Bool} (hd : ∀ (a1 : ByteArray) (a2 : Int) (a31 : Int) (a32 : Int) (a33 : Int), C ((a1, a2, (a31, a32, a33, ()), ()), ()) = true → (d89 a1 a2 a31 a32 a33).val = some (G ((a1, a2, (a31, a32, a33, ()), ()), ()))) (IO : ItOK Tryd.prog (E89) := by exact itOK_none rfl) (L : ∀ c, Tryd.f89.body = some c → LsOK (evI 2) ((E89).lend 0) c := by exact fun c _ => LsOK_none rfl c) : SpecOK Tryd.prog E0 89 (s89 C G) :=
  aspec_ok (E := E89) tab AG1 rfl rfl hm Tryd.func89 (by kernel_rfl) [PM.data Kd.bool] (fun X Y H => by obtain ⟨⟨a1, ⟨a2, ⟨⟨a31, ⟨a32, ⟨a33, _⟩⟩⟩, _⟩⟩⟩, _⟩ := X; exact val_of (t89 a1 a2 a31 a32 a33) (hd a1 a2 a31 a32 a33 H)) IO L
theorem k89' {G : akT a89 → Bool} (hd : ∀ (a1 : ByteArray) (a2 : Int) (a31 : Int) (a32 : Int) (a33 : Int), (d89 a1 a2 a31 a32 a33).val = some (G ((a1, a2, (a31, a32, a33, ()), ()), ()))) (IO : ItOK Tryd.prog (E89) := by exact itOK_none rfl) (L : ∀ c, Tryd.f89.body = some c → LsOK (evI 2) ((E89).lend 0) c := by exact fun c _ => LsOK_none rfl c) : SpecOK Tryd.prog E0 89 (s89' G) :=
  aspec0_ok (E := E89) tab AG1 rfl rfl hm Tryd.func89 (by kernel_rfl) [PM.data Kd.bool] (fun X Y => by obtain ⟨⟨a1, ⟨a2, ⟨⟨a31, ⟨a32, ⟨a33, _⟩⟩⟩, _⟩⟩⟩, _⟩ := X; exact val_of (t89 a1 a2 a31 a32 a33) (hd a1 a2 a31 a32 a33)) IO L
theorem wk89 : SpecOK Tryd.prog E0 89 (s89 (fun x => decide (ByteArray.size x.1.1 ≤ 1048576)) fun x => U.cellR x.1) := by
  refine k89 fun s w f g h H => ?_
  have H' : s.size ≤ 1048576 := of_decide_eq_true H
  show _ = some (U.cellR (s, w, (f, g, h, ()), ()))
  unfold U.cellR d89
  by_cases h0 : s.size = 0
  · have := ba_nil h0
    subst this
    cases h1 : U.look (f, g, h, ()) <;> simp only [Tr.val, h1, h0, decide_true, cond_true, cond_false, if_true, Bool.true_and, Bool.false_and]
  · have h1 := ba_ne h0
    by_cases h2 : (U.first s).2.2 = 0
    · obtain ⟨a, b⟩ := U.first_ok h2
      have hb : (0 : Int) ≤ (U.first s).2.1 ∧ (U.first s).2.1 ≤ (s.size : Int) := ⟨by omega, b⟩
      have hs : (s.extract (U.first s).2.1.toNat s.size).size ≤ 1048576 := by
        rw [← bl_len, bl_ext, List.length_drop, List.length_take, bl_len]
        omega
      cases h3 : U.inn w 1 2 <;> by_cases h4 : U.width (U.first s).1 = w <;> cases h5 : U.look (f, g, h, ()) <;>
        simp only [Tr.val, h0, h1, h2, h3, h4, h5, hb, hs, H', decide_true, decide_false, cond_true, cond_false, Bool.not_true, Bool.not_false, if_true, if_false, and_self, and_true, true_and, and_false, false_and, Bool.true_and, Bool.false_and, reduceCtorEq]
    · simp only [Tr.val, h0, h1, h2, H', decide_true, decide_false, cond_true, cond_false, Bool.not_false, if_false, false_and]
def d87 (a : List Cell) (b : Int) : Tr (Bool) :=
  let v1 : Int := (↑a.length : Int)
  let v2 : Int := b + (1 : Int)
  let v3 : Int := b - (1 : Int)
  Tr.ite (inB b a.length)
    (Tr.ite (decide ((rget celk a b).snd.fst = (2 : Int)))
      (Tr.ite (decide (IntKind.i64.wrap v2 < v1)) (Tr.ite (inB (IntKind.i64.wrap v2) a.length) (Tr.ret (decide ((rget celk a (IntKind.i64.wrap v2)).snd.fst = (0 : Int)))) Tr.fail) (Tr.ret false))
      (Tr.ite (decide ((rget celk a b).snd.fst = (0 : Int)))
        (Tr.ite (decide ((0 : Int) < b)) (Tr.ite (inB (IntKind.i64.wrap v3) a.length) (Tr.ret (decide ((rget celk a (IntKind.i64.wrap v3)).snd.fst = (2 : Int)))) Tr.fail) (Tr.ret false)) (Tr.ret true)))
    Tr.fail
def e87 (r : Bool) : FRes := { rs := Slot.av (AV.one (Leaf.dat Kd.bool r)), upd := [], new := [] }
@[reducible] def a87 : List AK := [AK.d celk.sl, AK.d (.int .i64)]
@[reducible] def b87 : List BK := []
theorem t87 (a : List Cell) (b : Int) : evFn (E0) Tryd.f87 [PM.data Kd.bool] (akAV a87 (a, b, ())) (bkBs b87 ()) = (d87 a b).map e87 := by kernel_rfl
def s87 (C : akT a87 → Bool) (G : akT a87 → Bool) : FSpec := aspec a87 b87 e87 (fun x _ => C x) (fun x _ => G x)
def s87' (G : akT a87 → Bool) : FSpec := aspec0 a87 b87 e87 (fun x _ => G x)
theorem k87 {C : akT a87 → Bool} {G : akT a87 → Bool} (hd : ∀ (a : List Cell) (b : Int), C (a, b, ()) = true → (d87 a b).val = some (G (a, b, ()))) (IO : ItOK Tryd.prog (E0) := by exact itOK_none rfl) (L : ∀ c, Tryd.f87.body = some c → LsOK (evI 2) ((E0).lend 0) c := by exact fun c _ => LsOK_none rfl c) : SpecOK Tryd.prog E0 87 (s87 C G) :=
  aspec_ok (E := E0) tab .nil rfl rfl hm Tryd.func87 (by kernel_rfl) [PM.data Kd.bool] (fun X Y H => by obtain ⟨a, ⟨b, _⟩⟩ := X; exact val_of (t87 a b) (hd a b H)) IO L
theorem k87' {G : akT a87 → Bool} (hd : ∀ (a : List Cell) (b : Int), (d87 a b).val = some (G (a, b, ()))) (IO : ItOK Tryd.prog (E0) := by exact itOK_none rfl) (L : ∀ c, Tryd.f87.body = some c → LsOK (evI 2) ((E0).lend 0) c := by exact fun c _ => LsOK_none rfl c) : SpecOK Tryd.prog E0 87 (s87' G) :=
  aspec0_ok (E := E0) tab .nil rfl rfl hm Tryd.func87 (by kernel_rfl) [PM.data Kd.bool] (fun X Y => by obtain ⟨a, ⟨b, _⟩⟩ := X; exact val_of (t87 a b) (hd a b)) IO L
end Go.Proofs.YtmnbcnhpklejcaaDoor
namespace U
open Go Go.Ev
abbrev Cl := ByteArray × Int × (Int × Int × Int × Unit) × Unit
def dC : Cl := (ByteArray.empty, 0, (0, 0, 0, ()), ())
def cw (l : List Cl) (i : Nat) : Int := (l.getD i dC).2.1
/-- Has the cell of a place its other half, if it needs one? -/
def whole (l : List Cl) (i : Nat) : Bool :=
  if cw l i = 2 then decide (i + 1 < l.length) && decide (cw l (i + 1) = 0) else
  if cw l i = 0 then decide (0 < i) && decide (cw l (i - 1) = 2) else true
end U
namespace Go.Proofs.YtmnbcnhpklejcaaDoor
open Go Go.Ev Go.RowKit
theorem cw_eq (l : List Cell) (i : Nat) : (rget celk l (i : Int)).2.1 = U.cw l i := by rw [rget_nat]; rfl
theorem wk87 : SpecOK Tryd.prog E0 87 (s87 (fun x => decide (0 ≤ (x.2.1 : Int) ∧ (x.2.1 : Int) < (List.length (α := Cell) x.1 : Int) ∧ List.length (α := Cell) x.1 ≤ 1048576)) fun x => U.whole x.1 x.2.1.toNat) := by
  refine k87 fun l i H => ?_
  obtain ⟨h0, h1, h2⟩ := of_decide_eq_true H
  dsimp only at h0 h1 h2
  obtain ⟨n, rfl⟩ := Int.eq_ofNat_of_zero_le h0
  show _ = some (U.whole l n)
  have hn : n < l.length := Int.ofNat_lt.1 h1
  have w1 : IntKind.i64.wrap ((n : Int) + 1) = ((n + 1 : Nat) : Int) := wrap64_nat (by omega)
  unfold U.whole d87
  simp only [Tr.val, inB_nat hn, cond_true, w1, cw_eq]
  by_cases a : U.cw l n = 2
  · by_cases b : n + 1 < l.length
    · have i1 : inB ((n : Int) + 1) l.length = true := by simpa using inB_nat b
      have i2 := cw_eq l (n + 1)
      rw [Int.natCast_add] at i2
      simp [a, b, i1, show ((n : Int) + 1 < (l.length : Int)) by omega]
    · simp [a, b, show ¬ ((n : Int) + 1 < (l.length : Int)) by omega]
  · by_cases b : U.cw l n = 0
    · by_cases c : 0 < n
      · have w2 : IntKind.i64.wrap ((n : Int) - 1) = ((n - 1 : Nat) : Int) := by
          rw [wrap64_id (by omega) (by omega)]
          omega
        simp [a, b, c, w2, inB_nat (show n - 1 < l.length by omega), cw_eq]
      · have : n = 0 := by omega
        subst this
        simp [a, b]
    · simp [a, b]
end Go.Proofs.YtmnbcnhpklejcaaDoor
namespace Go.Proofs.YtmnbcnhpklejcaaDoor
open Go Go.Ev Go.RowKit
abbrev w89 : FSpec := s89 (fun x => decide (ByteArray.size x.1.1 ≤ 1048576)) fun x => U.cellR x.1
abbrev w87 : FSpec := s87 (fun x => decide (0 ≤ (x.2.1 : Int) ∧ (x.2.1 : Int) < (List.length (α := Cell) x.1 : Int) ∧ List.length (α := Cell) x.1 ≤ 1048576)) fun x => U.whole x.1 x.2.1.toNat
abbrev G2 : List (Nat × FSpec) := [(89, w89), (87, w87)]
theorem AG2 : AllFn Tryd.prog E0 G2 := .cons wk89 (.cons wk87 .nil)
def live31 (key : Nat) : Lv :=
  bif Nat.beq key 2 then { ls := [1, 2, 8, 9, 10] } else bif Nat.beq key 1002 then { ls := [1, 2, 4] } else
  { ls := [] }
abbrev M31 (ls : Nat → VS → Option (Tr (Ex × VS))) : Env := (E0.withFns G2).loops live31 ls
@[reducible] def p31_0 : LP := { n := 31, sl := [.d (.int .i64), .c (Leaf.ptr ( 0) ( 0)), .d (celk.sl), .d (.int .i64), .d (.int .i64)], bl := [(0, .box [.d (celk.sl), .d (Kd.bool)])] }
def B31_0 (x0 : Int) (x2 : List Cell) (x3 : Int) (x4 : Int) (h0_0 : List Cell) (h0_1 : Bool) : Tr (p31_0.T ⊕ (Int × List Cell × Bool ⊕ Int × List Cell × Bool)) :=
  let v1 : Int := (↑h0_0.length : Int)
  Tr.ite (decide (x4 < x3))
    (Tr.ite (inB x4 x2.length)
      (Tr.ite (decide (ByteArray.size (rget celk x2 x4).fst ≤ (1048576 : Nat)))
        (Tr.ite (!U.cellR (rget celk x2 x4)) (Tr.ret (Sum.inr (Sum.inl (x0, h0_0, h0_1))))
          (Tr.ite (decide ((0 : Int) ≤ x4 ∧ x4 < v1 ∧ h0_0.length ≤ (1048576 : Nat)))
            (Tr.ite (!U.whole h0_0 x4.toNat) (Tr.ret (Sum.inr (Sum.inl (x0, h0_0, h0_1)))) (Tr.ret (Sum.inl ((x0, x2, x3, IntKind.i64.wrap (x4 + (1 : Int)), ()), (h0_0, h0_1, ()), ())))) Tr.fail))
        Tr.fail)
      Tr.fail)
    (Tr.ret (Sum.inr (Sum.inr (x0, h0_0, h0_1))))
def X31_0 : (Int × List Cell × Bool ⊕ Int × List Cell × Bool) → Ex × VS
  | (.inl r) => Prod.mk Ex.ret { n := 31, v := [Slot.av (AV.one (Leaf.dat (.int .i64) r.fst)), Slot.av (AV.one (Leaf.ptr ( 0) ( 0))), Slot.av (AV.one (Leaf.kb false))], h := [( 0, Blk.box [Leaf.dat celk.sl r.snd.fst, Leaf.dat Kd.bool r.snd.snd])] }
  | (.inr r) => Prod.mk (Ex.exit ( 0)) { n := 31, v := [Slot.av (AV.one (Leaf.dat (.int .i64) r.fst)), Slot.av (AV.one (Leaf.ptr ( 0) ( 0))), Slot.av (AV.one Leaf.undef)], h := [( 0, Blk.box [Leaf.dat celk.sl r.snd.fst, Leaf.dat Kd.bool r.snd.snd])] }
def b31_0 : p31_0.T → Tr (p31_0.T ⊕ (Int × List Cell × Bool ⊕ Int × List Cell × Bool)) := fun ⟨⟨x0, ⟨x2, ⟨x3, ⟨x4, _⟩⟩⟩⟩, ⟨⟨h0_0, ⟨h0_1, _⟩⟩, _⟩⟩ => B31_0 x0 x2 x3 x4 h0_0 h0_1
theorem h31_0 (ls : Nat → VS → Option (Tr (Ex × VS))) (x : p31_0.T) : (evC (evI 2) (lc Tryd.f31 0) (Env.lend (M31 ls) 0) (unV (live31 2) (p31_0.V x))).map (decL 0 (live31 2) (live31 1002)) = (b31_0 x).map (encR p31_0.V X31_0) := by
  obtain ⟨⟨x0, ⟨x2, ⟨x3, ⟨x4, _⟩⟩⟩⟩, ⟨⟨h0_0, ⟨h0_1, _⟩⟩, _⟩⟩ := x; kernel_rfl
theorem c31_0 (x : p31_0.T) : canV 0 (live31 2) (unV (live31 2) (p31_0.V x)) = p31_0.V x := by
  obtain ⟨⟨x0, ⟨x2, ⟨x3, ⟨x4, _⟩⟩⟩⟩, ⟨⟨h0_0, ⟨h0_1, _⟩⟩, _⟩⟩ := x; kernel_rfl
theorem l31_0 {T : p31_0.T → Tr (Int × List Cell × Bool ⊕ Int × List Cell × Bool)} {ls : Nat → VS → Option (Tr (Ex × VS))} (hls : ∀ x, (Env.lend (M31 ls) 0).ls 2 x = p31_0.ls (fun a => (T a).map X31_0) x) (hS : ∀ x r, (T x).val = some r → Rounds b31_0 x r) : LoopOK (evI 2) (Env.lend (M31 ls) 0) (lc Tryd.f31 0) :=
  loopA 2 (live31 2) (live31 1002) p31_0 b31_0 X31_0 T (by kernel_rfl) rfl rfl hls (h31_0 ls) c31_0 hS
def live25 (key : Nat) : Lv :=
  bif Nat.beq key 4 then { ls := [2, 3, 22, 23] } else bif Nat.beq key 1004 then { ls := [4] } else
  { ls := [] }
abbrev M25 (ls : Nat → VS → Option (Tr (Ex × VS))) : Env := (E0.withFns []).loops live25 ls
@[reducible] def p25_0 : LP := { n := 38, sl := [.c (Leaf.ptr ( 0) ( 0)), .c (Leaf.ptr ( 1) ( 0)), .d (.int .i64), .d (.int .i64)], bl := [(0, .box [.d (celk.sl), .d (Kd.bool)]), (1, .box [.d (celk.sl), .d (Kd.bool)])] }
def B25_0 (x2 : Int) (x3 : Int) (h0_0 : List Cell) (h0_1 : Bool) (h1_0 : List Cell) (h1_1 : Bool) : Tr (p25_0.T ⊕ (Unit ⊕ Unit)) :=
  Tr.ite (decide (x3 < x2))
    (Tr.ite (inB x3 h0_0.length)
      (Tr.ite (inB x3 h1_0.length)
        (Tr.ite
          (!(decide ((rget celk h0_0 x3).fst = (rget celk h1_0 x3).fst) &&
              (decide ((rget celk h0_0 x3).snd.fst = (rget celk h1_0 x3).snd.fst) &&
                (decide ((rget celk h0_0 x3).snd.snd.fst.fst = (rget celk h1_0 x3).snd.snd.fst.fst) &&
                  (decide ((rget celk h0_0 x3).snd.snd.fst.snd.fst = (rget celk h1_0 x3).snd.snd.fst.snd.fst) &&
                    decide ((rget celk h0_0 x3).snd.snd.fst.snd.snd.fst = (rget celk h1_0 x3).snd.snd.fst.snd.snd.fst))))))
          (Tr.ret (Sum.inr (Sum.inl ()))) (Tr.ret (Sum.inl ((x2, IntKind.i64.wrap (x3 + (1 : Int)), ()), (h0_0, h0_1, ()), (h1_0, h1_1, ()), ()))))
        Tr.fail)
      Tr.fail)
    (Tr.ret (Sum.inr (Sum.inr ())))
def X25_0 : (Unit ⊕ Unit) → Ex × VS
  | (.inl r) => Prod.mk Ex.ret { n := 38, v := [Slot.av (AV.one (Leaf.kb false))], h := [] }
  | (.inr r) => Prod.mk (Ex.exit ( 0)) { n := 38, v := [Slot.av (AV.one Leaf.undef)], h := [] }
def b25_0 : p25_0.T → Tr (p25_0.T ⊕ (Unit ⊕ Unit)) := fun ⟨⟨x2, ⟨x3, _⟩⟩, ⟨⟨h0_0, ⟨h0_1, _⟩⟩, ⟨⟨h1_0, ⟨h1_1, _⟩⟩, _⟩⟩⟩ => B25_0 x2 x3 h0_0 h0_1 h1_0 h1_1
theorem h25_0 (ls : Nat → VS → Option (Tr (Ex × VS))) (x : p25_0.T) : (evC (evI 2) (lc Tryd.f25 0) (Env.lend (M25 ls) 0) (unV (live25 4) (p25_0.V x))).map (decL 0 (live25 4) (live25 1004)) = (b25_0 x).map (encR p25_0.V X25_0) := by
  obtain ⟨⟨x2, ⟨x3, _⟩⟩, ⟨⟨h0_0, ⟨h0_1, _⟩⟩, ⟨⟨h1_0, ⟨h1_1, _⟩⟩, _⟩⟩⟩ := x; kernel_rfl
theorem c25_0 (x : p25_0.T) : canV 0 (live25 4) (unV (live25 4) (p25_0.V x)) = p25_0.V x := by
  obtain ⟨⟨x2, ⟨x3, _⟩⟩, ⟨⟨h0_0, ⟨h0_1, _⟩⟩, ⟨⟨h1_0, ⟨h1_1, _⟩⟩, _⟩⟩⟩ := x; kernel_rfl
theorem l25_0 {T : p25_0.T → Tr (Unit ⊕ Unit)} {ls : Nat → VS → Option (Tr (Ex × VS))} (hls : ∀ x, (Env.lend (M25 ls) 0).ls 4 x = p25_0.ls (fun a => (T a).map X25_0) x) (hS : ∀ x r, (T x).val = some r → Rounds b25_0 x r) : LoopOK (evI 2) (Env.lend (M25 ls) 0) (lc Tryd.f25 0) :=
  loopA 4 (live25 4) (live25 1004) p25_0 b25_0 X25_0 T (by kernel_rfl) rfl rfl hls (h25_0 ls) c25_0 hS
def live135 (key : Nat) : Lv :=
  bif Nat.beq key 3 then { ls := [0, 3, 4] } else bif Nat.beq key 1003 then { ls := [2, 3] } else
  { ls := [] }
abbrev M135 (ls : Nat → VS → Option (Tr (Ex × VS))) : Env := (E0.withFns []).loops live135 ls
@[reducible] def p135_0 : LP := { n := 41, sl := [.d (Kd.str), .d (Kd.int IntKind.i32), .d (.int .i64)], bl := [] }
def B135_0 (x0 : ByteArray) (x1 : Int) (x2 : Int) : Tr (p135_0.T ⊕ (Int × Int ⊕ Int)) :=
  let v1 : Int := x2 + (1 : Int)
  let v2 : Int := IntKind.i32.wrap (bt x0 x2) - [(0 : Int), (0 : Int), (192 : Int), (224 : Int), (240 : Int)].getD (↑x0.size : Int).toNat (0 : Int)
  Tr.ite (decide (x2 < (↑x0.size : Int)))
    (Tr.ite (inB x2 x0.size)
      (Tr.ite (decide (x2 = (0 : Int)))
        (Tr.ite (inB (↑x0.size : Int) (5 : Nat))
          (Tr.ite (decide ((↑x0.size : Int) = (1 : Int))) (Tr.ret (Sum.inr (Sum.inl (IntKind.i32.wrap (bt x0 x2), IntKind.i32.wrap v2))))
            (Tr.ret (Sum.inl ((x0, IntKind.i32.wrap v2, IntKind.i64.wrap v1, ()), ()))))
          Tr.fail)
        (Tr.ite (decide (IntKind.i32.wrap (bt x0 x2) < (128 : Int))) (Tr.ret (Sum.inr (Sum.inl ((-1 : Int), x1))))
          (Tr.ite (decide ((191 : Int) < IntKind.i32.wrap (bt x0 x2))) (Tr.ret (Sum.inr (Sum.inl ((-1 : Int), x1))))
            (Tr.ret (Sum.inl ((x0, IntKind.i32.wrap (IntKind.i32.wrap (IntKind.i32.wrap ((64 : Int) * x1) + IntKind.i32.wrap (bt x0 x2)) - (128 : Int)), IntKind.i64.wrap v1, ()), ()))))))
      Tr.fail)
    (Tr.ret (Sum.inr (Sum.inr x1)))
def X135_0 : (Int × Int ⊕ Int) → Ex × VS
  | (.inl r) => Prod.mk Ex.ret { n := 41, v := [Slot.av (AV.one (Leaf.dat (Kd.int IntKind.i32) r.fst)), Slot.av (AV.one (Leaf.dat (Kd.int IntKind.i32) r.snd))], h := [] }
  | (.inr r) => Prod.mk (Ex.exit ( 0)) { n := 41, v := [Slot.av (AV.one Leaf.undef), Slot.av (AV.one (Leaf.dat (Kd.int IntKind.i32) r))], h := [] }
def b135_0 : p135_0.T → Tr (p135_0.T ⊕ (Int × Int ⊕ Int)) := fun ⟨⟨x0, ⟨x1, ⟨x2, _⟩⟩⟩, _⟩ => B135_0 x0 x1 x2
theorem h135_0 (ls : Nat → VS → Option (Tr (Ex × VS))) (x : p135_0.T) : (evC (evI 2) (lc Tryd.f135 0) (Env.lend (M135 ls) 0) (unV (live135 3) (p135_0.V x))).map (decL 0 (live135 3) (live135 1003)) = (b135_0 x).map (encR p135_0.V X135_0) := by
  obtain ⟨⟨x0, ⟨x1, ⟨x2, _⟩⟩⟩, _⟩ := x; kernel_rfl
theorem c135_0 (x : p135_0.T) : canV 0 (live135 3) (unV (live135 3) (p135_0.V x)) = p135_0.V x := by
  obtain ⟨⟨x0, ⟨x1, ⟨x2, _⟩⟩⟩, _⟩ := x; kernel_rfl
theorem l135_0 {T : p135_0.T → Tr (Int × Int ⊕ Int)} {ls : Nat → VS → Option (Tr (Ex × VS))} (hls : ∀ x, (Env.lend (M135 ls) 0).ls 3 x = p135_0.ls (fun a => (T a).map X135_0) x) (hS : ∀ x r, (T x).val = some r → Rounds b135_0 x r) : LoopOK (evI 2) (Env.lend (M135 ls) 0) (lc Tryd.f135 0) :=
  loopA 3 (live135 3) (live135 1003) p135_0 b135_0 X135_0 T (by kernel_rfl) rfl rfl hls (h135_0 ls) c135_0 hS
end Go.Proofs.YtmnbcnhpklejcaaDoor
namespace U
open Go Go.Ev
def okc (l : List Cl) : Bool := decide (l.length ≤ 1048576) && l.all fun c => decide (c.1.size ≤ 1048576)
def fitC (l : List Cl) : Bool := allN (fun i => cellR (l.getD i dC) && whole l i) l.length 0
theorem okc_len {l : List Cl} (h : okc l = true) : l.length ≤ 1048576 := by
  simp only [okc, Bool.and_eq_true, decide_eq_true_eq] at h; exact h.1
theorem okc_at {l : List Cl} (h : okc l = true) {i : Nat} (hi : i < l.length) : (l.getD i dC).1.size ≤ 1048576 := by
  simp only [okc, Bool.and_eq_true, decide_eq_true_eq, List.all_eq_true] at h
  rw [getD_el hi]
  exact h.2 _ (List.getElem_mem hi)
end U
namespace Go.Proofs.YtmnbcnhpklejcaaDoor
open Go Go.Ev Go.RowKit
def T31 (x : p31_0.T) : Tr (Int × List Cell × Bool ⊕ Int × List Cell × Bool) :=
  .ite (decide ((x.1.2.2.1 : Int) = (List.length (α := Cell) x.1.2.1 : Int) ∧ (x.1.2.2.2.1 : Int) = 0 ∧ List.length (α := Cell) x.1.2.1 ≤ List.length (α := Cell) x.2.1.1 ∧ List.length (α := Cell) x.2.1.1 ≤ 1048576) && U.okc x.1.2.1)
    (.ite (allN (fun i => U.cellR (List.getD (α := Cell) x.1.2.1 i U.dC) && U.whole x.2.1.1 i) (List.length (α := Cell) x.1.2.1) 0) (.ret (.inr (x.1.1, x.2.1.1, x.2.1.2.1))) (.ret (.inl (x.1.1, x.2.1.1, x.2.1.2.1)))) .fail
abbrev E31 : Env := M31 fun key x => bif Nat.beq key 2 then p31_0.ls (fun a => (T31 a).map X31_0) x else none
theorem rgetC (l : List Cell) (i : Nat) : rget celk l (i : Int) = l.getD i U.dC := by rw [rget_nat]; rfl
theorem L31 : LoopOK (evI 2) (E31.lend 0) (lc Tryd.f31 0) := by
  refine l31_0 (T := T31) (fun x => rfl) ?_
  rintro ⟨⟨c, l, n, i, z⟩, ⟨m, s, z1⟩, z2⟩ r h
  obtain ⟨h1, h2⟩ := pre_val h
  rw [Bool.and_eq_true] at h1
  obtain ⟨h1, hok⟩ := h1
  obtain ⟨e1, e2, e3, e4⟩ := of_decide_eq_true h1
  dsimp only at e1 e2 e3 e4 hok h2
  subst e1
  subst e2
  have := Rounds.all (B := b31_0) (N := l.length) (fun i => ((c, l, (l.length : Int), (i : Int), ()), (m, s, ()), ())) (fun i => U.cellR (l.getD i U.dC) && U.whole m i) (.inl (c, m, s)) (.inr (c, m, s)) (fun i hi => ?_) ?_
  · cases ha : allN (fun i => U.cellR (l.getD i U.dC) && U.whole m i) l.length 0 <;> simp only [ha, Tr.val, cond_true, cond_false] at h2 this <;> cases h2 <;> exact this
  · have h3 := U.okc_at hok hi
    simp only [b31_0, B31_0, Tr.val, inB_nat hi, rgetC, h3, Int.toNat_natCast, show ((i : Int) < (l.length : Int)) by omega, show ((0 : Int) ≤ (i : Int) ∧ (i : Int) < (m.length : Int) ∧ m.length ≤ 1048576) by omega, decide_true, cond_true, wrap64_nat (show i ≤ 1048576 by omega)]
    cases U.cellR (l.getD i U.dC) <;> cases U.whole m i <;> rfl
  · simp only [b31_0, B31_0, Tr.val, show ¬ ((l.length : Int) < (l.length : Int)) by omega, decide_false, cond_false]
def d31 (a1 : List Cell) (a2 : Bool) (b : Int) : Tr (Bool) :=
  let v1 : Int := (↑a1.length : Int)
  let v2 : Int := (↑a1.length : Int)
  Tr.ite (decide (v2 = v1 ∧ (0 : Int) = (0 : Int) ∧ a1.length ≤ a1.length ∧ a1.length ≤ (1048576 : Nat)) && U.okc a1)
    (Tr.ite (allN (fun (i : Nat) => U.cellR (a1.getD i U.dC) && U.whole a1 i) a1.length (0 : Nat)) (Tr.ret (decide (v2 = b))) (Tr.ret false)) Tr.fail
def e31 (r : Bool) : FRes := { rs := Slot.av (AV.one (Leaf.dat Kd.bool r)), upd := [], new := [] }
@[reducible] def a31 : List AK := [AK.d link, AK.d (.int .i64)]
@[reducible] def b31 : List BK := []
theorem t31 (a1 : List Cell) (a2 : Bool) (b : Int) : evFn (E31) Tryd.f31 [PM.data Kd.bool] (akAV a31 ((a1, a2, ()), b, ())) (bkBs b31 ()) = (d31 a1 a2 b).map e31 := by kernel_rfl
def s31 (C : akT a31 → Bool) (G : akT a31 → Bool) : FSpec := aspec a31 b31 e31 (fun x _ => C x) (fun x _ => G x)
def s31' (G : akT a31 → Bool) : FSpec := aspec0 a31 b31 e31 (fun x _ => G x)
theorem k31 {C : akT a31 → Bool} {G : akT a31 → Bool} (hd : ∀ (a1 : List Cell) (a2 : Bool) (b : Int), C ((a1, a2, ()), b, ()) = true → (d31 a1 a2 b).val = some (G ((a1, a2, ()), b, ()))) (IO : ItOK Tryd.prog (E31) := by exact itOK_none rfl) (L : ∀ c, Tryd.f31.body = some c → LsOK (evI 2) ((E31).lend 0) c := by exact fun c _ => LsOK_none rfl c) : SpecOK Tryd.prog E0 31 (s31 C G) :=
  aspec_ok (E := E31) tab AG2 rfl rfl hm Tryd.func31 (by kernel_rfl) [PM.data Kd.bool] (fun X Y H => by obtain ⟨⟨a1, ⟨a2, _⟩⟩, ⟨b, _⟩⟩ := X; exact val_of (t31 a1 a2 b) (hd a1 a2 b H)) IO L
theorem k31' {G : akT a31 → Bool} (hd : ∀ (a1 : List Cell) (a2 : Bool) (b : Int), (d31 a1 a2 b).val = some (G ((a1, a2, ()), b, ()))) (IO : ItOK Tryd.prog (E31) := by exact itOK_none rfl) (L : ∀ c, Tryd.f31.body = some c → LsOK (evI 2) ((E31).lend 0) c := by exact fun c _ => LsOK_none rfl c) : SpecOK Tryd.prog E0 31 (s31' G) :=
  aspec0_ok (E := E31) tab AG2 rfl rfl hm Tryd.func31 (by kernel_rfl) [PM.data Kd.bool] (fun X Y => by obtain ⟨⟨a1, ⟨a2, _⟩⟩, ⟨b, _⟩⟩ := X; exact val_of (t31 a1 a2 b) (hd a1 a2 b)) IO L
abbrev w31 : FSpec := s31 (fun x => U.okc x.1.1) fun x => U.fitC x.1.1 && decide ((List.length (α := Cell) x.1.1 : Int) = (x.2.1 : Int))
theorem wk31 : SpecOK Tryd.prog E0 31 w31 := by
  refine k31 (fun l s n H => ?_) (L := ls_ok (lcs := [lc Tryd.f31 0]) (rgs := []) (by kernel_rfl) (by kernel_rfl) L31 trivial)
  have H : U.okc l = true := H
  have hl := U.okc_len H
  show _ = some (U.fitC l && decide ((l.length : Int) = n))
  unfold U.fitC
  simp only [d31, Tr.val, H, hl, Nat.le_refl, and_self, decide_true, Bool.and_self, cond_true]
  cases allN (fun i => U.cellR (l.getD i U.dC) && U.whole l i) l.length 0 <;> simp
def d80 (a1 : List Cell) (a2 : Bool) : Tr (Bool) :=
  let v1 : Int := (↑a1.length : Int)
  let v2 : Int := (↑a1.length : Int)
  Tr.ite (decide (v2 < (1 : Int))) (Tr.ret true) (Tr.ite (decide ((80 : Int) < v2)) (Tr.ret true) (Tr.ite (U.okc a1) (Tr.ret !(U.fitC a1 && decide (v1 = v2))) Tr.fail))
def e80 (r : Bool) : FRes := { rs := Slot.av (AV.one (Leaf.dat Kd.bool r)), upd := [], new := [] }
@[reducible] def a80 : List AK := [AK.d link]
@[reducible] def b80 : List BK := []
theorem t80 (a1 : List Cell) (a2 : Bool) : evFn (E0.withFns [((31 : Nat), w31)]) Tryd.f80 [PM.data Kd.bool] (akAV a80 ((a1, a2, ()), ())) (bkBs b80 ()) = (d80 a1 a2).map e80 := by kernel_rfl
def s80 (C : akT a80 → Bool) (G : akT a80 → Bool) : FSpec := aspec a80 b80 e80 (fun x _ => C x) (fun x _ => G x)
def s80' (G : akT a80 → Bool) : FSpec := aspec0 a80 b80 e80 (fun x _ => G x)
theorem k80 {C : akT a80 → Bool} {G : akT a80 → Bool} (hd : ∀ (a1 : List Cell) (a2 : Bool), C ((a1, a2, ()), ()) = true → (d80 a1 a2).val = some (G ((a1, a2, ()), ()))) (IO : ItOK Tryd.prog (E0.withFns [((31 : Nat), w31)]) := by exact itOK_none rfl) (L : ∀ c, Tryd.f80.body = some c → LsOK (evI 2) ((E0.withFns [((31 : Nat), w31)]).lend 0) c := by exact fun c _ => LsOK_none rfl c) : SpecOK Tryd.prog E0 80 (s80 C G) :=
  aspec_ok (E := E0.withFns [((31 : Nat), w31)]) tab (.cons wk31 .nil) rfl rfl hm Tryd.func80 (by kernel_rfl) [PM.data Kd.bool] (fun X Y H => by obtain ⟨⟨a1, ⟨a2, _⟩⟩, _⟩ := X; exact val_of (t80 a1 a2) (hd a1 a2 H)) IO L
theorem k80' {G : akT a80 → Bool} (hd : ∀ (a1 : List Cell) (a2 : Bool), (d80 a1 a2).val = some (G ((a1, a2, ()), ()))) (IO : ItOK Tryd.prog (E0.withFns [((31 : Nat), w31)]) := by exact itOK_none rfl) (L : ∀ c, Tryd.f80.body = some c → LsOK (evI 2) ((E0.withFns [((31 : Nat), w31)]).lend 0) c := by exact fun c _ => LsOK_none rfl c) : SpecOK Tryd.prog E0 80 (s80' G) :=
  aspec0_ok (E := E0.withFns [((31 : Nat), w31)]) tab (.cons wk31 .nil) rfl rfl hm Tryd.func80 (by kernel_rfl) [PM.data Kd.bool] (fun X Y => by obtain ⟨⟨a1, ⟨a2, _⟩⟩, _⟩ := X; exact val_of (t80 a1 a2) (hd a1 a2)) IO L

end Go.Proofs.YtmnbcnhpklejcaaDoor
