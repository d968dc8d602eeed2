/- Lines that are mended: first parts. -/
import Derived.Test.YtmnbcnhpklejcaaDoorZEvAuto
import Derived.Test.YtmnbcnhpklejcaaDoorZEvC6
set_option linter.unusedVariables false
set_option linter.unusedSimpArgs false
set_option maxRecDepth 20000
open Go Go.Ev
namespace Go.Proofs.YtmnbcnhpklejcaaDoor
open Go.RowKit
def d93 (a : Int) (b : Int) (c : Int) : Tr (Bool) :=
  Tr.ite (decide (b ≤ a)) (Tr.ret (decide (a ≤ c))) (Tr.ret false)
def e93 (r : Bool) : FRes := { rs := Slot.av (AV.one (Leaf.dat Kd.bool r)), upd := [], new := [] }
@[reducible] def a93 : List AK := [AK.d (.int .i64), AK.d (.int .i64), AK.d (.int .i64)]
@[reducible] def b93 : List BK := []
theorem t93 (a : Int) (b : Int) (c : Int) : evFn (E0) Tryd.f93 [PM.data Kd.bool] (akAV a93 (a, b, c, ())) (bkBs b93 ()) = (d93 a b c).map e93 := by kernel_rfl
def s93 (C : akT a93 → Bool) (G : akT a93 → Bool) : FSpec := aspec a93 b93 e93 (fun x _ => C x) (fun x _ => G x)
def s93' (G : akT a93 → Bool) : FSpec := aspec0 a93 b93 e93 (fun x _ => G x)
theorem k93 {C : akT a93 → Bool} {G : akT a93 → Bool} (hd : ∀ (a : Int) (b : Int) (c : Int), C (a, b, c, ()) = true → (d93 a b c).val = some (G (a, b, c, ()))) (IO : ItOK Tryd.prog (E0) := by exact itOK_none rfl) (L : ∀ c, Tryd.f93.body = some c → LsOK (evI 2) ((E0).lend 0) c := by exact fun c _ => LsOK_none rfl c) : SpecOK Tryd.prog E0 93 (s93 C G) :=
  aspec_ok (ak := a93) (bl := b93) (e := e93) (c := fun x _ => C x) (g := fun x _ => G x) (E0 := E0) (E := E0) tab .nil rfl rfl hm Tryd.func93 (by kernel_rfl) [PM.data Kd.bool] (fun X Y H => by obtain ⟨a, ⟨b, ⟨c, _⟩⟩⟩ := X; exact val_of (t93 a b c) (hd a b c H)) IO L
theorem k93' {G : akT a93 → Bool} (hd : ∀ (a : Int) (b : Int) (c : Int), (d93 a b c).val = some (G (a, b, c, ()))) (IO : ItOK Tryd.prog (E0) := by exact itOK_none rfl) (L : ∀ c, Tryd.f93.body = some c → LsOK (evI 2) ((E0).lend 0) c := by exact fun c _ => LsOK_none rfl c) : SpecOK Tryd.prog E0 93 (s93' G) :=
  aspec0_ok (ak := a93) (bl := b93) (e := e93) (g := fun x _ => G x) (E0 := E0) (E := E0) tab .nil rfl rfl hm Tryd.func93 (by kernel_rfl) [PM.data Kd.bool] (fun X Y => by obtain ⟨a, ⟨b, ⟨c, _⟩⟩⟩ := X; exact val_of (t93 a b c) (hd a b c)) IO L
abbrev w93 : FSpec := s93' fun x => U.inn x.1 x.2.1 x.2.2.1
theorem wk93 : SpecOK Tryd.prog E0 93 w93 := by
  refine k93' fun a b c => ?_
  show _ = some (U.inn a b c)
  unfold U.inn
  by_cases h : b ≤ a <;> simp [d93, Tr.val, h]
def d88 (a1 : Int) (a2 : Int) (a3 : Int) : Tr (ByteArray × Int × Int × Int × Int) :=
  Tr.ret (ByteArray.empty, (1 : Int), (0 : Int), a2, (0 : Int))
def e88 (r : ByteArray × Int × Int × Int × Int) : FRes := { rs := Slot.av (AV.agg [Leaf.dat Kd.str r.fst, Leaf.dat (.int .i64) r.snd.fst, Leaf.dat (.int .i64) r.snd.snd.fst, Leaf.dat (.int .i64) r.snd.snd.snd.fst, Leaf.dat (.int .i64) r.snd.snd.snd.snd]), upd := [], new := [] }
@[reducible] def a88 : List AK := [AK.d attk]
@[reducible] def b88 : List BK := []
theorem t88 (a1 : Int) (a2 : Int) (a3 : Int) : evFn (E0) Tryd.f88 [PM.data celk] (akAV a88 ((a1, a2, a3, ()), ())) (bkBs b88 ()) = (d88 a1 a2 a3).map e88 := by kernel_rfl
def s88 (C : akT a88 → Bool) (G : akT a88 → ByteArray × Int × Int × Int × Int) : FSpec := aspec a88 b88 e88 (fun x _ => C x) (fun x _ => G x)
def s88' (G : akT a88 → ByteArray × Int × Int × Int × Int) : FSpec := aspec0 a88 b88 e88 (fun x _ => G x)
theorem k88 {C : akT a88 → Bool} {G : akT a88 → ByteArray × Int × Int × Int × Int} (hd : ∀ (a1 : Int) (a2 : Int) (a3 : Int), C ((a1, a2, a3, ()), ()) = true → (d88 a1 a2 a3).val = some (G ((a1, a2, a3, ()), ()))) (IO : ItOK Tryd.prog (E0) := by exact itOK_none rfl) (L : ∀ c, Tryd.f88.body = some c → LsOK (evI 2) ((E0).lend 0) c := by exact fun c _ => LsOK_none rfl c) : SpecOK Tryd.prog E0 88 (s88 C G) :=
  aspec_ok (ak := a88) (bl := b88) (e := e88) (c := fun x _ => C x) (g := fun x _ => G x) (E0 := E0) (E := E0) tab .nil rfl rfl hm Tryd.func88 (by kernel_rfl) [PM.data celk] (fun X Y H => by obtain ⟨⟨a1, ⟨a2, ⟨a3, _⟩⟩⟩, _⟩ := X; exact val_of (t88 a1 a2 a3) (hd a1 a2 a3 H)) IO L
theorem k88' {G : akT a88 → ByteArray × Int × Int × Int × Int} (hd : ∀ (a1 : Int) (a2 : Int) (a3 : Int), (d88 a1 a2 a3).val = some (G ((a1, a2, a3, ()), ()))) (IO : ItOK Tryd.prog (E0) := by exact itOK_none rfl) (L : ∀ c, Tryd.f88.body = some c → LsOK (evI 2) ((E0).lend 0) c := by exact fun c _ => LsOK_none rfl c) : SpecOK Tryd.prog E0 88 (s88' G) :=
  aspec0_ok (ak := a88) (bl := b88) (e := e88) (g := fun x _ => G x) (E0 := E0) (E := E0) tab .nil rfl rfl hm Tryd.func88 (by kernel_rfl) [PM.data celk] (fun X Y => by obtain ⟨⟨a1, ⟨a2, ⟨a3, _⟩⟩⟩, _⟩ := X; exact val_of (t88 a1 a2 a3) (hd a1 a2 a3)) IO L
abbrev w88 : FSpec := s88' fun x => (ByteArray.empty, (1 : Int), (0 : Int), x.1.2.1, (0 : Int))
theorem wk88 : SpecOK Tryd.prog E0 88 w88 := k88' fun a b c => rfl
def live86 (key : Nat) : Lv :=
  bif Nat.beq key 7777 then { ls := [], wd := [⟨2, none, .row 48 celk⟩] } else
  { ls := [] }
def live97 (key : Nat) : Lv :=
  bif Nat.beq key 7777 then { ls := [], wd := [⟨2, none, .row 34 link⟩] } else
  { ls := [] }
abbrev w86 : FSpec := bspec [.d (.sl celk)] [] fun x _ => { c := some (decide (List.length (α := Cell) x.1 ≤ 1048576)), rs := .av (.one (.row 0)), new := [.row 48 celk x.1] }
theorem wk86 : SpecOK Tryd.prog E0 86 w86 := by
  refine nspec_ok (k := celk) (E0 := E0) (E := E0.loops live86 fun _ _ => none) (g := fun (xs : List Cell) => { c := some (decide (List.length xs ≤ 1048576)), rs := .av (.one (.row 0)), new := [.row 48 celk xs] }) tab .nil rfl rfl hm Tryd.func86 (by kernel_rfl) [.raw] fun b xs hb hc => ?_
  have hl : xs.length ≤ 1048576 := by
    cases h : decide (xs.length ≤ 1048576) with
    | true => exact of_decide_eq_true h
    | false => exact absurd (by show some (decide (xs.length ≤ 1048576)) = some false; rw [h]) hc
  cases b with
  | true =>
    cases hb rfl
    show (evFn (E0.loops live86 fun _ _ => none) Tryd.f86 [.raw] [.one (.nn true celk [])] []).val = some ⟨.av (.one (.row 0)), [], [.row 48 celk []]⟩
    kernel_rfl
  | false =>
    have e : evFn (E0.loops live86 fun _ _ => none) Tryd.f86 [.raw] [.one (.nn false celk xs)] [] = .ite (decide ((0 + xs.length) * 48 ≤ capLimit)) (.ret ⟨.av (.one (.row 0)), [], [.row 48 celk xs]⟩) .fail := by kernel_rfl
    have h2 : (0 + xs.length) * 48 ≤ capLimit := by unfold capLimit; omega
    rw [e, decide_eq_true h2]
    rfl
abbrev w97 : FSpec := bspec [.d (.sl link)] [] fun x _ => { c := some (decide (List.length (α := Line) x.1 ≤ 1048576)), rs := .av (.one (.row 0)), new := [.row 34 link x.1] }
theorem wk97 : SpecOK Tryd.prog E0 97 w97 := by
  refine nspec_ok (k := link) (E0 := E0) (E := E0.loops live97 fun _ _ => none) (g := fun (xs : List Line) => { c := some (decide (List.length xs ≤ 1048576)), rs := .av (.one (.row 0)), new := [.row 34 link xs] }) tab .nil rfl rfl hm Tryd.func97 (by kernel_rfl) [.raw] fun b xs hb hc => ?_
  have hl : xs.length ≤ 1048576 := by
    cases h : decide (xs.length ≤ 1048576) with
    | true => exact of_decide_eq_true h
    | false => exact absurd (by show some (decide (xs.length ≤ 1048576)) = some false; rw [h]) hc
  cases b with
  | true =>
    cases hb rfl
    show (evFn (E0.loops live97 fun _ _ => none) Tryd.f97 [.raw] [.one (.nn true link [])] []).val = some ⟨.av (.one (.row 0)), [], [.row 34 link []]⟩
    kernel_rfl
  | false =>
    have e : evFn (E0.loops live97 fun _ _ => none) Tryd.f97 [.raw] [.one (.nn false link xs)] [] = .ite (decide ((0 + xs.length) * 32 ≤ capLimit)) (.ret ⟨.av (.one (.row 0)), [], [.row 34 link xs]⟩) .fail := by kernel_rfl
    have h2 : (0 + xs.length) * 32 ≤ capLimit := by unfold capLimit; omega
    rw [e, decide_eq_true h2]
    rfl
namespace R
def d87 (b : Int) (h0 : List Cell) : Tr (Bool × List Cell) :=
  let v1 : Int := ((↑h0.length : Int))
  let v2 : Int := (b + (1 : Int))
  let v3 : Int := (b - (1 : Int))
  Tr.ite (inB b h0.length)
    (Tr.ite (decide ((h0.getD b.toNat celk.dflt).snd.fst = (2 : Int)))
      (Tr.ite (decide (IntKind.i64.wrap v2 < v1)) (Tr.ite (inB (IntKind.i64.wrap v2) h0.length) (Tr.ret (decide ((h0.getD (IntKind.i64.wrap v2).toNat celk.dflt).snd.fst = (0 : Int)), h0)) Tr.fail)
        (Tr.ret (false, h0)))
      (Tr.ite (decide ((h0.getD b.toNat celk.dflt).snd.fst = (0 : Int)))
        (Tr.ite (decide ((0 : Int) < b)) (Tr.ite (inB (IntKind.i64.wrap v3) h0.length) (Tr.ret (decide ((h0.getD (IntKind.i64.wrap v3).toNat celk.dflt).snd.fst = (2 : Int)), h0)) Tr.fail)
          (Tr.ret (false, h0)))
        (Tr.ret (true, h0))))
    Tr.fail
def e87 (r : Bool × List Cell) : FRes := { rs := Slot.av (AV.one (Leaf.dat Kd.bool r.fst)), upd := [Blk.row ( 48) celk r.snd], new := [] }
@[reducible] def a87 : List AK := [AK.c (Leaf.row (0 : Nat)), AK.d (.int .i64)]
@[reducible] def b87 : List BK := [BK.row (48 : TypeId) celk]
theorem t87 (b : Int) (h0 : List Cell) : evFn (E0) Tryd.f87 [PM.data Kd.bool] (akAV a87 (b, ())) (bkBs b87 (h0, ())) = (d87 b h0).map e87 := by kernel_rfl
def s87 (C : akT a87 → bksT b87 → Bool) (G : akT a87 → bksT b87 → Bool × List Cell) : FSpec := aspec a87 b87 e87 (C) (G)
def s87' (G : akT a87 → bksT b87 → Bool × List Cell) : FSpec := aspec0 a87 b87 e87 (G)
theorem k87 {C : akT a87 → bksT b87 → Bool} {G : akT a87 → bksT b87 → Bool × List Cell} (hd : ∀ (b : Int) (h0 : List Cell), C (b, ()) (h0, ()) = true → (d87 b h0).val = some (G (b, ()) (h0, ()))) (IO : ItOK Tryd.prog (E0) := by exact itOK_none rfl) (L : ∀ c, Tryd.f87.body = some c → LsOK (evI 2) ((E0).lend 1) c := by exact fun c _ => LsOK_none rfl c) : SpecOK Tryd.prog E0 87 (s87 C G) :=
  aspec_ok (ak := a87) (bl := b87) (e := e87) (c := C) (g := G) (E0 := E0) (E := E0) tab .nil rfl rfl hm Tryd.func87 (by kernel_rfl) [PM.data Kd.bool] (fun X Y H => by obtain ⟨b, _⟩ := X; obtain ⟨h0, _⟩ := Y; exact val_of (t87 b h0) (hd b h0 H)) IO L
theorem k87' {G : akT a87 → bksT b87 → Bool × List Cell} (hd : ∀ (b : Int) (h0 : List Cell), (d87 b h0).val = some (G (b, ()) (h0, ()))) (IO : ItOK Tryd.prog (E0) := by exact itOK_none rfl) (L : ∀ c, Tryd.f87.body = some c → LsOK (evI 2) ((E0).lend 1) c := by exact fun c _ => LsOK_none rfl c) : SpecOK Tryd.prog E0 87 (s87' G) :=
  aspec0_ok (ak := a87) (bl := b87) (e := e87) (g := G) (E0 := E0) (E := E0) tab .nil rfl rfl hm Tryd.func87 (by kernel_rfl) [PM.data Kd.bool] (fun X Y => by obtain ⟨b, _⟩ := X; obtain ⟨h0, _⟩ := Y; exact val_of (t87 b h0) (hd b h0)) IO L
theorem cwd (l : List Cell) (i : Nat) : (l.getD i celk.dflt).2.1 = U.cw l i := rfl
abbrev w87 : FSpec := s87 (fun x y => decide (0 ≤ (x.1 : Int) ∧ (x.1 : Int) < (List.length (α := Cell) y.1 : Int) ∧ List.length (α := Cell) y.1 ≤ 1048576)) fun x y => (U.whole y.1 x.1.toNat, y.1)
theorem wk87 : SpecOK Tryd.prog E0 87 w87 := by
  refine k87 fun i l H => ?_
  obtain ⟨h0, h1, h2⟩ := of_decide_eq_true H
  dsimp only at h0 h1 h2
  obtain ⟨n, rfl⟩ := Int.eq_ofNat_of_zero_le h0
  show _ = some (U.whole l n, l)
  have hn : n < l.length := Int.ofNat_lt.1 h1
  have w1 : IntKind.i64.wrap ((n : Int) + 1) = ((n + 1 : Nat) : Int) := wrap64_nat (by omega)
  unfold U.whole d87
  simp only [Tr.val, inB_nat hn, cond_true, w1, Int.toNat_natCast, cwd]
  by_cases a : U.cw l n = 2
  · by_cases b : n + 1 < l.length
    · simp [a, b, inB_nat b, show ((n : Int) + 1 < (l.length : Int)) by omega, show inB ((n : Int) + 1) l.length = true from by simpa using inB_nat b, ← cwd]
    · simp [a, b, show ¬ ((n : Int) + 1 < (l.length : Int)) by omega]
  · by_cases b : U.cw l n = 0
    · by_cases c : 0 < n
      · have w2 : IntKind.i64.wrap ((n : Int) - 1) = ((n - 1 : Nat) : Int) := by
          rw [wrap64_id (by omega) (by omega)]
          omega
        simp [a, b, c, w2, inB_nat (show n - 1 < l.length by omega), ← cwd]
      · have : n = 0 := by omega
        subst this
        simp [a, b]
    · simp [a, b]
end R
abbrev G30 : List (Nat × FSpec) := [(86, w86), (87, R.w87), (88, w88)]
theorem AG30 : AllFn Tryd.prog E0 G30 := .cons wk86 (.cons R.wk87 (.cons wk88 .nil))
def live30 (key : Nat) : Lv :=
  bif Nat.beq key 3 then { ls := [1, 2, 10, 11, 12] } else bif Nat.beq key 1003 then { ls := [1, 2] } else
  { ls := [] }
abbrev M30 (ls : Nat → VS → Option (Tr (Ex × VS))) : Env := (E0.withFns G30).loops live30 ls
@[reducible] def p30_0 : LP := { n := 31, sl := [.c (Leaf.ptr ( 0) ( 0)), .c (Leaf.ptr ( 1) ( 0)), .c (Leaf.row ( 2)), .d (.int .i64), .d (.int .i64)], bl := [(0, .box [.c (Leaf.row ( 2)), .d (Kd.bool)]), (1, .box [.c (Leaf.nils), .d (Kd.bool)]), (2, .row 48 (celk))] }
def B30_0 (x3 : Int) (x4 : Int) (h0_1 : Bool) (h1_1 : Bool) (h2 : List Cell) : Tr (p30_0.T ⊕ (Bool × Bool × List Cell)) :=
  let v1 : Int := ((↑h2.length : Int))
  let v2 : Int := (x4 + (1 : Int))
  Tr.ite (decide (x4 < x3))
    (Tr.ite (inB x4 h2.length)
      (Tr.ite (decide ((0 : Int) ≤ x4 ∧ x4 < v1 ∧ h2.length ≤ (1048576 : Nat)))
        (Tr.ite (!U.whole h2 x4.toNat)
          (Tr.ite (inB x4 h2.length)
            (Tr.ret
              (Sum.inl
                ((x3, IntKind.i64.wrap v2, ()), (h0_1, ()), (h1_1, ()), h2.set x4.toNat (ByteArray.empty, (1 : Int), ((0 : Int), (h2.getD x4.toNat celk.dflt).snd.snd.fst.snd.fst, (0 : Int), ()), ()),
                  ())))
            Tr.fail)
          (Tr.ret (Sum.inl ((x3, IntKind.i64.wrap v2, ()), (h0_1, ()), (h1_1, ()), h2, ()))))
        Tr.fail)
      Tr.fail)
    (Tr.ret (Sum.inr (h0_1, h1_1, h2)))
def X30_0 (r : (Bool × Bool × List Cell)) : Ex × VS := Prod.mk (Ex.exit ( 0)) { n := 31, v := [Slot.av (AV.one (Leaf.ptr ( 0) ( 0))), Slot.av (AV.one (Leaf.ptr ( 1) ( 0)))], h := [( 0, Blk.box [Leaf.row ( 2), Leaf.dat Kd.bool r.fst]), ( 1, Blk.box [Leaf.nils, Leaf.dat Kd.bool r.snd.fst]), ( 2, Blk.row ( 48) celk r.snd.snd)] }
def b30_0 : p30_0.T → Tr (p30_0.T ⊕ (Bool × Bool × List Cell)) := fun ⟨⟨x3, ⟨x4, _⟩⟩, ⟨⟨h0_1, _⟩, ⟨⟨h1_1, _⟩, ⟨h2, _⟩⟩⟩⟩ => B30_0 x3 x4 h0_1 h1_1 h2
theorem h30_0 (ls : Nat → VS → Option (Tr (Ex × VS))) (x : p30_0.T) : (evC (evI 2) (lc Tryd.f30 0) (Env.lend (M30 ls) 0) (unV (live30 3) (p30_0.V x))).map (decL 0 (live30 3) (live30 1003)) = (b30_0 x).map (encR p30_0.V X30_0) := by
  obtain ⟨⟨x3, ⟨x4, _⟩⟩, ⟨⟨h0_1, _⟩, ⟨⟨h1_1, _⟩, ⟨h2, _⟩⟩⟩⟩ := x; kernel_rfl
theorem c30_0 (x : p30_0.T) : canV 0 (live30 3) (unV (live30 3) (p30_0.V x)) = p30_0.V x := by
  obtain ⟨⟨x3, ⟨x4, _⟩⟩, ⟨⟨h0_1, _⟩, ⟨⟨h1_1, _⟩, ⟨h2, _⟩⟩⟩⟩ := x; kernel_rfl
theorem l30_0 {T : p30_0.T → Tr (Bool × Bool × List Cell)} {ls : Nat → VS → Option (Tr (Ex × VS))} (hls : ∀ x, (Env.lend (M30 ls) 0).ls 3 x = p30_0.ls (fun a => (T a).map X30_0) x) (hS : ∀ x r, (T x).val = some r → Rounds b30_0 x r) : LoopOK (evI 2) (Env.lend (M30 ls) 0) (lc Tryd.f30 0) :=
  loopA 3 (live30 3) (live30 1003) p30_0 b30_0 X30_0 T (by kernel_rfl) rfl rfl hls (h30_0 ls) c30_0 hS
end Go.Proofs.YtmnbcnhpklejcaaDoor
namespace U
/-- A blank of a look. -/
def blank (a : Int × Int × Int × Unit) : Cl := (ByteArray.empty, 1, (0, a.2.1, 0, ()), ())
def mendAt (i : Nat) (l : List Cl) : List Cl := if whole l i then l else l.set i (blank (l.getD i dC).2.2.1)
def mend (l : List Cl) : List Cl := (List.range' 0 l.length).foldl (fun l i => mendAt i l) l
theorem mendAt_len (i : Nat) (l : List Cl) : (mendAt i l).length = l.length := by unfold mendAt; split <;> simp
end U
namespace Go.Proofs.YtmnbcnhpklejcaaDoor
def T30 (x : p30_0.T) : Tr (Bool × Bool × List Cell) :=
  .ite (decide ((x.1.1 : Int) = (List.length (α := Cell) x.2.2.2.1 : Int) ∧ (x.1.2.1 : Int) = 0 ∧ List.length (α := Cell) x.2.2.2.1 ≤ 1048576))
    (.ret (x.2.1.1, x.2.2.1.1, U.mend x.2.2.2.1)) .fail
abbrev E30 : Env := M30 fun key x => bif Nat.beq key 3 then p30_0.ls (fun a => (T30 a).map X30_0) x else none
theorem L30 : LoopOK (evI 2) (E30.lend 0) (lc Tryd.f30 0) := by
  refine l30_0 (T := T30) (fun x => rfl) ?_
  rintro ⟨⟨n, i, z⟩, ⟨s, z0⟩, ⟨t, z1⟩, l, z2⟩ r h
  obtain ⟨g1, g2⟩ := pre_val h
  obtain ⟨e1, e2, e3⟩ := of_decide_eq_true g1
  dsimp only at e1 e2 e3 g2
  subst e1; subst e2
  cases g2
  refine Rounds.uptoA (B := b30_0) (σ := List Cell) (N := l.length) (fun i m => (((l.length : Int), (i : Int), ()), (s, ()), (t, ()), m, ())) U.mendAt (fun m => (s, t, m)) (fun _ m => m.length = l.length) (fun i m hi hv => ?_) (fun m hv => ?_) l.length 0 l (by omega) rfl
  · refine ⟨?_, by rw [U.mendAt_len]; exact hv⟩
    have hi' : i < m.length := by omega
    have h1 : (0 : Int) ≤ (i : Int) ∧ (i : Int) < (m.length : Int) ∧ m.length ≤ 1048576 := by omega
    unfold U.mendAt
    cases hw : U.whole m i with
    | true => simp only [b30_0, B30_0, Tr.val, hw, h1, inB_nat hi', Int.toNat_natCast, show ((i : Int) < (l.length : Int)) by omega, decide_true, cond_true, cond_false, Bool.not_true, wrap64_nat (show i ≤ 1048576 by omega), if_true, and_self]
    | false =>
      simp only [b30_0, B30_0, Tr.val, hw, h1, inB_nat hi', Int.toNat_natCast, show ((i : Int) < (l.length : Int)) by omega, decide_true, cond_true, cond_false, Bool.not_false, wrap64_nat (show i ≤ 1048576 by omega), Bool.false_eq_true, if_false, and_self]
      rfl
  · simp only [b30_0, B30_0, Tr.val, show ¬ ((l.length : Int) < (l.length : Int)) by omega, decide_false, cond_false]
def d30 (a1 : List Cell) (a2 : Bool) : Tr (List U.Cl × Bool) :=
  let v1 : Int := ((↑a1.length : Int))
  let v2 : Int := ((↑a1.length : Int))
  Tr.ite (decide (a1.length ≤ (1048576 : Nat))) (Tr.ite (decide (v2 = v1 ∧ (0 : Int) = (0 : Int) ∧ a1.length ≤ (1048576 : Nat))) (Tr.ret (U.mend a1, a2)) Tr.fail) Tr.fail
def e30 (r : List U.Cl × Bool) : FRes := { rs := Slot.av (AV.agg [Leaf.dat celk.sl r.fst, Leaf.dat Kd.bool r.snd]), upd := [], new := [] }
@[reducible] def a30 : List AK := [AK.d link]
@[reducible] def b30 : List BK := []
theorem t30 (a1 : List Cell) (a2 : Bool) : evFn (E30) Tryd.f30 [PM.data link] (akAV a30 ((a1, a2, ()), ())) (bkBs b30 ()) = (d30 a1 a2).map e30 := by kernel_rfl
def s30 (C : akT a30 → Bool) (G : akT a30 → List U.Cl × Bool) : FSpec := aspec a30 b30 e30 (fun x _ => C x) (fun x _ => G x)
def s30' (G : akT a30 → List U.Cl × Bool) : FSpec := aspec0 a30 b30 e30 (fun x _ => G x)
theorem k30 {C : akT a30 → Bool} {G : akT a30 → List U.Cl × Bool} (hd : ∀ (a1 : List Cell) (a2 : Bool), C ((a1, a2, ()), ()) = true → (d30 a1 a2).val = some (G ((a1, a2, ()), ()))) (IO : ItOK Tryd.prog (E30) := by exact itOK_none rfl) (L : ∀ c, Tryd.f30.body = some c → LsOK (evI 2) ((E30).lend 0) c := by exact fun c _ => LsOK_none rfl c) : SpecOK Tryd.prog E0 30 (s30 C G) :=
  aspec_ok (ak := a30) (bl := b30) (e := e30) (c := fun x _ => C x) (g := fun x _ => G x) (E0 := E0) (E := E30) tab AG30 rfl rfl hm Tryd.func30 (by kernel_rfl) [PM.data link] (fun X Y H => by obtain ⟨⟨a1, ⟨a2, _⟩⟩, _⟩ := X; exact val_of (t30 a1 a2) (hd a1 a2 H)) IO L
theorem k30' {G : akT a30 → List U.Cl × Bool} (hd : ∀ (a1 : List Cell) (a2 : Bool), (d30 a1 a2).val = some (G ((a1, a2, ()), ()))) (IO : ItOK Tryd.prog (E30) := by exact itOK_none rfl) (L : ∀ c, Tryd.f30.body = some c → LsOK (evI 2) ((E30).lend 0) c := by exact fun c _ => LsOK_none rfl c) : SpecOK Tryd.prog E0 30 (s30' G) :=
  aspec0_ok (ak := a30) (bl := b30) (e := e30) (g := fun x _ => G x) (E0 := E0) (E := E30) tab AG30 rfl rfl hm Tryd.func30 (by kernel_rfl) [PM.data link] (fun X Y => by obtain ⟨⟨a1, ⟨a2, _⟩⟩, _⟩ := X; exact val_of (t30 a1 a2) (hd a1 a2)) IO L
abbrev w30 : FSpec := s30 (fun x => decide (List.length (α := Cell) x.1.1 ≤ 1048576)) fun x => (U.mend x.1.1, x.1.2.1)
theorem wk30 : SpecOK Tryd.prog E0 30 w30 := by
  refine k30 (fun l s H => ?_) (L := ls_ok (lcs := [lc Tryd.f30 0]) (rgs := []) (by kernel_rfl) (by kernel_rfl) L30 trivial)
  have hl : l.length ≤ 1048576 := of_decide_eq_true H
  show _ = some (U.mend l, s)
  simp only [d30, Tr.val, hl, decide_true, and_self, cond_true]
def live27 (key : Nat) : Lv :=
  bif Nat.beq key 3 then { ls := [2, 3, 15, 16, 17], wd := [⟨3, some 0, .row 48 celk⟩] } else bif Nat.beq key 1003 then { ls := [2, 3] } else
  { ls := [] }
abbrev M27 (ls : Nat → VS → Option (Tr (Ex × VS))) : Env := (E0.withFns []).loops live27 ls
@[reducible] def p27_0 : LP := { n := 37, sl := [.c (Leaf.ptr ( 0) ( 0)), .c (Leaf.ptr ( 1) ( 0)), .d (celk.sl), .d (.int .i64), .d (.int .i64)], bl := [(0, .box [.c (Leaf.nils), .d (Kd.bool)]), (1, .box [.c (Leaf.row ( 2)), .d (Kd.bool)]), (2, .row 48 (celk))] }
def B27_0 (x2 : List Cell) (x3 : Int) (x4 : Int) (h0_1 : Bool) (h1_1 : Bool) (h2 : List Cell) : Tr (p27_0.T ⊕ (Bool × Bool × List Cell)) :=
  let v1 : Int := ((↑(ByteArray.size (rget celk x2 x4).fst) : Int))
  let v2 : Int := (minI v1 (20 : Int))
  Tr.ite (decide (x4 < x3))
    (Tr.ite (inB x4 x2.length)
      (Tr.ite (decide ((0 : Int) ≤ v2 ∧ v2 ≤ v1))
        (Tr.ite (decide ((h2.length + (1 : Nat)) * (48 : Nat) ≤ (140737488355328 : Nat)))
          (Tr.ret (Sum.inl ((x2, x3, IntKind.i64.wrap (x4 + (1 : Int)), ()), (h0_1, ()), (h1_1, ()), h2 ++ [(ByteArray.extract (rget celk x2 x4).fst (0 : Nat) v2.toNat, (rget celk x2 x4).snd)], ())))
          Tr.fail)
        Tr.fail)
      Tr.fail)
    (Tr.ret (Sum.inr (h0_1, h1_1, h2)))
def X27_0 (r : (Bool × Bool × List Cell)) : Ex × VS := Prod.mk (Ex.exit ( 0)) { n := 37, v := [Slot.av (AV.one (Leaf.ptr ( 0) ( 0))), Slot.av (AV.one (Leaf.ptr ( 1) ( 0)))], h := [( 0, Blk.box [Leaf.nils, Leaf.dat Kd.bool r.fst]), ( 1, Blk.box [Leaf.row ( 2), Leaf.dat Kd.bool r.snd.fst]), ( 2, Blk.row ( 48) celk r.snd.snd)] }
def b27_0 : p27_0.T → Tr (p27_0.T ⊕ (Bool × Bool × List Cell)) := fun ⟨⟨x2, ⟨x3, ⟨x4, _⟩⟩⟩, ⟨⟨h0_1, _⟩, ⟨⟨h1_1, _⟩, ⟨h2, _⟩⟩⟩⟩ => B27_0 x2 x3 x4 h0_1 h1_1 h2
theorem h27_0 (ls : Nat → VS → Option (Tr (Ex × VS))) (x : p27_0.T) : (evC (evI 2) (lc Tryd.f27 0) (Env.lend (M27 ls) 0) (unV (live27 3) (p27_0.V x))).map (decL 0 (live27 3) (live27 1003)) = (b27_0 x).map (encR p27_0.V X27_0) := by
  obtain ⟨⟨x2, ⟨x3, ⟨x4, _⟩⟩⟩, ⟨⟨h0_1, _⟩, ⟨⟨h1_1, _⟩, ⟨h2, _⟩⟩⟩⟩ := x; kernel_rfl
theorem c27_0 (x : p27_0.T) : canV 0 (live27 3) (unV (live27 3) (p27_0.V x)) = p27_0.V x := by
  obtain ⟨⟨x2, ⟨x3, ⟨x4, _⟩⟩⟩, ⟨⟨h0_1, _⟩, ⟨⟨h1_1, _⟩, ⟨h2, _⟩⟩⟩⟩ := x; kernel_rfl
theorem l27_0 {T : p27_0.T → Tr (Bool × Bool × List Cell)} {ls : Nat → VS → Option (Tr (Ex × VS))} (hls : ∀ x, (Env.lend (M27 ls) 0).ls 3 x = p27_0.ls (fun a => (T a).map X27_0) x) (hS : ∀ x r, (T x).val = some r → Rounds b27_0 x r) : LoopOK (evI 2) (Env.lend (M27 ls) 0) (lc Tryd.f27 0) :=
  loopA 3 (live27 3) (live27 1003) p27_0 b27_0 X27_0 T (by kernel_rfl) rfl rfl hls (h27_0 ls) c27_0 hS
def T27 (x : p27_0.T) : Tr (Bool × Bool × List Cell) :=
  .ite (decide ((x.1.2.1 : Int) = (List.length (α := Cell) x.1.1 : Int) ∧ (x.1.2.2.1 : Int) = 0 ∧ List.length (α := Cell) x.2.2.2.1 + List.length (α := Cell) x.1.1 ≤ 1048576))
    (.ret (x.2.1.1, x.2.2.1.1, x.2.2.2.1 ++ List.map (α := Cell) (β := Cell) U.cutC x.1.1)) .fail
abbrev E27 : Env := M27 fun key x => bif Nat.beq key 3 then p27_0.ls (fun a => (T27 a).map X27_0) x else none
theorem L27 : LoopOK (evI 2) (E27.lend 0) (lc Tryd.f27 0) := by
  refine l27_0 (T := T27) (fun x => rfl) ?_
  rintro ⟨⟨l, n, i, z⟩, ⟨h0, z0⟩, ⟨h1, z1⟩, h2, z2⟩ r h
  obtain ⟨g1, g2⟩ := pre_val h
  obtain ⟨e1, e2, e3⟩ := of_decide_eq_true g1
  dsimp only at e1 e2 e3 g2
  subst e1; subst e2
  cases g2
  have := Rounds.fold0 (B := b27_0) (σ := List Cell) l (fun i s => ((l, (l.length : Int), (i : Int), ()), (h0, ()), (h1, ()), s, ())) (fun s c => s ++ [U.cutC c]) (fun s => (h0, h1, s)) (fun i s => s.length + (l.length - i) ≤ 1048576) h2 (by omega) (fun i s hi hv => ?_) (fun s hv => ?_)
  · have e : ∀ (l : List Cell) (a : List Cell), l.foldl (fun s c => s ++ [U.cutC c]) a = a ++ l.map U.cutC := by
      intro l
      induction l with
      | nil => intro a; simp
      | cons x l ih => intro a; rw [List.foldl_cons, ih]; simp
    rw [e] at this
    exact this
  · have e : rget celk l (i : Int) = l[i] := by rw [rgetC]; exact getD_el hi
    have e6 : minI (l[i].1.size : Int) 20 = ((min l[i].1.size 20 : Nat) : Int) := minI_nat _ 20
    have e7 : (0 : Int) ≤ ((min l[i].1.size 20 : Nat) : Int) ∧ ((min l[i].1.size 20 : Nat) : Int) ≤ (l[i].1.size : Int) := by omega
    have e8 : (s.length + 1) * 48 ≤ 140737488355328 := by omega
    refine ⟨?_, by simp only [List.length_append, List.length_singleton]; omega⟩
    simp only [b27_0, B27_0, Tr.val, e, e6, e7, e8, inB_nat hi, Int.toNat_natCast, List.length_singleton, show ((i : Int) < (l.length : Int)) by omega, and_self, decide_true, cond_true, wrap64_nat (show i ≤ 1048576 by omega)]
    rfl
  · simp only [b27_0, B27_0, Tr.val, show ¬ ((l.length : Int) < (l.length : Int)) by omega, decide_false, cond_false]
def d27 (a1 : List Cell) (a2 : Bool) : Tr (List Cell × Bool) :=
  let v1 : Int := ((↑a1.length : Int))
  let v2 : Int := (minI v1 (82 : Int))
  let v3 : List Cell := (sub a1 (0 : Nat) v2.toNat)
  let v4 : Int := ((↑v3.length : Int))
  let v5 : Int := ((↑v3.length : Int))
  Tr.ite (decide ((0 : Int) ≤ v2 ∧ v2 ≤ v1)) (Tr.ite (decide (v5 = v4 ∧ (0 : Int) = (0 : Int) ∧ (0 : Nat) + v3.length ≤ (1048576 : Nat))) (Tr.ret (List.map U.cutC v3, a2)) Tr.fail) Tr.fail
def e27 (r : List Cell × Bool) : FRes := { rs := Slot.av (AV.agg [Leaf.dat celk.sl r.fst, Leaf.dat Kd.bool r.snd]), upd := [], new := [] }
@[reducible] def a27 : List AK := [AK.d link]
@[reducible] def b27 : List BK := []
theorem t27 (a1 : List Cell) (a2 : Bool) : evFn (E27) Tryd.f27 [PM.data link] (akAV a27 ((a1, a2, ()), ())) (bkBs b27 ()) = (d27 a1 a2).map e27 := by kernel_rfl
def s27 (C : akT a27 → Bool) (G : akT a27 → List Cell × Bool) : FSpec := aspec a27 b27 e27 (fun x _ => C x) (fun x _ => G x)
def s27' (G : akT a27 → List Cell × Bool) : FSpec := aspec0 a27 b27 e27 (fun x _ => G x)
theorem k27 {C : akT a27 → Bool} {G : akT a27 → List Cell × Bool} (hd : ∀ (a1 : List Cell) (a2 : Bool), C ((a1, a2, ()), ()) = true → (d27 a1 a2).val = some (G ((a1, a2, ()), ()))) (IO : ItOK Tryd.prog (E27) := by exact itOK_none rfl) (L : ∀ c, Tryd.f27.body = some c → LsOK (evI 2) ((E27).lend 0) c := by exact fun c _ => LsOK_none rfl c) : SpecOK Tryd.prog E0 27 (s27 C G) :=
  aspec_ok (ak := a27) (bl := b27) (e := e27) (c := fun x _ => C x) (g := fun x _ => G x) (E0 := E0) (E := E27) tab .nil rfl rfl hm Tryd.func27 (by kernel_rfl) [PM.data link] (fun X Y H => by obtain ⟨⟨a1, ⟨a2, _⟩⟩, _⟩ := X; exact val_of (t27 a1 a2) (hd a1 a2 H)) IO L
theorem k27' {G : akT a27 → List Cell × Bool} (hd : ∀ (a1 : List Cell) (a2 : Bool), (d27 a1 a2).val = some (G ((a1, a2, ()), ()))) (IO : ItOK Tryd.prog (E27) := by exact itOK_none rfl) (L : ∀ c, Tryd.f27.body = some c → LsOK (evI 2) ((E27).lend 0) c := by exact fun c _ => LsOK_none rfl c) : SpecOK Tryd.prog E0 27 (s27' G) :=
  aspec0_ok (ak := a27) (bl := b27) (e := e27) (g := fun x _ => G x) (E0 := E0) (E := E27) tab .nil rfl rfl hm Tryd.func27 (by kernel_rfl) [PM.data link] (fun X Y => by obtain ⟨⟨a1, ⟨a2, _⟩⟩, _⟩ := X; exact val_of (t27 a1 a2) (hd a1 a2)) IO L
abbrev w27 : FSpec := s27' fun x => (U.cutL x.1.1, x.1.2.1)
theorem wk27 : SpecOK Tryd.prog E0 27 w27 := by
  refine k27' (fun l s => ?_) (L := ls_ok (lcs := [lc Tryd.f27 0]) (rgs := []) (by kernel_rfl) (by kernel_rfl) L27 trivial)
  show _ = some (U.cutL l, s)
  have e6 : minI (l.length : Int) 82 = ((min l.length 82 : Nat) : Int) := minI_nat _ 82
  have e7 : (0 : Int) ≤ ((min l.length 82 : Nat) : Int) ∧ ((min l.length 82 : Nat) : Int) ≤ (l.length : Int) := by omega
  have e9 : sub l 0 (min l.length 82) = l.take 82 := by
    unfold sub
    rw [List.drop_zero]
    rcases Nat.le_total l.length 82 with h | h
    · rw [Nat.min_eq_left h, List.take_length, List.take_of_length_le h]
    · rw [Nat.min_eq_right h]
  have e10 : 0 + (l.take 82).length ≤ 1048576 := by rw [List.length_take]; omega
  simp only [d27, Tr.val, e6, e7, e9, e10, Int.toNat_natCast, List.length_nil, and_self, decide_true, cond_true, List.nil_append]
  rfl
def d179 (a : Int) (b : Int) : Tr (Int × Int) :=
  let v1 : Int := (b.fdiv (4294967296 : Int))
  let v2 : Int := (a.fdiv (4294967296 : Int))
  let v3 : Int := ((↑(BitVec.ofInt (64 : Nat) a &&& BitVec.ofInt (64 : Nat) (4294967295 : Int)).toNat : Int))
  let v4 : Int := ((↑(BitVec.ofInt (64 : Nat) b &&& BitVec.ofInt (64 : Nat) (4294967295 : Int)).toNat : Int))
  let v5 : Int := (v2 * IntKind.u64.wrap v4)
  let v6 : Int := (IntKind.u64.wrap v3 * IntKind.u64.wrap v4)
  let v7 : Int := ((IntKind.u64.wrap v6).fdiv (4294967296 : Int))
  let v8 : Int := (IntKind.u64.wrap v5 + v7)
  Tr.ite true
    (Tr.ite true
      (Tr.ite true
        (Tr.ite true
          (Tr.ite true
            (Tr.ret
              (IntKind.u64.wrap
                  (IntKind.u64.wrap (IntKind.u64.wrap (v2 * v1) + (IntKind.u64.wrap v8).fdiv (4294967296 : Int)) +
                    (IntKind.u64.wrap
                          (IntKind.u64.wrap (↑(BitVec.ofInt (64 : Nat) (IntKind.u64.wrap v8) &&& BitVec.ofInt (64 : Nat) (4294967295 : Int)).toNat : Int) +
                            IntKind.u64.wrap (IntKind.u64.wrap v3 * v1))).fdiv
                      (4294967296 : Int)),
                IntKind.u64.wrap (a * b)))
            Tr.fail)
          Tr.fail)
        Tr.fail)
      Tr.fail)
    Tr.fail
def e179 (r : Int × Int) : FRes := { rs := Slot.tup [AV.one (Leaf.dat (Kd.int IntKind.u64) r.fst), AV.one (Leaf.dat (Kd.int IntKind.u64) r.snd)], upd := [], new := [] }
@[reducible] def a179 : List AK := [AK.d (Kd.int IntKind.u64), AK.d (Kd.int IntKind.u64)]
@[reducible] def b179 : List BK := []
theorem t179 (a : Int) (b : Int) : evFn (E0) Tryd.f179 [PM.data (Kd.int IntKind.u64), PM.data (Kd.int IntKind.u64)] (akAV a179 (a, b, ())) (bkBs b179 ()) = (d179 a b).map e179 := by kernel_rfl
def s179 (C : akT a179 → Bool) (G : akT a179 → Int × Int) : FSpec := aspec a179 b179 e179 (fun x _ => C x) (fun x _ => G x)
def s179' (G : akT a179 → Int × Int) : FSpec := aspec0 a179 b179 e179 (fun x _ => G x)
theorem k179 {C : akT a179 → Bool} {G : akT a179 → Int × Int} (hd : ∀ (a : Int) (b : Int), C (a, b, ()) = true → (d179 a b).val = some (G (a, b, ()))) (IO : ItOK Tryd.prog (E0) := by exact itOK_none rfl) (L : ∀ c, Tryd.f179.body = some c → LsOK (evI 2) ((E0).lend 0) c := by exact fun c _ => LsOK_none rfl c) : SpecOK Tryd.prog E0 179 (s179 C G) :=
  aspec_ok (ak := a179) (bl := b179) (e := e179) (c := fun x _ => C x) (g := fun x _ => G x) (E0 := E0) (E := E0) tab .nil rfl rfl hm Tryd.func179 (by kernel_rfl) [PM.data (Kd.int IntKind.u64), PM.data (Kd.int IntKind.u64)] (fun X Y H => by obtain ⟨a, ⟨b, _⟩⟩ := X; exact val_of (t179 a b) (hd a b H)) IO L
theorem k179' {G : akT a179 → Int × Int} (hd : ∀ (a : Int) (b : Int), (d179 a b).val = some (G (a, b, ()))) (IO : ItOK Tryd.prog (E0) := by exact itOK_none rfl) (L : ∀ c, Tryd.f179.body = some c → LsOK (evI 2) ((E0).lend 0) c := by exact fun c _ => LsOK_none rfl c) : SpecOK Tryd.prog E0 179 (s179' G) :=
  aspec0_ok (ak := a179) (bl := b179) (e := e179) (g := fun x _ => G x) (E0 := E0) (E := E0) tab .nil rfl rfl hm Tryd.func179 (by kernel_rfl) [PM.data (Kd.int IntKind.u64), PM.data (Kd.int IntKind.u64)] (fun X Y => by obtain ⟨a, ⟨b, _⟩⟩ := X; exact val_of (t179 a b) (hd a b)) IO L
abbrev w179 : FSpec := s179 (fun x => decide ((x.1 : Int) = 1 ∧ 0 ≤ (x.2.1 : Int) ∧ (x.2.1 : Int) < 128)) fun x => ((0 : Int), x.2.1)
theorem wk179 : SpecOK Tryd.prog E0 179 w179 := by
  refine k179 fun a b H => ?_
  obtain ⟨h1, h2, h3⟩ := of_decide_eq_true H
  dsimp only at h1 h2 h3
  subst h1
  obtain ⟨n, rfl⟩ := Int.eq_ofNat_of_zero_le h2
  have hn : n < 128 := Int.ofNat_lt.1 h3
  have : ∀ m : Fin 128, (d179 1 (m.val : Int)).val = some ((0 : Int), (m.val : Int)) := by decide +kernel
  exact this ⟨n, hn⟩
def d172 (a : Int) (b : Int) : Tr (Int × Int) :=
  Tr.ite (decide (a = (1 : Int) ∧ (0 : Int) ≤ b ∧ b < (128 : Int))) (Tr.ret ((0 : Int), b)) Tr.fail
def e172 (r : Int × Int) : FRes := { rs := Slot.tup [AV.one (Leaf.dat (Kd.int IntKind.u64) r.fst), AV.one (Leaf.dat (Kd.int IntKind.u64) r.snd)], upd := [], new := [] }
@[reducible] def a172 : List AK := [AK.d (Kd.int IntKind.u64), AK.d (Kd.int IntKind.u64)]
@[reducible] def b172 : List BK := []
theorem t172 (a : Int) (b : Int) : evFn (E0.withFns [((179 : Nat), w179)]) Tryd.f172 [PM.data (Kd.int IntKind.u64), PM.data (Kd.int IntKind.u64)] (akAV a172 (a, b, ())) (bkBs b172 ()) = (d172 a b).map e172 := by kernel_rfl
def s172 (C : akT a172 → Bool) (G : akT a172 → Int × Int) : FSpec := aspec a172 b172 e172 (fun x _ => C x) (fun x _ => G x)
def s172' (G : akT a172 → Int × Int) : FSpec := aspec0 a172 b172 e172 (fun x _ => G x)
theorem k172 {C : akT a172 → Bool} {G : akT a172 → Int × Int} (hd : ∀ (a : Int) (b : Int), C (a, b, ()) = true → (d172 a b).val = some (G (a, b, ()))) (IO : ItOK Tryd.prog (E0.withFns [((179 : Nat), w179)]) := by exact itOK_none rfl) (L : ∀ c, Tryd.f172.body = some c → LsOK (evI 2) ((E0.withFns [((179 : Nat), w179)]).lend 0) c := by exact fun c _ => LsOK_none rfl c) : SpecOK Tryd.prog E0 172 (s172 C G) :=
  aspec_ok (ak := a172) (bl := b172) (e := e172) (c := fun x _ => C x) (g := fun x _ => G x) (E0 := E0) (E := E0.withFns [((179 : Nat), w179)]) tab (.cons wk179 .nil) rfl rfl hm Tryd.func172 (by kernel_rfl) [PM.data (Kd.int IntKind.u64), PM.data (Kd.int IntKind.u64)] (fun X Y H => by obtain ⟨a, ⟨b, _⟩⟩ := X; exact val_of (t172 a b) (hd a b H)) IO L
theorem k172' {G : akT a172 → Int × Int} (hd : ∀ (a : Int) (b : Int), (d172 a b).val = some (G (a, b, ()))) (IO : ItOK Tryd.prog (E0.withFns [((179 : Nat), w179)]) := by exact itOK_none rfl) (L : ∀ c, Tryd.f172.body = some c → LsOK (evI 2) ((E0.withFns [((179 : Nat), w179)]).lend 0) c := by exact fun c _ => LsOK_none rfl c) : SpecOK Tryd.prog E0 172 (s172' G) :=
  aspec0_ok (ak := a172) (bl := b172) (e := e172) (g := fun x _ => G x) (E0 := E0) (E := E0.withFns [((179 : Nat), w179)]) tab (.cons wk179 .nil) rfl rfl hm Tryd.func172 (by kernel_rfl) [PM.data (Kd.int IntKind.u64), PM.data (Kd.int IntKind.u64)] (fun X Y => by obtain ⟨a, ⟨b, _⟩⟩ := X; exact val_of (t172 a b) (hd a b)) IO L
abbrev w172 : FSpec := s172 (fun x => decide ((x.1 : Int) = 1 ∧ 0 ≤ (x.2.1 : Int) ∧ (x.2.1 : Int) < 128)) fun x => ((0 : Int), x.2.1)
theorem wk172 : SpecOK Tryd.prog E0 172 w172 := by
  refine k172 fun a b H => ?_
  obtain ⟨h1, h2, h3⟩ := of_decide_eq_true H
  dsimp only at h1 h2 h3
  simp only [d172, Tr.val, h1, h2, h3, and_self, decide_true, cond_true]
def d121 (a1 : List Cell) (a2 : Bool) (h0_0 : Int) (h0_1 : List Line) : Tr (Bool × Int × List Line) :=
  let v1 : Int := ((↑a1.length : Int))
  Tr.ite (U.okc a1) (Tr.ret (!(U.fitC a1 && decide (v1 = h0_0)), h0_0, h0_1)) Tr.fail
def e121 (r : Bool × Int × List Line) : FRes := { rs := Slot.av (AV.one (Leaf.dat Kd.bool r.fst)), upd := [Blk.box [Leaf.dat (.int .i64) r.snd.fst, Leaf.dat link.sl r.snd.snd]], new := [] }
@[reducible] def a121 : List AK := [AK.d link, AK.c (Leaf.ptr (0 : Nat) (0 : Nat))]
@[reducible] def b121 : List BK := [BK.box [SK.d (.int .i64), SK.d link.sl]]
theorem t121 (a1 : List Cell) (a2 : Bool) (h0_0 : Int) (h0_1 : List Line) : evFn (E0.withFns [((31 : Nat), w31)]) Tryd.f121 [PM.data Kd.bool] (akAV a121 ((a1, a2, ()), ())) (bkBs b121 ((h0_0, h0_1, ()), ())) = (d121 a1 a2 h0_0 h0_1).map e121 := by kernel_rfl
def s121 (C : akT a121 → bksT b121 → Bool) (G : akT a121 → bksT b121 → Bool × Int × List Line) : FSpec := aspec a121 b121 e121 (C) (G)
def s121' (G : akT a121 → bksT b121 → Bool × Int × List Line) : FSpec := aspec0 a121 b121 e121 (G)
theorem k121 {C : akT a121 → bksT b121 → Bool} {G : akT a121 → bksT b121 → Bool × Int × List Line} (hd : ∀ (a1 : List Cell) (a2 : Bool) (h0_0 : Int) (h0_1 : List Line), C ((a1, a2, ()), ()) ((h0_0, h0_1, ()), ()) = true → (d121 a1 a2 h0_0 h0_1).val = some (G ((a1, a2, ()), ()) ((h0_0, h0_1, ()), ()))) (IO : ItOK Tryd.prog (E0.withFns [((31 : Nat), w31)]) := by exact itOK_none rfl) (L : ∀ c, Tryd.f121.body = some c → LsOK (evI 2) ((E0.withFns [((31 : Nat), w31)]).lend 1) c := by exact fun c _ => LsOK_none rfl c) : SpecOK Tryd.prog E0 121 (s121 C G) :=
  aspec_ok (ak := a121) (bl := b121) (e := e121) (c := C) (g := G) (E0 := E0) (E := E0.withFns [((31 : Nat), w31)]) tab (.cons wk31 .nil) rfl rfl hm Tryd.func121 (by kernel_rfl) [PM.data Kd.bool] (fun X Y H => by obtain ⟨⟨a1, ⟨a2, _⟩⟩, _⟩ := X; obtain ⟨⟨h0_0, ⟨h0_1, _⟩⟩, _⟩ := Y; exact val_of (t121 a1 a2 h0_0 h0_1) (hd a1 a2 h0_0 h0_1 H)) IO L
theorem k121' {G : akT a121 → bksT b121 → Bool × Int × List Line} (hd : ∀ (a1 : List Cell) (a2 : Bool) (h0_0 : Int) (h0_1 : List Line), (d121 a1 a2 h0_0 h0_1).val = some (G ((a1, a2, ()), ()) ((h0_0, h0_1, ()), ()))) (IO : ItOK Tryd.prog (E0.withFns [((31 : Nat), w31)]) := by exact itOK_none rfl) (L : ∀ c, Tryd.f121.body = some c → LsOK (evI 2) ((E0.withFns [((31 : Nat), w31)]).lend 1) c := by exact fun c _ => LsOK_none rfl c) : SpecOK Tryd.prog E0 121 (s121' G) :=
  aspec0_ok (ak := a121) (bl := b121) (e := e121) (g := G) (E0 := E0) (E := E0.withFns [((31 : Nat), w31)]) tab (.cons wk31 .nil) rfl rfl hm Tryd.func121 (by kernel_rfl) [PM.data Kd.bool] (fun X Y => by obtain ⟨⟨a1, ⟨a2, _⟩⟩, _⟩ := X; obtain ⟨⟨h0_0, ⟨h0_1, _⟩⟩, _⟩ := Y; exact val_of (t121 a1 a2 h0_0 h0_1) (hd a1 a2 h0_0 h0_1)) IO L
end Go.Proofs.YtmnbcnhpklejcaaDoor
namespace U
def misfit (n : Int) (y : Ln) : Bool := !(fitC y.1 && decide ((y.1.length : Int) = n))
end U
namespace Go.Proofs.YtmnbcnhpklejcaaDoor
abbrev w121 : FSpec := s121 (fun x _ => U.okc x.1.1) fun x y => (U.misfit y.1.1 x.1, y.1.1, y.1.2.1)
theorem wk121 : SpecOK Tryd.prog E0 121 w121 := by
  refine k121 fun l s n g H => ?_
  have H : U.okc l = true := H
  simp only [d121, Tr.val, H, cond_true]
  rfl
namespace GR
def live131 (key : Nat) : Lv :=
  bif Nat.beq key 2 then { ls := [0, 1, 7, 8] } else bif Nat.beq key 1002 then { ls := [4] } else
  { ls := [] }
abbrev M131 (ls : Nat → VS → Option (Tr (Ex × VS))) : Env := (E0.withFns [(121, w121)]).loops live131 ls
@[reducible] def p131_0 : LP := { n := 19, sl := [.d (link.sl), .c (Leaf.fn ( 121) [0]), .d (.int .i64), .d (.int .i64)], bl := [(0, .box [.d (.int .i64), .d (link.sl)])] }
def B131_0 (x0 : List Line) (x2 : Int) (x3 : Int) (h0_0 : Int) (h0_1 : List Line) : Tr (p131_0.T ⊕ (Int × Int × List Line ⊕ Int × List Line)) :=
  Tr.ite (decide (x3 < x2))
    (Tr.ite (inB x3 x0.length)
      (Tr.ite (U.okc (rget link x0 x3).fst)
        (Tr.ite (U.misfit h0_0 (rget link x0 x3)) (Tr.ret (Sum.inr (Sum.inl (x3, h0_0, h0_1)))) (Tr.ret (Sum.inl ((x0, x2, IntKind.i64.wrap (x3 + (1 : Int)), ()), (h0_0, h0_1, ()), ())))) Tr.fail)
      Tr.fail)
    (Tr.ret (Sum.inr (Sum.inr (h0_0, h0_1))))
def X131_0 : (Int × Int × List Line ⊕ Int × List Line) → Ex × VS
  | (.inl r) => Prod.mk Ex.ret { n := 19, v := [Slot.av (AV.one (Leaf.dat (.int .i64) r.fst))], h := [( 0, Blk.box [Leaf.dat (.int .i64) r.snd.fst, Leaf.dat link.sl r.snd.snd])] }
  | (.inr r) => Prod.mk (Ex.exit ( 0)) { n := 19, v := [Slot.av (AV.one Leaf.undef)], h := [( 0, Blk.box [Leaf.dat (.int .i64) r.fst, Leaf.dat link.sl r.snd])] }
def b131_0 : p131_0.T → Tr (p131_0.T ⊕ (Int × Int × List Line ⊕ Int × List Line)) := fun ⟨⟨x0, ⟨x2, ⟨x3, _⟩⟩⟩, ⟨⟨h0_0, ⟨h0_1, _⟩⟩, _⟩⟩ => B131_0 x0 x2 x3 h0_0 h0_1
theorem h131_0 (ls : Nat → VS → Option (Tr (Ex × VS))) (x : p131_0.T) : (evC (evI 2) (lc Tryd.f131 0) (Env.lend (M131 ls) 1) (unV (live131 2) (p131_0.V x))).map (decL 1 (live131 2) (live131 1002)) = (b131_0 x).map (encR p131_0.V X131_0) := by
  obtain ⟨⟨x0, ⟨x2, ⟨x3, _⟩⟩⟩, ⟨⟨h0_0, ⟨h0_1, _⟩⟩, _⟩⟩ := x; kernel_rfl
theorem c131_0 (x : p131_0.T) : canV 1 (live131 2) (unV (live131 2) (p131_0.V x)) = p131_0.V x := by
  obtain ⟨⟨x0, ⟨x2, ⟨x3, _⟩⟩⟩, ⟨⟨h0_0, ⟨h0_1, _⟩⟩, _⟩⟩ := x; kernel_rfl
theorem l131_0 {T : p131_0.T → Tr (Int × Int × List Line ⊕ Int × List Line)} {ls : Nat → VS → Option (Tr (Ex × VS))} (hls : ∀ x, (Env.lend (M131 ls) 1).ls 2 x = p131_0.ls (fun a => (T a).map X131_0) x) (hS : ∀ x r, (T x).val = some r → Rounds b131_0 x r) : LoopOK (evI 2) (Env.lend (M131 ls) 1) (lc Tryd.f131 0) :=
  loopA 2 (live131 2) (live131 1002) p131_0 b131_0 X131_0 T (by kernel_rfl) rfl rfl hls (h131_0 ls) c131_0 hS
def T131 (x : p131_0.T) : Tr (Int × Int × List Line ⊕ Int × List Line) :=
  .ite (decide ((x.1.2.1 : Int) = (List.length (α := Line) x.1.1 : Int) ∧ (x.1.2.2.1 : Int) = 0) && U.okl x.1.1)
    (.ite (findN (fun i => U.misfit x.2.1.1 (List.getD (α := Line) x.1.1 i U.dL)) (List.length (α := Line) x.1.1) 0).isSome (.ret (.inl ((((findN (fun i => U.misfit x.2.1.1 (List.getD (α := Line) x.1.1 i U.dL)) (List.length (α := Line) x.1.1) 0).getD 0 : Nat) : Int), x.2.1.1, x.2.1.2.1))) (.ret (.inr (x.2.1.1, x.2.1.2.1)))) .fail
abbrev E131 : Env := M131 fun key x => bif Nat.beq key 2 then p131_0.ls (fun a => (T131 a).map X131_0) x else none
theorem L131 : LoopOK (evI 2) (E131.lend 1) (lc Tryd.f131 0) := by
  refine l131_0 (T := T131) (fun x => rfl) ?_
  rintro ⟨⟨l, n, i, z⟩, ⟨c, g, z1⟩, z2⟩ r h
  obtain ⟨h1, h2⟩ := pre_val h
  rw [Bool.and_eq_true] at h1
  obtain ⟨h1, hok⟩ := h1
  obtain ⟨e1, e2⟩ := of_decide_eq_true h1
  dsimp only at e1 e2 hok h2
  subst e1
  subst e2
  have hl := U.okl_len hok
  have := Rounds.find (B := b131_0) (N := l.length) (fun i => ((l, (l.length : Int), (i : Int), ()), (c, g, ()), ())) (fun i => U.misfit c (l.getD i U.dL)) (fun i => .inl ((i : Int), c, g)) (.inr (c, g)) (fun i hi => ?_) ?_
  · cases hf : findN (fun i => U.misfit c (l.getD i U.dL)) l.length 0 <;> simp only [hf, Tr.val, Option.isSome_none, Option.isSome_some, Option.getD_some, cond_true, cond_false, outN] at h2 this <;> cases h2 <;> exact this
  · have h3 := U.okl_at hok hi
    simp only [b131_0, B131_0, Tr.val, inB_nat hi, rgetL, h3, show ((i : Int) < (l.length : Int)) by omega, decide_true, cond_true, wrap64_nat (show i ≤ 1048576 by omega)]
    cases U.misfit c (l.getD i U.dL) <;> rfl
  · simp only [b131_0, B131_0, Tr.val, show ¬ ((l.length : Int) < (l.length : Int)) by omega, decide_false, cond_false]
def d131 (a : List Line) (h0_0 : Int) (h0_1 : List Line) : Tr (Int × Int × List Line) :=
  let v1 : Int := ((↑a.length : Int))
  let v2 : Int := ((↑a.length : Int))
  Tr.ite (decide (v2 = v1 ∧ (0 : Int) = (0 : Int)) && U.okl a)
    (Tr.ite (findN (fun (i : Nat) => U.misfit h0_0 (a.getD i U.dL)) a.length (0 : Nat)).isSome
      (Tr.ret ((↑((findN (fun (i : Nat) => U.misfit h0_0 (a.getD i U.dL)) a.length (0 : Nat)).getD (0 : Nat)) : Int), h0_0, h0_1)) (Tr.ret ((-1 : Int), h0_0, h0_1)))
    Tr.fail
def e131 (r : Int × Int × List Line) : FRes := { rs := Slot.av (AV.one (Leaf.dat (.int .i64) r.fst)), upd := [Blk.box [Leaf.dat (.int .i64) r.snd.fst, Leaf.dat link.sl r.snd.snd]], new := [] }
@[reducible] def a131 : List AK := [AK.d link.sl, AK.c (Leaf.fn (121 : FuncId) [(0 : Nat)])]
@[reducible] def b131 : List BK := [BK.box [SK.d (.int .i64), SK.d link.sl]]
theorem t131 (a : List Line) (h0_0 : Int) (h0_1 : List Line) : evFn (E131) Tryd.f131 [PM.data (.int .i64)] (akAV a131 (a, ())) (bkBs b131 ((h0_0, h0_1, ()), ())) = (d131 a h0_0 h0_1).map e131 := by kernel_rfl
def s131 (C : akT a131 → bksT b131 → Bool) (G : akT a131 → bksT b131 → Int × Int × List Line) : FSpec := aspec a131 b131 e131 (C) (G)
def s131' (G : akT a131 → bksT b131 → Int × Int × List Line) : FSpec := aspec0 a131 b131 e131 (G)
theorem k131 {C : akT a131 → bksT b131 → Bool} {G : akT a131 → bksT b131 → Int × Int × List Line} (hd : ∀ (a : List Line) (h0_0 : Int) (h0_1 : List Line), C (a, ()) ((h0_0, h0_1, ()), ()) = true → (d131 a h0_0 h0_1).val = some (G (a, ()) ((h0_0, h0_1, ()), ()))) (IO : ItOK Tryd.prog (E131) := by exact itOK_none rfl) (L : ∀ c, Tryd.f131.body = some c → LsOK (evI 2) ((E131).lend 1) c := by exact fun c _ => LsOK_none rfl c) : SpecOK Tryd.prog E0 131 (s131 C G) :=
  aspec_ok (ak := a131) (bl := b131) (e := e131) (c := C) (g := G) (E0 := E0) (E := E131) tab (.cons wk121 .nil) rfl rfl hm Tryd.func131 (by kernel_rfl) [PM.data (.int .i64)] (fun X Y H => by obtain ⟨a, _⟩ := X; obtain ⟨⟨h0_0, ⟨h0_1, _⟩⟩, _⟩ := Y; exact val_of (t131 a h0_0 h0_1) (hd a h0_0 h0_1 H)) IO L
theorem k131' {G : akT a131 → bksT b131 → Int × Int × List Line} (hd : ∀ (a : List Line) (h0_0 : Int) (h0_1 : List Line), (d131 a h0_0 h0_1).val = some (G (a, ()) ((h0_0, h0_1, ()), ()))) (IO : ItOK Tryd.prog (E131) := by exact itOK_none rfl) (L : ∀ c, Tryd.f131.body = some c → LsOK (evI 2) ((E131).lend 1) c := by exact fun c _ => LsOK_none rfl c) : SpecOK Tryd.prog E0 131 (s131' G) :=
  aspec0_ok (ak := a131) (bl := b131) (e := e131) (g := G) (E0 := E0) (E := E131) tab (.cons wk121 .nil) rfl rfl hm Tryd.func131 (by kernel_rfl) [PM.data (.int .i64)] (fun X Y => by obtain ⟨a, _⟩ := X; obtain ⟨⟨h0_0, ⟨h0_1, _⟩⟩, _⟩ := Y; exact val_of (t131 a h0_0 h0_1) (hd a h0_0 h0_1)) IO L
abbrev w131 : FSpec := s131 (fun x _ => U.okl x.1) fun x y => (optI' (findN (fun i => U.misfit y.1.1 (List.getD (α := Line) x.1 i U.dL)) (List.length (α := Line) x.1) 0), y.1.1, y.1.2.1)
theorem wk131 : SpecOK Tryd.prog E0 131 w131 := by
  refine k131 (fun l n g H => ?_) (L := ls_ok (lcs := [lc Tryd.f131 0]) (rgs := []) (by kernel_rfl) (by kernel_rfl) L131 trivial)
  have H : U.okl l = true := H
  simp only [d131, Tr.val, H, and_self, decide_true, Bool.and_self, cond_true]
  cases findN (fun i => U.misfit n (l.getD i U.dL)) l.length 0 <;> rfl
def d79 (a : List Line) (h0_0 : Int) (h0_1 : List Line) : Tr (Bool × Int × List Line) :=
  let v1 : Int := (optI' (findN (fun (i : Nat) => U.misfit h0_0 (a.getD i U.dL)) a.length (0 : Nat)))
  Tr.ite (U.okl a) (Tr.ret (decide ((0 : Int) ≤ v1), h0_0, h0_1)) Tr.fail
def e79 (r : Bool × Int × List Line) : FRes := { rs := Slot.av (AV.one (Leaf.dat Kd.bool r.fst)), upd := [Blk.box [Leaf.dat (.int .i64) r.snd.fst, Leaf.dat link.sl r.snd.snd]], new := [] }
@[reducible] def a79 : List AK := [AK.d link.sl, AK.c (Leaf.fn (121 : FuncId) [(0 : Nat)])]
@[reducible] def b79 : List BK := [BK.box [SK.d (.int .i64), SK.d link.sl]]
theorem t79 (a : List Line) (h0_0 : Int) (h0_1 : List Line) : evFn (E0.withFns [((131 : Nat), w131)]) Tryd.f79 [PM.data Kd.bool] (akAV a79 (a, ())) (bkBs b79 ((h0_0, h0_1, ()), ())) = (d79 a h0_0 h0_1).map e79 := by kernel_rfl
def s79 (C : akT a79 → bksT b79 → Bool) (G : akT a79 → bksT b79 → Bool × Int × List Line) : FSpec := aspec a79 b79 e79 (C) (G)
def s79' (G : akT a79 → bksT b79 → Bool × Int × List Line) : FSpec := aspec0 a79 b79 e79 (G)
theorem k79 {C : akT a79 → bksT b79 → Bool} {G : akT a79 → bksT b79 → Bool × Int × List Line} (hd : ∀ (a : List Line) (h0_0 : Int) (h0_1 : List Line), C (a, ()) ((h0_0, h0_1, ()), ()) = true → (d79 a h0_0 h0_1).val = some (G (a, ()) ((h0_0, h0_1, ()), ()))) (IO : ItOK Tryd.prog (E0.withFns [((131 : Nat), w131)]) := by exact itOK_none rfl) (L : ∀ c, Tryd.f79.body = some c → LsOK (evI 2) ((E0.withFns [((131 : Nat), w131)]).lend 1) c := by exact fun c _ => LsOK_none rfl c) : SpecOK Tryd.prog E0 79 (s79 C G) :=
  aspec_ok (ak := a79) (bl := b79) (e := e79) (c := C) (g := G) (E0 := E0) (E := E0.withFns [((131 : Nat), w131)]) tab (.cons wk131 .nil) rfl rfl hm Tryd.func79 (by kernel_rfl) [PM.data Kd.bool] (fun X Y H => by obtain ⟨a, _⟩ := X; obtain ⟨⟨h0_0, ⟨h0_1, _⟩⟩, _⟩ := Y; exact val_of (t79 a h0_0 h0_1) (hd a h0_0 h0_1 H)) IO L
theorem k79' {G : akT a79 → bksT b79 → Bool × Int × List Line} (hd : ∀ (a : List Line) (h0_0 : Int) (h0_1 : List Line), (d79 a h0_0 h0_1).val = some (G (a, ()) ((h0_0, h0_1, ()), ()))) (IO : ItOK Tryd.prog (E0.withFns [((131 : Nat), w131)]) := by exact itOK_none rfl) (L : ∀ c, Tryd.f79.body = some c → LsOK (evI 2) ((E0.withFns [((131 : Nat), w131)]).lend 1) c := by exact fun c _ => LsOK_none rfl c) : SpecOK Tryd.prog E0 79 (s79' G) :=
  aspec0_ok (ak := a79) (bl := b79) (e := e79) (g := G) (E0 := E0) (E := E0.withFns [((131 : Nat), w131)]) tab (.cons wk131 .nil) rfl rfl hm Tryd.func79 (by kernel_rfl) [PM.data Kd.bool] (fun X Y => by obtain ⟨a, _⟩ := X; obtain ⟨⟨h0_0, ⟨h0_1, _⟩⟩, _⟩ := Y; exact val_of (t79 a h0_0 h0_1) (hd a h0_0 h0_1)) IO L
abbrev w79 : FSpec := s79 (fun x _ => U.okl x.1) fun x y => (List.any (α := Line) x.1 (U.misfit y.1.1), y.1.1, y.1.2.1)
theorem wk79 : SpecOK Tryd.prog E0 79 w79 := by
  refine k79 fun l n g H => ?_
  have H : U.okl l = true := H
  show _ = some (l.any (U.misfit n), n, g)
  rw [← find_any (U.misfit n) U.dL l]
  simp only [d79, Tr.val, H, cond_true]
  cases findN (fun i => U.misfit n (l.getD i U.dL)) l.length 0 <;> simp [optI']
end GR
abbrev G67 : List (Nat × FSpec) := [(93, w93), (79, GR.w79)]
theorem AG67 : AllFn Tryd.prog E0 G67 := .cons wk93 (.cons GR.wk79 .nil)
abbrev gridk : Kd := .pr (.int .i64) (.pr (.sl link) .un)
def d67 (a1 : Int) (a2 : List Line) : Tr (Bool) :=
  Tr.ite (U.inn a1 (1 : Int) (80 : Int)) (Tr.ite (U.inn (↑a2.length : Int) (1 : Int) (50 : Int)) (Tr.ite (U.okl a2) (Tr.ret !a2.any (U.misfit a1)) Tr.fail) (Tr.ret false)) (Tr.ret false)
def e67 (r : Bool) : FRes := { rs := Slot.av (AV.one (Leaf.dat Kd.bool r)), upd := [], new := [] }
@[reducible] def a67 : List AK := [AK.d gridk]
@[reducible] def b67 : List BK := []
theorem t67 (a1 : Int) (a2 : List Line) : evFn (E0.withFns G67) Tryd.f67 [PM.data Kd.bool] (akAV a67 ((a1, a2, ()), ())) (bkBs b67 ()) = (d67 a1 a2).map e67 := by kernel_rfl
def s67 (C : akT a67 → Bool) (G : akT a67 → Bool) : FSpec := aspec a67 b67 e67 (fun x _ => C x) (fun x _ => G x)
def s67' (G : akT a67 → Bool) : FSpec := aspec0 a67 b67 e67 (fun x _ => G x)
theorem k67 {C : akT a67 → Bool} {G : akT a67 → Bool} (hd : ∀ (a1 : Int) (a2 : List Line), C ((a1, a2, ()), ()) = true → (d67 a1 a2).val = some (G ((a1, a2, ()), ()))) (IO : ItOK Tryd.prog (E0.withFns G67) := by exact itOK_none rfl) (L : ∀ c, Tryd.f67.body = some c → LsOK (evI 2) ((E0.withFns G67).lend 0) c := by exact fun c _ => LsOK_none rfl c) : SpecOK Tryd.prog E0 67 (s67 C G) :=
  aspec_ok (ak := a67) (bl := b67) (e := e67) (c := fun x _ => C x) (g := fun x _ => G x) (E0 := E0) (E := E0.withFns G67) tab AG67 rfl rfl hm Tryd.func67 (by kernel_rfl) [PM.data Kd.bool] (fun X Y H => by obtain ⟨⟨a1, ⟨a2, _⟩⟩, _⟩ := X; exact val_of (t67 a1 a2) (hd a1 a2 H)) IO L
theorem k67' {G : akT a67 → Bool} (hd : ∀ (a1 : Int) (a2 : List Line), (d67 a1 a2).val = some (G ((a1, a2, ()), ()))) (IO : ItOK Tryd.prog (E0.withFns G67) := by exact itOK_none rfl) (L : ∀ c, Tryd.f67.body = some c → LsOK (evI 2) ((E0.withFns G67).lend 0) c := by exact fun c _ => LsOK_none rfl c) : SpecOK Tryd.prog E0 67 (s67' G) :=
  aspec0_ok (ak := a67) (bl := b67) (e := e67) (g := fun x _ => G x) (E0 := E0) (E := E0.withFns G67) tab AG67 rfl rfl hm Tryd.func67 (by kernel_rfl) [PM.data Kd.bool] (fun X Y => by obtain ⟨⟨a1, ⟨a2, _⟩⟩, _⟩ := X; exact val_of (t67 a1 a2) (hd a1 a2)) IO L
end Go.Proofs.YtmnbcnhpklejcaaDoor
namespace U
/-- May a grid be? -/
def gridR (c : Int) (l : List Ln) : Bool := inn c 1 80 && (inn (l.length : Int) 1 50 && !l.any (misfit c))
end U
namespace Go.Proofs.YtmnbcnhpklejcaaDoor
abbrev w67 : FSpec := s67 (fun x => U.okl x.1.2.1) fun x => U.gridR x.1.1 x.1.2.1
theorem wk67 : SpecOK Tryd.prog E0 67 w67 := by
  refine k67 fun c l H => ?_
  have H : U.okl l = true := H
  show _ = some (U.gridR c l)
  unfold U.gridR
  cases h1 : U.inn c 1 80 <;> cases h2 : U.inn (l.length : Int) 1 50 <;> simp only [d67, Tr.val, h1, h2, H, cond_true, cond_false, Bool.true_and, Bool.false_and]
def d90 (a1 : Int) (a2 : List Line) (b : Int) (c : Int) : Tr (Bool) :=
  Tr.ite (U.okl a2)
    (Tr.ite (U.gridR a1 a2) (Tr.ite (U.inn b (0 : Int) (IntKind.i64.wrap ((↑a2.length : Int) - (1 : Int)))) (Tr.ret (U.inn c (0 : Int) (IntKind.i64.wrap (a1 - (1 : Int))))) (Tr.ret false))
      (Tr.ret false))
    Tr.fail
def e90 (r : Bool) : FRes := { rs := Slot.av (AV.one (Leaf.dat Kd.bool r)), upd := [], new := [] }
@[reducible] def a90 : List AK := [AK.d gridk, AK.d (.int .i64), AK.d (.int .i64)]
@[reducible] def b90 : List BK := []
theorem t90 (a1 : Int) (a2 : List Line) (b : Int) (c : Int) : evFn (E0.withFns [((67 : Nat), w67), ((93 : Nat), w93)]) Tryd.f90 [PM.data Kd.bool] (akAV a90 ((a1, a2, ()), b, c, ())) (bkBs b90 ()) = (d90 a1 a2 b c).map e90 := by kernel_rfl
def s90 (C : akT a90 → Bool) (G : akT a90 → Bool) : FSpec := aspec a90 b90 e90 (fun x _ => C x) (fun x _ => G x)
def s90' (G : akT a90 → Bool) : FSpec := aspec0 a90 b90 e90 (fun x _ => G x)
theorem k90 {C : akT a90 → Bool} {G : akT a90 → Bool} (hd : ∀ (a1 : Int) (a2 : List Line) (b : Int) (c : Int), C ((a1, a2, ()), b, c, ()) = true → (d90 a1 a2 b c).val = some (G ((a1, a2, ()), b, c, ()))) (IO : ItOK Tryd.prog (E0.withFns [((67 : Nat), w67), ((93 : Nat), w93)]) := by exact itOK_none rfl) (L : ∀ c, Tryd.f90.body = some c → LsOK (evI 2) ((E0.withFns [((67 : Nat), w67), ((93 : Nat), w93)]).lend 0) c := by exact fun c _ => LsOK_none rfl c) : SpecOK Tryd.prog E0 90 (s90 C G) :=
  aspec_ok (ak := a90) (bl := b90) (e := e90) (c := fun x _ => C x) (g := fun x _ => G x) (E0 := E0) (E := E0.withFns [((67 : Nat), w67), ((93 : Nat), w93)]) tab (.cons wk67 (.cons wk93 .nil)) rfl rfl hm Tryd.func90 (by kernel_rfl) [PM.data Kd.bool] (fun X Y H => by obtain ⟨⟨a1, ⟨a2, _⟩⟩, ⟨b, ⟨c, _⟩⟩⟩ := X; exact val_of (t90 a1 a2 b c) (hd a1 a2 b c H)) IO L
theorem k90' {G : akT a90 → Bool} (hd : ∀ (a1 : Int) (a2 : List Line) (b : Int) (c : Int), (d90 a1 a2 b c).val = some (G ((a1, a2, ()), b, c, ()))) (IO : ItOK Tryd.prog (E0.withFns [((67 : Nat), w67), ((93 : Nat), w93)]) := by exact itOK_none rfl) (L : ∀ c, Tryd.f90.body = some c → LsOK (evI 2) ((E0.withFns [((67 : Nat), w67), ((93 : Nat), w93)]).lend 0) c := by exact fun c _ => LsOK_none rfl c) : SpecOK Tryd.prog E0 90 (s90' G) :=
  aspec0_ok (ak := a90) (bl := b90) (e := e90) (g := fun x _ => G x) (E0 := E0) (E := E0.withFns [((67 : Nat), w67), ((93 : Nat), w93)]) tab (.cons wk67 (.cons wk93 .nil)) rfl rfl hm Tryd.func90 (by kernel_rfl) [PM.data Kd.bool] (fun X Y => by obtain ⟨⟨a1, ⟨a2, _⟩⟩, ⟨b, ⟨c, _⟩⟩⟩ := X; exact val_of (t90 a1 a2 b c) (hd a1 a2 b c)) IO L
end Go.Proofs.YtmnbcnhpklejcaaDoor
namespace U
def place (c : Int) (l : List Ln) (row col : Int) : Bool := gridR c l && (inn row 0 ((l.length : Int) - 1) && inn col 0 (c - 1))
theorem gridR_cols {c : Int} {l : List Ln} (h : gridR c l = true) : 1 ≤ c ∧ c ≤ 80 ∧ 1 ≤ l.length ∧ l.length ≤ 50 := by
  unfold gridR inn at h
  simp only [Bool.and_eq_true, decide_eq_true_eq] at h
  omega
end U
namespace Go.Proofs.YtmnbcnhpklejcaaDoor
abbrev w90 : FSpec := s90 (fun x => U.okl x.1.2.1) fun x => U.place x.1.1 x.1.2.1 x.2.1 x.2.2.1
theorem wk90 : SpecOK Tryd.prog E0 90 w90 := by
  refine k90 fun c l row col H => ?_
  have H : U.okl l = true := H
  show _ = some (U.place c l row col)
  unfold U.place
  cases h0 : U.gridR c l with
  | false => simp only [d90, Tr.val, H, h0, cond_true, cond_false, Bool.false_and]
  | true =>
    obtain ⟨a1, a2, a3, a4⟩ := U.gridR_cols h0
    have e1 : IntKind.i64.wrap ((l.length : Int) - 1) = (l.length : Int) - 1 := w64 (by omega) (by omega)
    have e2 : IntKind.i64.wrap (c - 1) = c - 1 := w64 (by omega) (by omega)
    cases h1 : U.inn row 0 ((l.length : Int) - 1) <;> cases h2 : U.inn col 0 (c - 1) <;> simp only [d90, Tr.val, h0, h1, h2, H, e1, e2, cond_true, cond_false, Bool.true_and, Bool.false_and, Bool.and_false]
def d92 (h0 : List Cell) (h1_0 : ByteArray) (h1_1 : Int) (h1_2 : Int) (h1_3 : Int) (h1_4 : Int) (h2_0 : Int) : Tr (List Cell × ByteArray × Int × Int × Int × Int × Int) :=
  let v1 : Int := (h2_0 + (1 : Int))
  let v2 : List Cell := (h0.set h2_0.toNat (h1_0, h1_1, (h1_2, h1_3, h1_4, ()), ()))
  Tr.ite (inB h2_0 h0.length)
    (Tr.ite (decide (h1_1 = (2 : Int)))
      (Tr.ite (inB (IntKind.i64.wrap v1) v2.length) (Tr.ret (v2.set (IntKind.i64.wrap v1).toNat (ByteArray.empty, (0 : Int), (h1_2, h1_3, h1_4, ()), ()), h1_0, h1_1, h1_2, h1_3, h1_4, h2_0)) Tr.fail)
      (Tr.ret (v2, h1_0, h1_1, h1_2, h1_3, h1_4, h2_0)))
    Tr.fail
def e92 (r : List Cell × ByteArray × Int × Int × Int × Int × Int) : FRes := { rs := Slot.tup [], upd := [Blk.row ( 48) celk r.fst, Blk.box [Leaf.dat Kd.str r.snd.fst, Leaf.dat (.int .i64) r.snd.snd.fst, Leaf.dat (.int .i64) r.snd.snd.snd.fst, Leaf.dat (.int .i64) r.snd.snd.snd.snd.fst, Leaf.dat (.int .i64) r.snd.snd.snd.snd.snd.fst], Blk.box [Leaf.dat (.int .i64) r.snd.snd.snd.snd.snd.snd]], new := [] }
@[reducible] def a92 : List AK := [AK.c (Leaf.row (0 : Nat)), AK.c (Leaf.ptr (1 : Nat) (0 : Nat)), AK.c (Leaf.ptr (2 : Nat) (0 : Nat))]
@[reducible] def b92 : List BK := [BK.row (48 : TypeId) celk, BK.box [SK.d Kd.str, SK.d (.int .i64), SK.d (.int .i64), SK.d (.int .i64), SK.d (.int .i64)], BK.box [SK.d (.int .i64)]]
theorem t92 (h0 : List Cell) (h1_0 : ByteArray) (h1_1 : Int) (h1_2 : Int) (h1_3 : Int) (h1_4 : Int) (h2_0 : Int) : evFn (E0) Tryd.f92 [] (akAV a92 ()) (bkBs b92 (h0, (h1_0, h1_1, h1_2, h1_3, h1_4, ()), (h2_0, ()), ())) = (d92 h0 h1_0 h1_1 h1_2 h1_3 h1_4 h2_0).map e92 := by kernel_rfl
def s92 (C : akT a92 → bksT b92 → Bool) (G : akT a92 → bksT b92 → List Cell × ByteArray × Int × Int × Int × Int × Int) : FSpec := aspec a92 b92 e92 (C) (G)
def s92' (G : akT a92 → bksT b92 → List Cell × ByteArray × Int × Int × Int × Int × Int) : FSpec := aspec0 a92 b92 e92 (G)
theorem k92 {C : akT a92 → bksT b92 → Bool} {G : akT a92 → bksT b92 → List Cell × ByteArray × Int × Int × Int × Int × Int} (hd : ∀ (h0 : List Cell) (h1_0 : ByteArray) (h1_1 : Int) (h1_2 : Int) (h1_3 : Int) (h1_4 : Int) (h2_0 : Int), C () (h0, (h1_0, h1_1, h1_2, h1_3, h1_4, ()), (h2_0, ()), ()) = true → (d92 h0 h1_0 h1_1 h1_2 h1_3 h1_4 h2_0).val = some (G () (h0, (h1_0, h1_1, h1_2, h1_3, h1_4, ()), (h2_0, ()), ()))) (IO : ItOK Tryd.prog (E0) := by exact itOK_none rfl) (L : ∀ c, Tryd.f92.body = some c → LsOK (evI 2) ((E0).lend 3) c := by exact fun c _ => LsOK_none rfl c) : SpecOK Tryd.prog E0 92 (s92 C G) :=
  aspec_ok (ak := a92) (bl := b92) (e := e92) (c := C) (g := G) (E0 := E0) (E := E0) tab .nil rfl rfl hm Tryd.func92 (by kernel_rfl) [] (fun X Y H => by obtain ⟨h0, ⟨⟨h1_0, ⟨h1_1, ⟨h1_2, ⟨h1_3, ⟨h1_4, _⟩⟩⟩⟩⟩, ⟨⟨h2_0, _⟩, _⟩⟩⟩ := Y; exact val_of (t92 h0 h1_0 h1_1 h1_2 h1_3 h1_4 h2_0) (hd h0 h1_0 h1_1 h1_2 h1_3 h1_4 h2_0 H)) IO L
theorem k92' {G : akT a92 → bksT b92 → List Cell × ByteArray × Int × Int × Int × Int × Int} (hd : ∀ (h0 : List Cell) (h1_0 : ByteArray) (h1_1 : Int) (h1_2 : Int) (h1_3 : Int) (h1_4 : Int) (h2_0 : Int), (d92 h0 h1_0 h1_1 h1_2 h1_3 h1_4 h2_0).val = some (G () (h0, (h1_0, h1_1, h1_2, h1_3, h1_4, ()), (h2_0, ()), ()))) (IO : ItOK Tryd.prog (E0) := by exact itOK_none rfl) (L : ∀ c, Tryd.f92.body = some c → LsOK (evI 2) ((E0).lend 3) c := by exact fun c _ => LsOK_none rfl c) : SpecOK Tryd.prog E0 92 (s92' G) :=
  aspec0_ok (ak := a92) (bl := b92) (e := e92) (g := G) (E0 := E0) (E := E0) tab .nil rfl rfl hm Tryd.func92 (by kernel_rfl) [] (fun X Y => by obtain ⟨h0, ⟨⟨h1_0, ⟨h1_1, ⟨h1_2, ⟨h1_3, ⟨h1_4, _⟩⟩⟩⟩⟩, ⟨⟨h2_0, _⟩, _⟩⟩⟩ := Y; exact val_of (t92 h0 h1_0 h1_1 h1_2 h1_3 h1_4 h2_0) (hd h0 h1_0 h1_1 h1_2 h1_3 h1_4 h2_0)) IO L
end Go.Proofs.YtmnbcnhpklejcaaDoor
namespace U
/-- A letter that is put, and its other half. -/
def putC (l : List Cl) (i : Nat) (c : Cl) : List Cl := if c.2.1 = 2 then (l.set i c).set (i + 1) (ByteArray.empty, 0, c.2.2.1, ()) else l.set i c
/-- Lines of which one's cells are others, mended. -/
def setL (ls : List Ln) (r : Nat) (f : List Cl → List Cl) : List Ln := ls.set r (mend (f (ls.getD r dL).1), (ls.getD r dL).2)
end U
namespace Go.Proofs.YtmnbcnhpklejcaaDoor
abbrev putOK (col : Int) (n : Nat) (w : Int) : Bool := decide (0 ≤ col ∧ col < (n : Int) ∧ (w = 2 → col + 1 < (n : Int)) ∧ n ≤ 1048576)
abbrev w92 : FSpec := s92 (fun _ y => putOK y.2.2.1.1 (List.length (α := Cell) y.1) y.2.1.2.1)
  fun _ y => (U.putC y.1 y.2.2.1.1.toNat (y.2.1.1, y.2.1.2.1, (y.2.1.2.2.1, y.2.1.2.2.2.1, y.2.1.2.2.2.2.1, ()), ()), y.2.1.1, y.2.1.2.1, y.2.1.2.2.1, y.2.1.2.2.2.1, y.2.1.2.2.2.2.1, y.2.2.1.1)
theorem wk92 : SpecOK Tryd.prog E0 92 w92 := by
  refine k92 fun l t w a b c col H => ?_
  obtain ⟨h1, h2, h3, h4⟩ := of_decide_eq_true H
  dsimp only at h1 h2 h3 h4
  obtain ⟨n, rfl⟩ := Int.eq_ofNat_of_zero_le h1
  have hn : n < l.length := Int.ofNat_lt.1 h2
  have w1 : IntKind.i64.wrap ((n : Int) + 1) = ((n + 1 : Nat) : Int) := wrap64_nat (by omega)
  show _ = some (U.putC l n (t, w, (a, b, c, ()), ()), t, w, a, b, c, (n : Int))
  unfold U.putC
  by_cases hw : w = 2
  · have i1 : inB ((n + 1 : Nat) : Int) (l.set n (t, w, (a, b, c, ()), ())).length = true := by rw [List.length_set]; exact inB_nat (by have := h3 hw; omega)
    simp only [d92, Tr.val, inB_nat hn, hw, w1, Int.toNat_natCast, decide_true, cond_true, if_true]
    subst hw
    rw [i1]
    rfl
  · simp only [d92, Tr.val, inB_nat hn, hw, decide_false, cond_true, cond_false, if_false]
    rfl
namespace P
abbrev G91 : List (Nat × FSpec) := [(97, w97), (86, w86), (92, w92), (30, w30)]
theorem AG91 : AllFn Tryd.prog E0 G91 := .cons wk97 (.cons wk86 (.cons wk92 (.cons wk30 .nil)))
def d91 (a1 : Int) (a2 : List Line) (b : Int) (h0_0 : ByteArray) (h0_1 : Int) (h0_2 : Int) (h0_3 : Int) (h0_4 : Int) (h1_0 : Int) : Tr (Int × List Line × Int × ByteArray × Int × Int × Int × Int × Int) :=
  let v1 : List U.Cl := (U.putC (a2.getD b.toNat link.dflt).fst h1_0.toNat (h0_0, h0_1, (h0_2, h0_3, h0_4, ()), ()))
  Tr.ite (decide (a2.length ≤ (1048576 : Nat)))
    (Tr.ite (inB b a2.length)
      (Tr.ite (decide (List.length (a2.getD b.toNat link.dflt).fst ≤ (1048576 : Nat)))
        (Tr.ite (putOK h1_0 (List.length (a2.getD b.toNat link.dflt).fst) h0_1)
          (Tr.ite (decide (v1.length ≤ (1048576 : Nat)))
            (Tr.ite (inB b a2.length) (Tr.ret (a1, a2.set b.toNat (U.mend v1, (a2.getD b.toNat link.dflt).snd), (0 : Int), h0_0, h0_1, h0_2, h0_3, h0_4, h1_0)) Tr.fail) Tr.fail)
          Tr.fail)
        Tr.fail)
      Tr.fail)
    Tr.fail
def e91 (r : Int × List Line × Int × ByteArray × Int × Int × Int × Int × Int) : FRes := { rs := Slot.tup [AV.agg [Leaf.dat (.int .i64) r.fst, Leaf.dat link.sl r.snd.fst], AV.one (Leaf.dat (.int .i64) r.snd.snd.fst)], upd := [Blk.box [Leaf.dat Kd.str r.snd.snd.snd.fst, Leaf.dat (.int .i64) r.snd.snd.snd.snd.fst, Leaf.dat (.int .i64) r.snd.snd.snd.snd.snd.fst, Leaf.dat (.int .i64) r.snd.snd.snd.snd.snd.snd.fst, Leaf.dat (.int .i64) r.snd.snd.snd.snd.snd.snd.snd.fst], Blk.box [Leaf.dat (.int .i64) r.snd.snd.snd.snd.snd.snd.snd.snd]], new := [] }
@[reducible] def a91 : List AK := [AK.d gridk, AK.d (.int .i64), AK.c (Leaf.fn (92 : FuncId) [(0 : Nat), (1 : Nat)])]
@[reducible] def b91 : List BK := [BK.box [SK.d Kd.str, SK.d (.int .i64), SK.d (.int .i64), SK.d (.int .i64), SK.d (.int .i64)], BK.box [SK.d (.int .i64)]]
theorem t91 (a1 : Int) (a2 : List Line) (b : Int) (h0_0 : ByteArray) (h0_1 : Int) (h0_2 : Int) (h0_3 : Int) (h0_4 : Int) (h1_0 : Int) : evFn (E0.withFns G91) Tryd.f91 [PM.data gridk, PM.data (.int .i64)] (akAV a91 ((a1, a2, ()), b, ())) (bkBs b91 ((h0_0, h0_1, h0_2, h0_3, h0_4, ()), (h1_0, ()), ())) = (d91 a1 a2 b h0_0 h0_1 h0_2 h0_3 h0_4 h1_0).map e91 := by kernel_rfl
def s91 (C : akT a91 → bksT b91 → Bool) (G : akT a91 → bksT b91 → Int × List Line × Int × ByteArray × Int × Int × Int × Int × Int) : FSpec := aspec a91 b91 e91 (C) (G)
def s91' (G : akT a91 → bksT b91 → Int × List Line × Int × ByteArray × Int × Int × Int × Int × Int) : FSpec := aspec0 a91 b91 e91 (G)
theorem k91 {C : akT a91 → bksT b91 → Bool} {G : akT a91 → bksT b91 → Int × List Line × Int × ByteArray × Int × Int × Int × Int × Int} (hd : ∀ (a1 : Int) (a2 : List Line) (b : Int) (h0_0 : ByteArray) (h0_1 : Int) (h0_2 : Int) (h0_3 : Int) (h0_4 : Int) (h1_0 : Int), C ((a1, a2, ()), b, ()) ((h0_0, h0_1, h0_2, h0_3, h0_4, ()), (h1_0, ()), ()) = true → (d91 a1 a2 b h0_0 h0_1 h0_2 h0_3 h0_4 h1_0).val = some (G ((a1, a2, ()), b, ()) ((h0_0, h0_1, h0_2, h0_3, h0_4, ()), (h1_0, ()), ()))) (IO : ItOK Tryd.prog (E0.withFns G91) := by exact itOK_none rfl) (L : ∀ c, Tryd.f91.body = some c → LsOK (evI 2) ((E0.withFns G91).lend 2) c := by exact fun c _ => LsOK_none rfl c) : SpecOK Tryd.prog E0 91 (s91 C G) :=
  aspec_ok (ak := a91) (bl := b91) (e := e91) (c := C) (g := G) (E0 := E0) (E := E0.withFns G91) tab AG91 rfl rfl hm Tryd.func91 (by kernel_rfl) [PM.data gridk, PM.data (.int .i64)] (fun X Y H => by obtain ⟨⟨a1, ⟨a2, _⟩⟩, ⟨b, _⟩⟩ := X; obtain ⟨⟨h0_0, ⟨h0_1, ⟨h0_2, ⟨h0_3, ⟨h0_4, _⟩⟩⟩⟩⟩, ⟨⟨h1_0, _⟩, _⟩⟩ := Y; exact val_of (t91 a1 a2 b h0_0 h0_1 h0_2 h0_3 h0_4 h1_0) (hd a1 a2 b h0_0 h0_1 h0_2 h0_3 h0_4 h1_0 H)) IO L
theorem k91' {G : akT a91 → bksT b91 → Int × List Line × Int × ByteArray × Int × Int × Int × Int × Int} (hd : ∀ (a1 : Int) (a2 : List Line) (b : Int) (h0_0 : ByteArray) (h0_1 : Int) (h0_2 : Int) (h0_3 : Int) (h0_4 : Int) (h1_0 : Int), (d91 a1 a2 b h0_0 h0_1 h0_2 h0_3 h0_4 h1_0).val = some (G ((a1, a2, ()), b, ()) ((h0_0, h0_1, h0_2, h0_3, h0_4, ()), (h1_0, ()), ()))) (IO : ItOK Tryd.prog (E0.withFns G91) := by exact itOK_none rfl) (L : ∀ c, Tryd.f91.body = some c → LsOK (evI 2) ((E0.withFns G91).lend 2) c := by exact fun c _ => LsOK_none rfl c) : SpecOK Tryd.prog E0 91 (s91' G) :=
  aspec0_ok (ak := a91) (bl := b91) (e := e91) (g := G) (E0 := E0) (E := E0.withFns G91) tab AG91 rfl rfl hm Tryd.func91 (by kernel_rfl) [PM.data gridk, PM.data (.int .i64)] (fun X Y => by obtain ⟨⟨a1, ⟨a2, _⟩⟩, ⟨b, _⟩⟩ := X; obtain ⟨⟨h0_0, ⟨h0_1, ⟨h0_2, ⟨h0_3, ⟨h0_4, _⟩⟩⟩⟩⟩, ⟨⟨h1_0, _⟩, _⟩⟩ := Y; exact val_of (t91 a1 a2 b h0_0 h0_1 h0_2 h0_3 h0_4 h1_0) (hd a1 a2 b h0_0 h0_1 h0_2 h0_3 h0_4 h1_0)) IO L
abbrev w91 : FSpec := s91 (fun x y => decide (0 ≤ (x.2.1 : Int) ∧ (x.2.1 : Int) < (List.length (α := Line) x.1.2.1 : Int) ∧ List.length (α := Line) x.1.2.1 ≤ 1048576) && putOK y.2.1.1 (List.length (α := Cell) (List.getD (α := Line) x.1.2.1 x.2.1.toNat U.dL).1) y.1.2.1)
  fun x y => (x.1.1, U.setL x.1.2.1 x.2.1.toNat fun l => U.putC l y.2.1.1.toNat (y.1.1, y.1.2.1, (y.1.2.2.1, y.1.2.2.2.1, y.1.2.2.2.2.1, ()), ()), 0, y.1.1, y.1.2.1, y.1.2.2.1, y.1.2.2.2.1, y.1.2.2.2.2.1, y.2.1.1)
theorem wk91 : SpecOK Tryd.prog E0 91 w91 := by
  refine k91 fun n l row t w a b c col H => ?_
  have H : (decide (0 ≤ row ∧ row < (l.length : Int) ∧ l.length ≤ 1048576) && putOK col (l.getD row.toNat U.dL).1.length w) = true := H
  rw [Bool.and_eq_true] at H
  obtain ⟨H1, H2⟩ := H
  obtain ⟨h1, h2, h3⟩ := of_decide_eq_true H1
  obtain ⟨r, rfl⟩ := Int.eq_ofNat_of_zero_le h1
  have hr : r < l.length := Int.ofNat_lt.1 h2
  have g4 : (l.getD r U.dL).1.length ≤ 1048576 := (of_decide_eq_true H2).2.2.2
  have e0 : l.getD r link.dflt = l.getD r U.dL := rfl
  have e1 : ∀ (m : List U.Cl) c, (U.putC m col.toNat c).length = m.length := fun m c => by unfold U.putC; split <;> simp
  simp only [d91, Tr.val, Int.toNat_natCast, inB_nat hr, h3, e0, e1, g4, decide_true, cond_true] at H2 ⊢
  rw [H2]
  rfl
end P
def d33 (a1 : Int) (a2 : List Line) (b : Int) (c : Int) (y1 : ByteArray) (y2 : Int) (y31 : Int) (y32 : Int) (y33 : Int) : Tr (Int × List Line × Int) :=
  let v1 : Int := ((↑a2.length : Int))
  let v2 : List Cell := ((a2.getD b.toNat U.dL).fst)
  let v3 : Int := (a1 - (1 : Int))
  Tr.ite (U.okl a2)
    (Tr.ite (!U.place a1 a2 b c) (Tr.ret ((0 : Int), [], (1 : Int)))
      (Tr.ite (decide (y1.size ≤ (1048576 : Nat)))
        (Tr.ite (!U.cellR (y1, y2, (y31, y32, y33, ()), ())) (Tr.ret ((0 : Int), [], (1 : Int)))
          (Tr.ite (decide (y1 = { data := #[] })) (Tr.ret ((0 : Int), [], (1 : Int)))
            (Tr.ite (decide (y2 = (2 : Int)))
              (Tr.ite (decide (c = IntKind.i64.wrap v3)) (Tr.ret ((0 : Int), [], (9 : Int)))
                (Tr.ite (decide ((0 : Int) ≤ b ∧ b < v1 ∧ a2.length ≤ (1048576 : Nat)) && putOK c v2.length y2)
                  (Tr.ret (a1, U.setL a2 b.toNat fun (l : List U.Cl) => U.putC l c.toNat (y1, y2, (y31, y32, y33, ()), ()), (0 : Int))) Tr.fail))
              (Tr.ite (decide ((0 : Int) ≤ b ∧ b < v1 ∧ a2.length ≤ (1048576 : Nat)) && putOK c v2.length y2)
                (Tr.ret (a1, U.setL a2 b.toNat fun (l : List U.Cl) => U.putC l c.toNat (y1, y2, (y31, y32, y33, ()), ()), (0 : Int))) Tr.fail))))
        Tr.fail))
    Tr.fail
def e33 (r : Int × List Line × Int) : FRes := { rs := Slot.tup [AV.agg [Leaf.dat (.int .i64) r.fst, Leaf.dat link.sl r.snd.fst], AV.one (Leaf.dat (.int .i64) r.snd.snd)], upd := [], new := [] }
@[reducible] def a33 : List AK := [AK.d gridk, AK.d (.int .i64), AK.d (.int .i64), AK.d celk]
@[reducible] def b33 : List BK := []
theorem t33 (a1 : Int) (a2 : List Line) (b : Int) (c : Int) (y1 : ByteArray) (y2 : Int) (y31 : Int) (y32 : Int) (y33 : Int) : evFn (E0.withFns [((90 : Nat), w90), ((89 : Nat), w89), ((91 : Nat), P.w91)]) Tryd.f33 [PM.data gridk, PM.data (.int .i64)] (akAV a33 ((a1, a2, ()), b, c, (y1, y2, (y31, y32, y33, ()), ()), ())) (bkBs b33 ()) = (d33 a1 a2 b c y1 y2 y31 y32 y33).map e33 := by kernel_rfl
def s33 (C : akT a33 → Bool) (G : akT a33 → Int × List Line × Int) : FSpec := aspec a33 b33 e33 (fun x _ => C x) (fun x _ => G x)
def s33' (G : akT a33 → Int × List Line × Int) : FSpec := aspec0 a33 b33 e33 (fun x _ => G x)
theorem k33 {C : akT a33 → Bool} {G : akT a33 → Int × List Line × Int} (hd : ∀ (a1 : Int) (a2 : List Line) (b : Int) (c : Int) (y1 : ByteArray) (y2 : Int) (y31 : Int) (y32 : Int) (y33 : Int), C ((a1, a2, ()), b, c, (y1, y2, (y31, y32, y33, ()), ()), ()) = true → (d33 a1 a2 b c y1 y2 y31 y32 y33).val = some (G ((a1, a2, ()), b, c, (y1, y2, (y31, y32, y33, ()), ()), ()))) (IO : ItOK Tryd.prog (E0.withFns [((90 : Nat), w90), ((89 : Nat), w89), ((91 : Nat), P.w91)]) := by exact itOK_none rfl) (L : ∀ c, Tryd.f33.body = some c → LsOK (evI 2) ((E0.withFns [((90 : Nat), w90), ((89 : Nat), w89), ((91 : Nat), P.w91)]).lend 0) c := by exact fun c _ => LsOK_none rfl c) : SpecOK Tryd.prog E0 33 (s33 C G) :=
  aspec_ok (ak := a33) (bl := b33) (e := e33) (c := fun x _ => C x) (g := fun x _ => G x) (E0 := E0) (E := E0.withFns [((90 : Nat), w90), ((89 : Nat), w89), ((91 : Nat), P.w91)]) tab (.cons wk90 (.cons wk89 (.cons P.wk91 .nil))) rfl rfl hm Tryd.func33 (by kernel_rfl) [PM.data gridk, PM.data (.int .i64)] (fun X Y H => by obtain ⟨⟨a1, ⟨a2, _⟩⟩, ⟨b, ⟨c, ⟨⟨y1, ⟨y2, ⟨⟨y31, ⟨y32, ⟨y33, _⟩⟩⟩, _⟩⟩⟩, _⟩⟩⟩⟩ := X; exact val_of (t33 a1 a2 b c y1 y2 y31 y32 y33) (hd a1 a2 b c y1 y2 y31 y32 y33 H)) IO L
theorem k33' {G : akT a33 → Int × List Line × Int} (hd : ∀ (a1 : Int) (a2 : List Line) (b : Int) (c : Int) (y1 : ByteArray) (y2 : Int) (y31 : Int) (y32 : Int) (y33 : Int), (d33 a1 a2 b c y1 y2 y31 y32 y33).val = some (G ((a1, a2, ()), b, c, (y1, y2, (y31, y32, y33, ()), ()), ()))) (IO : ItOK Tryd.prog (E0.withFns [((90 : Nat), w90), ((89 : Nat), w89), ((91 : Nat), P.w91)]) := by exact itOK_none rfl) (L : ∀ c, Tryd.f33.body = some c → LsOK (evI 2) ((E0.withFns [((90 : Nat), w90), ((89 : Nat), w89), ((91 : Nat), P.w91)]).lend 0) c := by exact fun c _ => LsOK_none rfl c) : SpecOK Tryd.prog E0 33 (s33' G) :=
  aspec0_ok (ak := a33) (bl := b33) (e := e33) (g := fun x _ => G x) (E0 := E0) (E := E0.withFns [((90 : Nat), w90), ((89 : Nat), w89), ((91 : Nat), P.w91)]) tab (.cons wk90 (.cons wk89 (.cons P.wk91 .nil))) rfl rfl hm Tryd.func33 (by kernel_rfl) [PM.data gridk, PM.data (.int .i64)] (fun X Y => by obtain ⟨⟨a1, ⟨a2, _⟩⟩, ⟨b, ⟨c, ⟨⟨y1, ⟨y2, ⟨⟨y31, ⟨y32, ⟨y33, _⟩⟩⟩, _⟩⟩⟩, _⟩⟩⟩⟩ := X; exact val_of (t33 a1 a2 b c y1 y2 y31 y32 y33) (hd a1 a2 b c y1 y2 y31 y32 y33)) IO L
end Go.Proofs.YtmnbcnhpklejcaaDoor
namespace U
/-- What putting a letter comes to. -/
def rawPut (c : Int) (l : List Ln) (row col : Int) (x : Cl) : Int × List Ln × Int :=
  if place c l row col = true ∧ cellR x = true ∧ x.1.size ≠ 0 then
    if x.2.1 = 2 ∧ col = c - 1 then (0, [], 9) else (c, setL l row.toNat fun m => putC m col.toNat x, 0)
  else (0, [], 1)
theorem inn_iff {a b c : Int} : inn a b c = true ↔ b ≤ a ∧ a ≤ c := by unfold inn; simp [Bool.and_eq_true, decide_eq_true_eq]
theorem place_at {c : Int} {l : List Ln} {row col : Int} (h : place c l row col = true) : 0 ≤ row ∧ row < (l.length : Int) ∧ 0 ≤ col ∧ col < c ∧ ∀ y ∈ l, fitC y.1 = true ∧ (y.1.length : Int) = c := by
  unfold place gridR at h
  simp only [Bool.and_eq_true, inn_iff, Bool.not_eq_true', List.any_eq_false] at h
  obtain ⟨⟨_, _, h1⟩, h2, h3⟩ := h
  refine ⟨h2.1, by omega, h3.1, by omega, fun y hy => ?_⟩
  have := h1 y hy
  unfold misfit at this
  simpa using this
theorem getD_mem {l : List Ln} {i : Nat} (hi : i < l.length) : l.getD i dL ∈ l := by rw [getD_el hi]; exact List.getElem_mem hi
end U
namespace Go.Proofs.YtmnbcnhpklejcaaDoor
abbrev w33 : FSpec := s33 (fun x => U.okl x.1.2.1 && decide (ByteArray.size x.2.2.2.1.1 ≤ 1048576)) fun x => U.rawPut x.1.1 x.1.2.1 x.2.1 x.2.2.1 x.2.2.2.1
theorem wk33 : SpecOK Tryd.prog E0 33 w33 := by
  refine k33 fun c l row col t w a b d H => ?_
  have H : (U.okl l && decide (t.size ≤ 1048576)) = true := H
  rw [Bool.and_eq_true] at H
  obtain ⟨H1, H2⟩ := H
  have H2 := of_decide_eq_true H2
  show _ = some (U.rawPut c l row col (t, w, (a, b, d, ()), ()))
  unfold U.rawPut
  cases hp : U.place c l row col with
  | false => simp only [d33, Tr.val, H1, hp, cond_true, Bool.not_false, Bool.false_eq_true, false_and, if_false]
  | true =>
    cases hc : U.cellR (t, w, (a, b, d, ()), ()) with
    | false => simp only [d33, Tr.val, H1, H2, hp, hc, cond_true, cond_false, Bool.not_true, Bool.not_false, decide_true, Bool.false_eq_true, false_and, and_false, if_false]
    | true =>
      by_cases ht : t.size = 0
      · obtain rfl := ba_nil ht
        simp only [d33, Tr.val, H1, H2, hp, hc, cond_true, cond_false, Bool.not_true, decide_true]
        rw [if_neg (fun h => h.2.2 rfl)]
      · obtain ⟨p1, p2, p3, p4, p5⟩ := U.place_at hp
        obtain ⟨a1, a2, a3, a4⟩ := U.gridR_cols (c := c) (l := l) (by unfold U.place at hp; rw [Bool.and_eq_true] at hp; exact hp.1)
        have e2 : IntKind.i64.wrap (c - 1) = c - 1 := w64 (by omega) (by omega)
        have hr : row.toNat < l.length := by omega
        have hlen := (p5 _ (U.getD_mem hr)).2
        rw [if_pos ⟨rfl, rfl, ht⟩]
        by_cases hw : w = 2
        · by_cases hcc : col = c - 1
          · subst hw
            subst hcc
            simp only [d33, Tr.val, H1, H2, hp, hc, ba_ne ht, e2, decide_true, decide_false, cond_true, cond_false, Bool.not_true, and_self, if_true]
          · have hput : (decide (0 ≤ row ∧ row < (l.length : Int) ∧ l.length ≤ 1048576) && putOK col (l.getD row.toNat U.dL).1.length w) = true := by
              unfold putOK
              rw [Bool.and_eq_true, decide_eq_true_eq, decide_eq_true_eq]
              omega
            subst hw
            simp only [d33, Tr.val, H1, H2, hp, hc, ba_ne ht, e2, hcc, hput, decide_true, decide_false, cond_true, cond_false, Bool.not_true, and_false, if_false]
        · have hput : (decide (0 ≤ row ∧ row < (l.length : Int) ∧ l.length ≤ 1048576) && putOK col (l.getD row.toNat U.dL).1.length w) = true := by
            unfold putOK
            rw [Bool.and_eq_true, decide_eq_true_eq, decide_eq_true_eq]
            omega
          simp only [d33, Tr.val, H1, H2, hp, hc, ba_ne ht, hw, hput, decide_true, decide_false, cond_true, cond_false, Bool.not_true, false_and, if_false]
def live162 (key : Nat) : Lv :=
  bif Nat.beq key 8 then { ls := [7, 8] } else bif Nat.beq key 1008 then { ls := [7] } else
  bif Nat.beq key 8888 then { ls := [41, 44] } else
  { ls := [] }
abbrev M162 (ls : Nat → VS → Option (Tr (Ex × VS))) : Env := (E0.withFns [(172, w172)]).loops live162 ls
@[reducible] def p162_0 : LP := { n := 48, sl := [.c (Leaf.row ( 0)), .d (.int .i64)], bl := [(0, .row 48 (celk))] }
def B162_0 (x1 : Int) (h0 : List Cell) : Tr (p162_0.T ⊕ (List Cell)) :=
  let v1 : Int := ((↑h0.length : Int))
  let v2 : Int := (vwHi v1 none - vwLo (some x1))
  let v3 : Int := (vwHi v1 (some x1) - (0 : Int))
  let v4 : List Cell := (sub h0 (0 : Nat) ((0 : Nat) + v3.toNat))
  Tr.ite (decide (x1 < v1))
    (Tr.ite (vwOK v1 (some x1) none)
      (Tr.ite (vwOK v1 none (some x1)) (Tr.ret (Sum.inl ((IntKind.i64.wrap (x1 + (↑(v4.length.min v2.toNat) : Int)), ()), putAt h0 (vwLo (some x1)).toNat (List.take v2.toNat v4), ()))) Tr.fail) Tr.fail)
    (Tr.ret (Sum.inr h0))
def X162_0 (r : (List Cell)) : Ex × VS := Prod.mk (Ex.exit ( 0)) { n := 48, v := [Slot.av (AV.one (Leaf.row ( 0)))], h := [( 0, Blk.row ( 48) celk r)] }
def b162_0 : p162_0.T → Tr (p162_0.T ⊕ (List Cell)) := fun ⟨⟨x1, _⟩, ⟨h0, _⟩⟩ => B162_0 x1 h0
theorem h162_0 (ls : Nat → VS → Option (Tr (Ex × VS))) (x : p162_0.T) : (evC (evI 2) (lc Tryd.f162 0) (Env.lend (M162 ls) 0) (unV (live162 8) (p162_0.V x))).map (decL 0 (live162 8) (live162 1008)) = (b162_0 x).map (encR p162_0.V X162_0) := by
  obtain ⟨⟨x1, _⟩, ⟨h0, _⟩⟩ := x; kernel_rfl
theorem c162_0 (x : p162_0.T) : canV 0 (live162 8) (unV (live162 8) (p162_0.V x)) = p162_0.V x := by
  obtain ⟨⟨x1, _⟩, ⟨h0, _⟩⟩ := x; kernel_rfl
theorem l162_0 {T : p162_0.T → Tr (List Cell)} {ls : Nat → VS → Option (Tr (Ex × VS))} (hls : ∀ x, (Env.lend (M162 ls) 0).ls 8 x = p162_0.ls (fun a => (T a).map X162_0) x) (hS : ∀ x r, (T x).val = some r → Rounds b162_0 x r) : LoopOK (evI 2) (Env.lend (M162 ls) 0) (lc Tryd.f162 0) :=
  loopA 8 (live162 8) (live162 1008) p162_0 b162_0 X162_0 T (by kernel_rfl) rfl rfl hls (h162_0 ls) c162_0 hS
def T162 (x : p162_0.T) : Tr (List Cell) :=
  .ite (decide ((x.1.1 : Int) = 1 ∧ 1 ≤ List.length (α := Cell) x.2.1 ∧ List.length (α := Cell) x.2.1 ≤ 1048576)) (.ret (List.replicate (List.length (α := Cell) x.2.1) (List.getD (α := Cell) x.2.1 0 U.dC))) .fail
abbrev E162 : Env := M162 fun key x => bif Nat.beq key 8 then p162_0.ls (fun a => (T162 a).map X162_0) x else none
theorem rep162 (c : Cell) (N : Nat) (hN : N ≤ 1048576) : ∀ (k n : Nat) (h : List Cell), N - n ≤ k → 1 ≤ n → n ≤ N → h.length = N → h.take n = List.replicate n c → Rounds b162_0 (((n : Int), ()), h, ()) (List.replicate N c) := by
  intro k
  induction k with
  | zero =>
    intro n h h1 h2 h3 h4 h5
    have : n = N := by omega
    subst this
    rw [← h5, List.take_of_length_le (by omega)]
    refine .exit ?_
    simp only [b162_0, B162_0, Tr.val, h4, show ¬ ((n : Int) < (n : Int)) by omega, decide_false, cond_false]
  | succ k ih =>
    intro n h h1 h2 h3 h4 h5
    by_cases hn : n = N
    · exact ih n h (by omega) h2 h3 h4 h5
    · have e1 : vwHi (N : Int) none - vwLo (some (n : Int)) = ((N - n : Nat) : Int) := by simp only [vwHi, vwLo]; omega
      have e2 : vwOK (N : Int) (some (n : Int)) none = true := by
        show decide (0 ≤ (n : Int) ∧ (n : Int) ≤ (N : Int) ∧ (N : Int) ≤ (N : Int)) = true
        exact decide_eq_true (by omega)
      have e3 : vwOK (N : Int) none (some (n : Int)) = true := by
        show decide ((0 : Int) ≤ 0 ∧ (0 : Int) ≤ (n : Int) ∧ (n : Int) ≤ (N : Int)) = true
        exact decide_eq_true (by omega)
      have e4 : vwHi (N : Int) (some (n : Int)) - 0 = (n : Int) := by simp only [vwHi]; omega
      have e5 : sub h 0 (0 + n) = List.replicate n c := by unfold sub; rw [Nat.zero_add, List.drop_zero, h5]
      obtain ⟨m, hm, m1, m2, m3⟩ : ∃ m, n.min (N - n) = m ∧ m ≤ n ∧ m ≤ N - n ∧ 1 ≤ m := ⟨_, rfl, Nat.min_le_left _ _, Nat.min_le_right _ _, by
        have : n.min (N - n) = min n (N - n) := rfl
        omega⟩
      have e6 : IntKind.i64.wrap ((n : Int) + (m : Int)) = ((n + m : Nat) : Int) := by
        rw [w64 (by omega) (by omega)]
        omega
      have e7 : List.take (N - n) (List.replicate n c) = List.replicate m c := by
        rw [List.take_replicate, ← hm]
        congr 1
        exact Nat.min_comm _ _
      refine .step (y := ((((n + m : Nat) : Int), ()), putAt h n (List.replicate m c), ())) ?_ (ih (n + m) _ (by omega) (by omega) (by omega) ?_ ?_)
      · simp only [b162_0, B162_0, Tr.val, h4, show ((n : Int) < (N : Int)) by omega, e1, e2, e3, e4, e5, Int.toNat_natCast, List.length_replicate, hm, e6, e7, decide_true, cond_true]
        rfl
      · simp only [putAt, List.length_append, List.length_take, List.length_drop, List.length_replicate]
        omega
      · unfold putAt
        rw [h5, ← List.append_assoc, List.replicate_append_replicate, List.take_left' (by rw [List.length_replicate])]
theorem L162 : LoopOK (evI 2) (E162.lend 0) (lc Tryd.f162 0) := by
  refine l162_0 (T := T162) (fun x => rfl) ?_
  rintro ⟨⟨n, z⟩, h, z2⟩ r hh
  obtain ⟨g1, g2⟩ := pre_val hh
  obtain ⟨e1, e2, e3⟩ := of_decide_eq_true g1
  dsimp only at e1 e2 e3 g2
  subst e1
  cases g2
  refine rep162 (h.getD 0 U.dC) h.length e3 h.length 1 h (by omega) (by omega) e2 rfl ?_
  cases h with
  | nil => simp at e2
  | cons x h => rfl
def d162 (a : List Cell) (b : Int) : Tr (List Cell) :=
  let v1 : Int := ((↑a.length : Int))
  let v2 : List Cell := (List.replicate (IntKind.i64.wrap (IntKind.u64.wrap b)).toNat (ByteArray.empty, (0 : Int), ((0 : Int), (0 : Int), (0 : Int), ()), ()))
  let v3 : List Cell := (List.take v2.length a)
  let v4 : List Cell := (putAt v2 (0 : Nat) v3)
  let v5 : Int := ((↑(a.length.min v2.length) : Int))
  Tr.ite (decide (b < (0 : Int))) Tr.fail
    (Tr.ite (decide (IntKind.u64.wrap v1 = (1 : Int) ∧ (0 : Int) ≤ IntKind.u64.wrap b ∧ IntKind.u64.wrap b < (128 : Int)))
      (Tr.ite false Tr.fail
        (Tr.ite (decide ((9223372036854775807 : Int) < IntKind.u64.wrap b)) Tr.fail
          (Tr.ite
            (decide
              ((0 : Int) ≤ IntKind.i64.wrap (IntKind.u64.wrap b) ∧
                IntKind.i64.wrap (IntKind.u64.wrap b) ≤ IntKind.i64.wrap (IntKind.u64.wrap b) ∧ (IntKind.i64.wrap (IntKind.u64.wrap b)).toNat * (48 : Nat) ≤ (140737488355328 : Nat)))
            (Tr.ite (decide (v5 = (1 : Int) ∧ (1 : Nat) ≤ v4.length ∧ v4.length ≤ (1048576 : Nat))) (Tr.ret (List.replicate v4.length (v4.getD (0 : Nat) U.dC))) Tr.fail) Tr.fail)))
      Tr.fail)
def e162 (r : List Cell) : FRes := { rs := Slot.av (AV.one (Leaf.dat celk.sl r)), upd := [], new := [] }
@[reducible] def a162 : List AK := [AK.d celk.sl, AK.d (.int .i64)]
@[reducible] def b162 : List BK := []
theorem t162 (a : List Cell) (b : Int) : evFn (E162) Tryd.f162 [PM.data celk.sl] (akAV a162 (a, b, ())) (bkBs b162 ()) = (d162 a b).map e162 := by kernel_rfl
def s162 (C : akT a162 → Bool) (G : akT a162 → List Cell) : FSpec := aspec a162 b162 e162 (fun x _ => C x) (fun x _ => G x)
def s162' (G : akT a162 → List Cell) : FSpec := aspec0 a162 b162 e162 (fun x _ => G x)
theorem k162 {C : akT a162 → Bool} {G : akT a162 → List Cell} (hd : ∀ (a : List Cell) (b : Int), C (a, b, ()) = true → (d162 a b).val = some (G (a, b, ()))) (IO : ItOK Tryd.prog (E162) := by exact itOK_none rfl) (L : ∀ c, Tryd.f162.body = some c → LsOK (evI 2) ((E162).lend 0) c := by exact fun c _ => LsOK_none rfl c) : SpecOK Tryd.prog E0 162 (s162 C G) :=
  aspec_ok (ak := a162) (bl := b162) (e := e162) (c := fun x _ => C x) (g := fun x _ => G x) (E0 := E0) (E := E162) tab (.cons wk172 .nil) rfl rfl hm Tryd.func162 (by kernel_rfl) [PM.data celk.sl] (fun X Y H => by obtain ⟨a, ⟨b, _⟩⟩ := X; exact val_of (t162 a b) (hd a b H)) IO L
theorem k162' {G : akT a162 → List Cell} (hd : ∀ (a : List Cell) (b : Int), (d162 a b).val = some (G (a, b, ()))) (IO : ItOK Tryd.prog (E162) := by exact itOK_none rfl) (L : ∀ c, Tryd.f162.body = some c → LsOK (evI 2) ((E162).lend 0) c := by exact fun c _ => LsOK_none rfl c) : SpecOK Tryd.prog E0 162 (s162' G) :=
  aspec0_ok (ak := a162) (bl := b162) (e := e162) (g := fun x _ => G x) (E0 := E0) (E := E162) tab (.cons wk172 .nil) rfl rfl hm Tryd.func162 (by kernel_rfl) [PM.data celk.sl] (fun X Y => by obtain ⟨a, ⟨b, _⟩⟩ := X; exact val_of (t162 a b) (hd a b)) IO L
abbrev w162 : FSpec := s162 (fun x => decide (List.length (α := Cell) x.1 = 1 ∧ 1 ≤ (x.2.1 : Int) ∧ (x.2.1 : Int) < 128)) fun x => List.replicate x.2.1.toNat (List.getD (α := Cell) x.1 0 U.dC)
theorem wk162 : SpecOK Tryd.prog E0 162 w162 := by
  refine k162 (fun l n H => ?_) (L := ls_ok (lcs := [lc Tryd.f162 0]) (rgs := []) (by kernel_rfl) (by kernel_rfl) L162 trivial)
  have H : (l.length = 1 ∧ (1 : Int) ≤ n ∧ (n : Int) < 128) := of_decide_eq_true H
  obtain ⟨h1, h2, h3⟩ := H
  obtain ⟨m, rfl⟩ := Int.eq_ofNat_of_zero_le (a := n) (Int.le_trans (by decide) h2)
  have h4 : 1 ≤ m ∧ m < 128 := by omega
  have u1 : IntKind.u64.wrap (m : Int) = (m : Int) := by simp [IntKind.wrap, IntKind.signed, IntKind.bits]; omega
  have u2 : IntKind.i64.wrap (m : Int) = (m : Int) := w64 (by omega) (by omega)
  have u3 : IntKind.u64.wrap 1 = 1 := by decide
  match l, h1 with
  | [x], _ =>
    have e1 : List.take m [x] = [x] := List.take_of_length_le (by simp; omega)
    show _ = some (List.replicate m x)
    have e2 : Nat.min 1 m = 1 := Nat.min_eq_left h4.1
    have e3 : (putAt (List.replicate m ((ByteArray.empty, (0 : Int), ((0 : Int), (0 : Int), (0 : Int), ()), ()) : Cell)) 0 [x]).length = m := by
      simp only [putAt, List.length_append, List.length_take, List.length_drop, List.length_replicate, List.length_cons, List.length_nil]
      omega
    have e4 : ∀ (q : List Cell), (putAt q 0 [x]).getD 0 U.dC = x := fun q => rfl
    have a1 : (0 : Int) ≤ (m : Int) := by omega
    have a2 : (m : Int) < 128 := by omega
    have a3 : (m : Int) ≤ (m : Int) := by omega
    have a4 : m * 48 ≤ 140737488355328 := by omega
    have a5 : 1 ≤ m := by omega
    have a6 : m ≤ 1048576 := by omega
    simp only [d162, Tr.val, u1, u2, Int.toNat_natCast, List.length_replicate, List.length_cons, List.length_nil, Nat.zero_add, e1, e2, e4, show ((1 : Nat) : Int) = 1 from rfl, u3, show ¬ ((m : Int) < 0) by omega, show ¬ ((9223372036854775807 : Int) < (m : Int)) by omega, decide_true, decide_false, cond_true, cond_false]
    simp only [e3, a1, a2, a3, a4, a5, a6, and_self, true_and, decide_true, cond_true]
def d150 (a : Int) (b1 : Int) (b2 : Int) (b3 : Int) : Tr (List Cell × Bool) :=
  Tr.ite (decide ((1 : Nat) = (1 : Nat) ∧ (1 : Int) ≤ a ∧ a < (128 : Int)))
    (Tr.ret (List.replicate a.toNat ([(ByteArray.empty, (1 : Int), ((0 : Int), b2, (0 : Int), ()), ())].getD (0 : Nat) U.dC), false)) Tr.fail
def e150 (r : List Cell × Bool) : FRes := { rs := Slot.av (AV.agg [Leaf.dat celk.sl r.fst, Leaf.dat Kd.bool r.snd]), upd := [], new := [] }
@[reducible] def a150 : List AK := [AK.d (.int .i64), AK.d attk]
@[reducible] def b150 : List BK := []
theorem t150 (a : Int) (b1 : Int) (b2 : Int) (b3 : Int) : evFn (E0.withFns [((88 : Nat), w88), ((162 : Nat), w162)]) Tryd.f150 [PM.data link] (akAV a150 (a, (b1, b2, b3, ()), ())) (bkBs b150 ()) = (d150 a b1 b2 b3).map e150 := by kernel_rfl
def s150 (C : akT a150 → Bool) (G : akT a150 → List Cell × Bool) : FSpec := aspec a150 b150 e150 (fun x _ => C x) (fun x _ => G x)
def s150' (G : akT a150 → List Cell × Bool) : FSpec := aspec0 a150 b150 e150 (fun x _ => G x)
theorem k150 {C : akT a150 → Bool} {G : akT a150 → List Cell × Bool} (hd : ∀ (a : Int) (b1 : Int) (b2 : Int) (b3 : Int), C (a, (b1, b2, b3, ()), ()) = true → (d150 a b1 b2 b3).val = some (G (a, (b1, b2, b3, ()), ()))) (IO : ItOK Tryd.prog (E0.withFns [((88 : Nat), w88), ((162 : Nat), w162)]) := by exact itOK_none rfl) (L : ∀ c, Tryd.f150.body = some c → LsOK (evI 2) ((E0.withFns [((88 : Nat), w88), ((162 : Nat), w162)]).lend 0) c := by exact fun c _ => LsOK_none rfl c) : SpecOK Tryd.prog E0 150 (s150 C G) :=
  aspec_ok (ak := a150) (bl := b150) (e := e150) (c := fun x _ => C x) (g := fun x _ => G x) (E0 := E0) (E := E0.withFns [((88 : Nat), w88), ((162 : Nat), w162)]) tab (.cons wk88 (.cons wk162 .nil)) rfl rfl hm Tryd.func150 (by kernel_rfl) [PM.data link] (fun X Y H => by obtain ⟨a, ⟨⟨b1, ⟨b2, ⟨b3, _⟩⟩⟩, _⟩⟩ := X; exact val_of (t150 a b1 b2 b3) (hd a b1 b2 b3 H)) IO L
theorem k150' {G : akT a150 → List Cell × Bool} (hd : ∀ (a : Int) (b1 : Int) (b2 : Int) (b3 : Int), (d150 a b1 b2 b3).val = some (G (a, (b1, b2, b3, ()), ()))) (IO : ItOK Tryd.prog (E0.withFns [((88 : Nat), w88), ((162 : Nat), w162)]) := by exact itOK_none rfl) (L : ∀ c, Tryd.f150.body = some c → LsOK (evI 2) ((E0.withFns [((88 : Nat), w88), ((162 : Nat), w162)]).lend 0) c := by exact fun c _ => LsOK_none rfl c) : SpecOK Tryd.prog E0 150 (s150' G) :=
  aspec0_ok (ak := a150) (bl := b150) (e := e150) (g := fun x _ => G x) (E0 := E0) (E := E0.withFns [((88 : Nat), w88), ((162 : Nat), w162)]) tab (.cons wk88 (.cons wk162 .nil)) rfl rfl hm Tryd.func150 (by kernel_rfl) [PM.data link] (fun X Y => by obtain ⟨a, ⟨⟨b1, ⟨b2, ⟨b3, _⟩⟩⟩, _⟩⟩ := X; exact val_of (t150 a b1 b2 b3) (hd a b1 b2 b3)) IO L
abbrev w150 : FSpec := s150 (fun x => decide (1 ≤ (x.1 : Int) ∧ (x.1 : Int) < 128)) fun x => (List.replicate x.1.toNat (U.blank x.2.1), false)
theorem wk150 : SpecOK Tryd.prog E0 150 w150 := by
  refine k150 fun n a b c H => ?_
  have H : (1 : Int) ≤ n ∧ (n : Int) < 128 := of_decide_eq_true H
  simp only [d150, Tr.val, H, and_self, decide_true, cond_true]
  rfl
def live117 (key : Nat) : Lv :=
  bif Nat.beq key 3 then { ls := [0, 5, 7, 8, 9], wd := [⟨7, none, .row 34 link⟩] } else bif Nat.beq key 1003 then { ls := [7] } else
  { ls := [] }
abbrev M117 (ls : Nat → VS → Option (Tr (Ex × VS))) : Env := (E0.withFns [(150, w150)]).loops live117 ls
@[reducible] def p117_0 : LP := { n := 19, sl := [.d (.int .i64), .c (Leaf.ptr ( 0) ( 0)), .c (Leaf.row ( 1)), .d (.int .i64), .d (.int .i64)], bl := [(0, .box [.d (.int .i64), .d (.int .i64), .d (.int .i64)]), (1, .row 34 (link))] }
def B117_0 (x0 : Int) (x3 : Int) (x4 : Int) (h0_0 : Int) (h0_1 : Int) (h0_2 : Int) (h1 : List Line) : Tr (p117_0.T ⊕ (List Line)) :=
  Tr.ite (decide (x4 < x3))
    (Tr.ite (decide ((1 : Int) ≤ x0 ∧ x0 < (128 : Int)))
      (Tr.ite (decide ((h1.length + (1 : Nat)) * (32 : Nat) ≤ (140737488355328 : Nat)))
        (Tr.ret (Sum.inl ((x0, x3, IntKind.i64.wrap (x4 + (1 : Int)), ()), (h0_0, h0_1, h0_2, ()), h1 ++ [(List.replicate x0.toNat (U.blank (h0_0, h0_1, h0_2, ())), false, ())], ()))) Tr.fail)
      Tr.fail)
    (Tr.ret (Sum.inr h1))
def X117_0 (r : (List Line)) : Ex × VS := Prod.mk (Ex.exit ( 0)) { n := 19, v := [Slot.av (AV.one (Leaf.row ( 0)))], h := [( 0, Blk.row ( 34) link r)] }
def b117_0 : p117_0.T → Tr (p117_0.T ⊕ (List Line)) := fun ⟨⟨x0, ⟨x3, ⟨x4, _⟩⟩⟩, ⟨⟨h0_0, ⟨h0_1, ⟨h0_2, _⟩⟩⟩, ⟨h1, _⟩⟩⟩ => B117_0 x0 x3 x4 h0_0 h0_1 h0_2 h1
theorem h117_0 (ls : Nat → VS → Option (Tr (Ex × VS))) (x : p117_0.T) : (evC (evI 2) (lc Tryd.f117 0) (Env.lend (M117 ls) 0) (unV (live117 3) (p117_0.V x))).map (decL 0 (live117 3) (live117 1003)) = (b117_0 x).map (encR p117_0.V X117_0) := by
  obtain ⟨⟨x0, ⟨x3, ⟨x4, _⟩⟩⟩, ⟨⟨h0_0, ⟨h0_1, ⟨h0_2, _⟩⟩⟩, ⟨h1, _⟩⟩⟩ := x; kernel_rfl
theorem c117_0 (x : p117_0.T) : canV 0 (live117 3) (unV (live117 3) (p117_0.V x)) = p117_0.V x := by
  obtain ⟨⟨x0, ⟨x3, ⟨x4, _⟩⟩⟩, ⟨⟨h0_0, ⟨h0_1, ⟨h0_2, _⟩⟩⟩, ⟨h1, _⟩⟩⟩ := x; kernel_rfl
theorem l117_0 {T : p117_0.T → Tr (List Line)} {ls : Nat → VS → Option (Tr (Ex × VS))} (hls : ∀ x, (Env.lend (M117 ls) 0).ls 3 x = p117_0.ls (fun a => (T a).map X117_0) x) (hS : ∀ x r, (T x).val = some r → Rounds b117_0 x r) : LoopOK (evI 2) (Env.lend (M117 ls) 0) (lc Tryd.f117 0) :=
  loopA 3 (live117 3) (live117 1003) p117_0 b117_0 X117_0 T (by kernel_rfl) rfl rfl hls (h117_0 ls) c117_0 hS
theorem fold_rep {α : Type} (c : α) : ∀ (k i : Nat) (a : List α), (List.range' i k).foldl (fun s _ => s ++ [c]) a = a ++ List.replicate k c
  | 0, _, a => by simp
  | k + 1, i, a => by rw [List.range'_succ, List.foldl_cons, fold_rep c k, List.append_assoc, List.replicate_succ]; rfl
def T117 (x : p117_0.T) : Tr (List Line) :=
  .ite (decide ((x.1.2.2.1 : Int) = 0 ∧ 0 ≤ (x.1.2.1 : Int) ∧ (x.1.2.1 : Int) ≤ 1000 ∧ 1 ≤ (x.1.1 : Int) ∧ (x.1.1 : Int) < 128 ∧ List.length (α := Line) x.2.2.1 ≤ 1000))
    (.ret (x.2.2.1 ++ List.replicate x.1.2.1.toNat (List.replicate x.1.1.toNat (U.blank (x.2.1.1, x.2.1.2.1, x.2.1.2.2.1, ())), false, ()))) .fail
abbrev E117 : Env := M117 fun key x => bif Nat.beq key 3 then p117_0.ls (fun a => (T117 a).map X117_0) x else none
theorem L117 : LoopOK (evI 2) (E117.lend 0) (lc Tryd.f117 0) := by
  refine l117_0 (T := T117) (fun x => rfl) ?_
  rintro ⟨⟨c, n, i, z⟩, ⟨a, b, d, z1⟩, h, z2⟩ r hh
  obtain ⟨g1, g2⟩ := pre_val hh
  have g1 : ((i : Int) = 0 ∧ (0 : Int) ≤ n ∧ (n : Int) ≤ 1000 ∧ (1 : Int) ≤ c ∧ (c : Int) < 128 ∧ h.length ≤ 1000) := of_decide_eq_true g1
  obtain ⟨rfl, e2, e3, e4, e5, e6⟩ := g1
  obtain ⟨m, rfl⟩ := Int.eq_ofNat_of_zero_le (a := n) e2
  have e3' : m ≤ 1000 := by
    have : (m : Int) ≤ 1000 := e3
    omega
  cases g2
  have := Rounds.uptoA (B := b117_0) (σ := List Line) (N := m) (fun i s => ((c, (m : Int), (i : Int), ()), (a, b, d, ()), s, ())) (fun _ s => s ++ [(List.replicate c.toNat (U.blank (a, b, d, ())), false, ())]) (fun s => s) (fun i s => s.length ≤ 1000 + i) (fun i s hi hv => ?_) (fun s hv => ?_) m 0 h (by omega) (by omega)
  · rw [fold_rep] at this
    exact this
  · have e8 : (s.length + 1) * 32 ≤ 140737488355328 := by omega
    refine ⟨?_, by simp only [List.length_append, List.length_singleton]; omega⟩
    simp only [b117_0, B117_0, Tr.val, e4, e5, e8, show ((i : Int) < (m : Int)) by omega, and_self, decide_true, cond_true, wrap64_nat (show i ≤ 1048576 by omega)]
  · simp only [b117_0, B117_0, Tr.val, show ¬ ((m : Int) < (m : Int)) by omega, decide_false, cond_false]
def d117 (a : Int) (b : Int) (c1 : Int) (c2 : Int) (c3 : Int) : Tr (List (List U.Cl × Bool × Unit)) :=
  Tr.ite (decide ((0 : Int) = (0 : Int) ∧ (0 : Int) ≤ b ∧ b ≤ (1000 : Int) ∧ (1 : Int) ≤ a ∧ a < (128 : Int) ∧ (0 : Nat) ≤ (1000 : Nat)))
    (Tr.ret (List.replicate b.toNat (List.replicate a.toNat (U.blank (c1, c2, c3, ())), false, ()))) Tr.fail
def e117 (r : List (List U.Cl × Bool × Unit)) : FRes := { rs := Slot.av (AV.one (Leaf.dat link.sl r)), upd := [], new := [] }
@[reducible] def a117 : List AK := [AK.d (.int .i64), AK.d (.int .i64), AK.d attk]
@[reducible] def b117 : List BK := []
theorem t117 (a : Int) (b : Int) (c1 : Int) (c2 : Int) (c3 : Int) : evFn (E117) Tryd.f117 [PM.data link.sl] (akAV a117 (a, b, (c1, c2, c3, ()), ())) (bkBs b117 ()) = (d117 a b c1 c2 c3).map e117 := by kernel_rfl
def s117 (C : akT a117 → Bool) (G : akT a117 → List (List U.Cl × Bool × Unit)) : FSpec := aspec a117 b117 e117 (fun x _ => C x) (fun x _ => G x)
def s117' (G : akT a117 → List (List U.Cl × Bool × Unit)) : FSpec := aspec0 a117 b117 e117 (fun x _ => G x)
theorem k117 {C : akT a117 → Bool} {G : akT a117 → List (List U.Cl × Bool × Unit)} (hd : ∀ (a : Int) (b : Int) (c1 : Int) (c2 : Int) (c3 : Int), C (a, b, (c1, c2, c3, ()), ()) = true → (d117 a b c1 c2 c3).val = some (G (a, b, (c1, c2, c3, ()), ()))) (IO : ItOK Tryd.prog (E117) := by exact itOK_none rfl) (L : ∀ c, Tryd.f117.body = some c → LsOK (evI 2) ((E117).lend 0) c := by exact fun c _ => LsOK_none rfl c) : SpecOK Tryd.prog E0 117 (s117 C G) :=
  aspec_ok (ak := a117) (bl := b117) (e := e117) (c := fun x _ => C x) (g := fun x _ => G x) (E0 := E0) (E := E117) tab (.cons wk150 .nil) rfl rfl hm Tryd.func117 (by kernel_rfl) [PM.data link.sl] (fun X Y H => by obtain ⟨a, ⟨b, ⟨⟨c1, ⟨c2, ⟨c3, _⟩⟩⟩, _⟩⟩⟩ := X; exact val_of (t117 a b c1 c2 c3) (hd a b c1 c2 c3 H)) IO L
theorem k117' {G : akT a117 → List (List U.Cl × Bool × Unit)} (hd : ∀ (a : Int) (b : Int) (c1 : Int) (c2 : Int) (c3 : Int), (d117 a b c1 c2 c3).val = some (G (a, b, (c1, c2, c3, ()), ()))) (IO : ItOK Tryd.prog (E117) := by exact itOK_none rfl) (L : ∀ c, Tryd.f117.body = some c → LsOK (evI 2) ((E117).lend 0) c := by exact fun c _ => LsOK_none rfl c) : SpecOK Tryd.prog E0 117 (s117' G) :=
  aspec0_ok (ak := a117) (bl := b117) (e := e117) (g := fun x _ => G x) (E0 := E0) (E := E117) tab (.cons wk150 .nil) rfl rfl hm Tryd.func117 (by kernel_rfl) [PM.data link.sl] (fun X Y => by obtain ⟨a, ⟨b, ⟨⟨c1, ⟨c2, ⟨c3, _⟩⟩⟩, _⟩⟩⟩ := X; exact val_of (t117 a b c1 c2 c3) (hd a b c1 c2 c3)) IO L
abbrev w117 : FSpec := s117 (fun x => decide (1 ≤ (x.1 : Int) ∧ (x.1 : Int) < 128 ∧ 0 ≤ (x.2.1 : Int) ∧ (x.2.1 : Int) ≤ 1000)) fun x => List.replicate x.2.1.toNat (List.replicate x.1.toNat (U.blank x.2.2.1), false, ())
theorem wk117 : SpecOK Tryd.prog E0 117 w117 := by
  refine k117 (fun c n a b d H => ?_) (L := ls_ok (lcs := [lc Tryd.f117 0]) (rgs := []) (by kernel_rfl) (by kernel_rfl) L117 trivial)
  have H : (1 : Int) ≤ c ∧ (c : Int) < 128 ∧ (0 : Int) ≤ n ∧ (n : Int) ≤ 1000 := of_decide_eq_true H
  obtain ⟨h1, h2, h3, h4⟩ := H
  simp only [d117, Tr.val, h1, h2, h3, h4, and_self, decide_true, cond_true, List.length_nil, Nat.zero_le, List.nil_append]
def d85 (a : Int) (b : Int) : Tr (Int × List Line × Int) :=
  Tr.ite (!U.inn a (1 : Int) (80 : Int)) (Tr.ret ((0 : Int), [], (1 : Int)))
    (Tr.ite (!U.inn b (1 : Int) (50 : Int)) (Tr.ret ((0 : Int), [], (1 : Int)))
      (Tr.ite (decide ((1 : Int) ≤ a ∧ a < (128 : Int) ∧ (0 : Int) ≤ b ∧ b ≤ (1000 : Int)))
        (Tr.ret (a, List.replicate b.toNat (List.replicate a.toNat (U.blank ((0 : Int), (0 : Int), (0 : Int), ())), false, ()), (0 : Int))) Tr.fail))
def e85 (r : Int × List Line × Int) : FRes := { rs := Slot.tup [AV.agg [Leaf.dat (.int .i64) r.fst, Leaf.dat link.sl r.snd.fst], AV.one (Leaf.dat (.int .i64) r.snd.snd)], upd := [], new := [] }
@[reducible] def a85 : List AK := [AK.d (.int .i64), AK.d (.int .i64)]
@[reducible] def b85 : List BK := []
theorem t85 (a : Int) (b : Int) : evFn (E0.withFns [((93 : Nat), w93), ((117 : Nat), w117)]) Tryd.f85 [PM.data gridk, PM.data (.int .i64)] (akAV a85 (a, b, ())) (bkBs b85 ()) = (d85 a b).map e85 := by kernel_rfl
def s85 (C : akT a85 → Bool) (G : akT a85 → Int × List Line × Int) : FSpec := aspec a85 b85 e85 (fun x _ => C x) (fun x _ => G x)
def s85' (G : akT a85 → Int × List Line × Int) : FSpec := aspec0 a85 b85 e85 (fun x _ => G x)
theorem k85 {C : akT a85 → Bool} {G : akT a85 → Int × List Line × Int} (hd : ∀ (a : Int) (b : Int), C (a, b, ()) = true → (d85 a b).val = some (G (a, b, ()))) (IO : ItOK Tryd.prog (E0.withFns [((93 : Nat), w93), ((117 : Nat), w117)]) := by exact itOK_none rfl) (L : ∀ c, Tryd.f85.body = some c → LsOK (evI 2) ((E0.withFns [((93 : Nat), w93), ((117 : Nat), w117)]).lend 0) c := by exact fun c _ => LsOK_none rfl c) : SpecOK Tryd.prog E0 85 (s85 C G) :=
  aspec_ok (ak := a85) (bl := b85) (e := e85) (c := fun x _ => C x) (g := fun x _ => G x) (E0 := E0) (E := E0.withFns [((93 : Nat), w93), ((117 : Nat), w117)]) tab (.cons wk93 (.cons wk117 .nil)) rfl rfl hm Tryd.func85 (by kernel_rfl) [PM.data gridk, PM.data (.int .i64)] (fun X Y H => by obtain ⟨a, ⟨b, _⟩⟩ := X; exact val_of (t85 a b) (hd a b H)) IO L
theorem k85' {G : akT a85 → Int × List Line × Int} (hd : ∀ (a : Int) (b : Int), (d85 a b).val = some (G (a, b, ()))) (IO : ItOK Tryd.prog (E0.withFns [((93 : Nat), w93), ((117 : Nat), w117)]) := by exact itOK_none rfl) (L : ∀ c, Tryd.f85.body = some c → LsOK (evI 2) ((E0.withFns [((93 : Nat), w93), ((117 : Nat), w117)]).lend 0) c := by exact fun c _ => LsOK_none rfl c) : SpecOK Tryd.prog E0 85 (s85' G) :=
  aspec0_ok (ak := a85) (bl := b85) (e := e85) (g := fun x _ => G x) (E0 := E0) (E := E0.withFns [((93 : Nat), w93), ((117 : Nat), w117)]) tab (.cons wk93 (.cons wk117 .nil)) rfl rfl hm Tryd.func85 (by kernel_rfl) [PM.data gridk, PM.data (.int .i64)] (fun X Y => by obtain ⟨a, ⟨b, _⟩⟩ := X; exact val_of (t85 a b) (hd a b)) IO L
end Go.Proofs.YtmnbcnhpklejcaaDoor
namespace U
def rawNew (c r : Int) : Int × List Ln × Int := if inn c 1 80 = true ∧ inn r 1 50 = true then (c, List.replicate r.toNat (List.replicate c.toNat (blank (0, 0, 0, ())), false, ()), 0) else (0, [], 1)
end U
namespace Go.Proofs.YtmnbcnhpklejcaaDoor
abbrev w85 : FSpec := s85' fun x => U.rawNew x.1 x.2.1
theorem wk85 : SpecOK Tryd.prog E0 85 w85 := by
  refine k85' fun c r => ?_
  show _ = some (U.rawNew c r)
  unfold U.rawNew
  cases h1 : U.inn c 1 80 with
  | false => simp only [d85, Tr.val, h1, Bool.not_false, cond_true, Bool.false_eq_true, false_and, if_false]
  | true =>
    cases h2 : U.inn r 1 50 with
    | false => simp only [d85, Tr.val, h1, h2, Bool.not_false, Bool.not_true, cond_true, cond_false, Bool.false_eq_true, and_false, if_false]
    | true =>
      obtain ⟨a1, a2⟩ := U.inn_iff.1 h1
      obtain ⟨b1, b2⟩ := U.inn_iff.1 h2
      simp only [d85, Tr.val, h1, h2, Bool.not_true, cond_true, cond_false, a1, show c < 128 by omega, show 0 ≤ r by omega, show r ≤ 1000 by omega, and_self, decide_true, if_true]
def d29 : Tr (Bool) :=
  Tr.ite true
    (Tr.ite true (Tr.ite true (Tr.ite true (Tr.ite true (Tr.ite true (Tr.ite true (Tr.ite true (Tr.ret true) Tr.fail) Tr.fail) (Tr.ret false)) Tr.fail) (Tr.ret false)) (Tr.ret false)) (Tr.ret false))
    Tr.fail
def e29 (r : Bool) : FRes := { rs := Slot.av (AV.one (Leaf.dat Kd.bool r)), upd := [], new := [] }
@[reducible] def a29 : List AK := []
@[reducible] def b29 : List BK := []
theorem t29 : evFn (E0.withFns [((85 : Nat), w85), ((33 : Nat), w33)]) Tryd.f29 [PM.data Kd.bool] (akAV a29 ()) (bkBs b29 ()) = (d29).map e29 := by kernel_rfl
def s29 (C : akT a29 → Bool) (G : akT a29 → Bool) : FSpec := aspec a29 b29 e29 (fun x _ => C x) (fun x _ => G x)
def s29' (G : akT a29 → Bool) : FSpec := aspec0 a29 b29 e29 (fun x _ => G x)
theorem k29 {C : akT a29 → Bool} {G : akT a29 → Bool} (hd : C () = true → (d29).val = some (G ())) (IO : ItOK Tryd.prog (E0.withFns [((85 : Nat), w85), ((33 : Nat), w33)]) := by exact itOK_none rfl) (L : ∀ c, Tryd.f29.body = some c → LsOK (evI 2) ((E0.withFns [((85 : Nat), w85), ((33 : Nat), w33)]).lend 0) c := by exact fun c _ => LsOK_none rfl c) : SpecOK Tryd.prog E0 29 (s29 C G) :=
  aspec_ok (ak := a29) (bl := b29) (e := e29) (c := fun x _ => C x) (g := fun x _ => G x) (E0 := E0) (E := E0.withFns [((85 : Nat), w85), ((33 : Nat), w33)]) tab (.cons wk85 (.cons wk33 .nil)) rfl rfl hm Tryd.func29 (by kernel_rfl) [PM.data Kd.bool] (fun X Y H => by exact val_of (t29) (hd H)) IO L
theorem k29' {G : akT a29 → Bool} (hd : (d29).val = some (G ())) (IO : ItOK Tryd.prog (E0.withFns [((85 : Nat), w85), ((33 : Nat), w33)]) := by exact itOK_none rfl) (L : ∀ c, Tryd.f29.body = some c → LsOK (evI 2) ((E0.withFns [((85 : Nat), w85), ((33 : Nat), w33)]).lend 0) c := by exact fun c _ => LsOK_none rfl c) : SpecOK Tryd.prog E0 29 (s29' G) :=
  aspec0_ok (ak := a29) (bl := b29) (e := e29) (g := fun x _ => G x) (E0 := E0) (E := E0.withFns [((85 : Nat), w85), ((33 : Nat), w33)]) tab (.cons wk85 (.cons wk33 .nil)) rfl rfl hm Tryd.func29 (by kernel_rfl) [PM.data Kd.bool] (fun X Y => by exact val_of (t29) (hd)) IO L
abbrev w29 : FSpec := s29' fun _ => true
theorem wk29 : SpecOK Tryd.prog E0 29 w29 := k29' rfl
end Go.Proofs.YtmnbcnhpklejcaaDoor
