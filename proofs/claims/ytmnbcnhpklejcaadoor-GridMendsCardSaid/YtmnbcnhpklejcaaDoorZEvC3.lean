/- The reference's letters; cells and lines that are the same. -/
import Derived.Test.YtmnbcnhpklejcaaDoorZEvAuto
import Derived.Test.YtmnbcnhpklejcaaDoorZEvC2
set_option linter.unusedVariables false
set_option linter.unusedSimpArgs false
set_option maxRecDepth 20000
open Go Go.Ev
namespace Go.Proofs.YtmnbcnhpklejcaaDoor
open Go.RowKit
end Go.Proofs.YtmnbcnhpklejcaaDoor
namespace U
def eqC (a b : Cl) : Bool := decide (a.1 = b.1) && (decide (a.2.1 = b.2.1) && (decide (a.2.2.1.1 = b.2.2.1.1) && (decide (a.2.2.1.2.1 = b.2.2.1.2.1) && decide (a.2.2.1.2.2.1 = b.2.2.1.2.2.1))))
theorem eqC_iff {a b : Cl} : eqC a b = true ↔ a = b := by
  obtain ⟨a1, a2, ⟨a3, a4, a5, u1⟩, u2⟩ := a
  obtain ⟨b1, b2, ⟨b3, b4, b5, u3⟩, u4⟩ := b
  simp only [eqC, Bool.and_eq_true, decide_eq_true_eq, Prod.mk.injEq]
  constructor
  · rintro ⟨h1, h2, h3, h4, h5⟩; exact ⟨h1, h2, ⟨h3, h4, h5, trivial⟩, trivial⟩
  · rintro ⟨h1, h2, ⟨h3, h4, h5, _⟩, _⟩; exact ⟨h1, h2, h3, h4, h5⟩
def eqCs (l m : List Cl) : Bool := decide (l.length = m.length) && allN (fun i => eqC (l.getD i dC) (m.getD i dC)) l.length 0
theorem eqCs_iff {l m : List Cl} : eqCs l m = true ↔ l = m := by
  simp only [eqCs, Bool.and_eq_true, decide_eq_true_eq, all0]
  constructor
  · rintro ⟨e3, h⟩
    refine List.ext_getElem e3 fun j h1 h2 => ?_
    have := eqC_iff.1 (h j h1)
    rwa [getD_el h1, getD_el h2] at this
  · rintro rfl
    exact ⟨rfl, fun j _ => eqC_iff.2 rfl⟩
def eqL (a b : Ln) : Bool := eqCs a.1 b.1 && (a.2.1 == b.2.1)
theorem eqL_iff {a b : Ln} : eqL a b = true ↔ a = b := by
  obtain ⟨a1, a2, u⟩ := a
  obtain ⟨b1, b2, v⟩ := b
  simp [eqL, eqCs_iff]
def eqLs (l m : List Ln) : Bool := decide (l.length = m.length) && allN (fun i => eqL (l.getD i dL) (m.getD i dL)) l.length 0
theorem eqLs_iff {l m : List Ln} : eqLs l m = true ↔ l = m := by
  simp only [eqLs, Bool.and_eq_true, decide_eq_true_eq, all0]
  constructor
  · rintro ⟨e3, h⟩
    refine List.ext_getElem e3 fun j h1 h2 => ?_
    have := eqL_iff.1 (h j h1)
    rwa [getD_el h1, getD_el h2] at this
  · rintro rfl
    exact ⟨rfl, fun j _ => eqL_iff.2 rfl⟩
end U
namespace Go.Proofs.YtmnbcnhpklejcaaDoor
def T25 (x : p25_0.T) : Tr (Unit ⊕ Unit) :=
  .ite (decide ((x.1.1 : Int) = (List.length (α := Cell) x.2.1.1 : Int) ∧ (x.1.2.1 : Int) = 0 ∧ List.length (α := Cell) x.2.1.1 = List.length (α := Cell) x.2.2.1.1 ∧ List.length (α := Cell) x.2.1.1 ≤ 1048576))
    (.ite (U.eqCs x.2.1.1 x.2.2.1.1) (.ret (.inr ())) (.ret (.inl ()))) .fail
abbrev E25 : Env := M25 fun key x => bif Nat.beq key 4 then p25_0.ls (fun a => (T25 a).map X25_0) x else none
theorem L25 : LoopOK (evI 2) (E25.lend 0) (lc Tryd.f25 0) := by
  refine l25_0 (T := T25) (fun x => rfl) ?_
  rintro ⟨⟨n, i, z⟩, ⟨l, s, z1⟩, ⟨m, t, z2⟩, z3⟩ r h
  obtain ⟨g1, g2⟩ := pre_val h
  obtain ⟨e1, e2, e3, e4⟩ := of_decide_eq_true g1
  dsimp only at e1 e2 e3 e4 g2
  subst e1; subst e2
  have := Rounds.all (B := b25_0) (N := List.length (α := Cell) l) (fun i => (((List.length (α := Cell) l : Int), (i : Int), ()), (l, s, ()), (m, t, ()), ())) (fun i => U.eqC (List.getD (α := Cell) l i U.dC) (List.getD (α := Cell) m i U.dC)) (.inl ()) (.inr ()) (fun i hi => ?_) ?_
  · have e : allN (fun i => U.eqC (List.getD (α := Cell) l i U.dC) (List.getD (α := Cell) m i U.dC)) (List.length (α := Cell) l) 0 = U.eqCs l m := by
      unfold U.eqCs
      rw [decide_eq_true e3, Bool.true_and]
    rw [e] at this
    cases hd : U.eqCs l m <;> simp only [hd, Tr.val, cond_true, cond_false] at g2 this <;> cases g2 <;> exact this
  · have i2 : inB (i : Int) (List.length (α := Cell) m) = true := inB_nat (by omega)
    simp only [b25_0, B25_0, Tr.val, inB_nat hi, i2, rgetC, show ((i : Int) < (List.length (α := Cell) l : Int)) by omega, decide_true, cond_true, wrap64_nat (show i ≤ 1048576 by omega)]
    show (bif !(U.eqC (List.getD (α := Cell) l i U.dC) (List.getD (α := Cell) m i U.dC)) then _ else _) = _
    cases U.eqC (List.getD (α := Cell) l i U.dC) (List.getD (α := Cell) m i U.dC) <;> rfl
  · simp only [b25_0, B25_0, Tr.val, show ¬ ((List.length (α := Cell) l : Int) < (List.length (α := Cell) l : Int)) by omega, decide_false, cond_false]
def d25 (a1 : List Cell) (a2 : Bool) (b1 : List Cell) (b2 : Bool) : Tr (Bool) :=
  let v1 : Int := ((↑a1.length : Int))
  let v2 : Int := ((↑b1.length : Int))
  let v3 : Int := ((↑a1.length : Int))
  Tr.ite (!decide (v3 = v2)) (Tr.ret false)
    (Tr.ite (!a2 == b2) (Tr.ret false)
      (Tr.ite (decide (v3 = v1 ∧ (0 : Int) = (0 : Int) ∧ a1.length = b1.length ∧ a1.length ≤ (1048576 : Nat))) (Tr.ite (U.eqCs a1 b1) (Tr.ret true) (Tr.ret false)) Tr.fail))
def e25 (r : Bool) : FRes := { rs := Slot.av (AV.one (Leaf.dat Kd.bool r)), upd := [], new := [] }
@[reducible] def a25 : List AK := [AK.d link, AK.d link]
@[reducible] def b25 : List BK := []
theorem t25 (a1 : List Cell) (a2 : Bool) (b1 : List Cell) (b2 : Bool) : evFn (E25) Tryd.f25 [PM.data Kd.bool] (akAV a25 ((a1, a2, ()), (b1, b2, ()), ())) (bkBs b25 ()) = (d25 a1 a2 b1 b2).map e25 := by kernel_rfl
def s25 (C : akT a25 → Bool) (G : akT a25 → Bool) : FSpec := aspec a25 b25 e25 (fun x _ => C x) (fun x _ => G x)
def s25' (G : akT a25 → Bool) : FSpec := aspec0 a25 b25 e25 (fun x _ => G x)
theorem k25 {C : akT a25 → Bool} {G : akT a25 → Bool} (hd : ∀ (a1 : List Cell) (a2 : Bool) (b1 : List Cell) (b2 : Bool), C ((a1, a2, ()), (b1, b2, ()), ()) = true → (d25 a1 a2 b1 b2).val = some (G ((a1, a2, ()), (b1, b2, ()), ()))) (IO : ItOK Tryd.prog (E25) := by exact itOK_none rfl) (L : ∀ c, Tryd.f25.body = some c → LsOK (evI 2) ((E25).lend 0) c := by exact fun c _ => LsOK_none rfl c) : SpecOK Tryd.prog E0 25 (s25 C G) :=
  aspec_ok (ak := a25) (bl := b25) (e := e25) (c := fun x _ => C x) (g := fun x _ => G x) (E0 := E0) (E := E25) tab .nil rfl rfl hm Tryd.func25 (by kernel_rfl) [PM.data Kd.bool] (fun X Y H => by obtain ⟨⟨a1, ⟨a2, _⟩⟩, ⟨⟨b1, ⟨b2, _⟩⟩, _⟩⟩ := X; exact val_of (t25 a1 a2 b1 b2) (hd a1 a2 b1 b2 H)) IO L
theorem k25' {G : akT a25 → Bool} (hd : ∀ (a1 : List Cell) (a2 : Bool) (b1 : List Cell) (b2 : Bool), (d25 a1 a2 b1 b2).val = some (G ((a1, a2, ()), (b1, b2, ()), ()))) (IO : ItOK Tryd.prog (E25) := by exact itOK_none rfl) (L : ∀ c, Tryd.f25.body = some c → LsOK (evI 2) ((E25).lend 0) c := by exact fun c _ => LsOK_none rfl c) : SpecOK Tryd.prog E0 25 (s25' G) :=
  aspec0_ok (ak := a25) (bl := b25) (e := e25) (g := fun x _ => G x) (E0 := E0) (E := E25) tab .nil rfl rfl hm Tryd.func25 (by kernel_rfl) [PM.data Kd.bool] (fun X Y => by obtain ⟨⟨a1, ⟨a2, _⟩⟩, ⟨⟨b1, ⟨b2, _⟩⟩, _⟩⟩ := X; exact val_of (t25 a1 a2 b1 b2) (hd a1 a2 b1 b2)) IO L
abbrev w25 : FSpec := s25 (fun x => decide (List.length (α := Cell) x.1.1 ≤ 1048576)) fun x => U.eqL x.1 x.2.1
theorem wk25 : SpecOK Tryd.prog E0 25 w25 := by
  refine k25 (fun l s m t H => ?_) (L := ls_ok (lcs := [lc Tryd.f25 0]) (rgs := []) (by kernel_rfl) (by kernel_rfl) L25 trivial)
  have H : l.length ≤ 1048576 := of_decide_eq_true H
  show _ = some (U.eqL (l, s, ()) (m, t, ()))
  unfold U.eqL
  by_cases h1 : l.length = m.length
  · cases h2 : (s == t) with
    | true =>
      have h3 : (l.length : Int) = (m.length : Int) := by omega
      simp only [d25, Tr.val, h1 ▸ H, h1, h2, decide_true, Bool.not_true, Bool.and_true, cond_true, cond_false, and_self]
      cases U.eqCs l m <;> rfl
    | false => simp [d25, Tr.val, h1, h2]
  · have h3 : ¬ (l.length : Int) = (m.length : Int) := by omega
    simp [d25, Tr.val, h3, U.eqCs, h1]
def live26 (key : Nat) : Lv :=
  bif Nat.beq key 4 then { ls := [0, 1, 12, 13] } else bif Nat.beq key 1004 then { ls := [4] } else
  { ls := [] }
abbrev M26 (ls : Nat → VS → Option (Tr (Ex × VS))) : Env := (E0.withFns [(25, w25)]).loops live26 ls
@[reducible] def p26_0 : LP := { n := 27, sl := [.d (link.sl), .d (link.sl), .d (.int .i64), .d (.int .i64)], bl := [] }
def B26_0 (x0 : List Line) (x1 : List Line) (x2 : Int) (x3 : Int) : Tr (p26_0.T ⊕ (Unit ⊕ Unit)) :=
  Tr.ite (decide (x3 < x2))
    (Tr.ite (inB x3 x0.length)
      (Tr.ite (inB x3 x1.length)
        (Tr.ite (decide (List.length (rget link x0 x3).fst ≤ (1048576 : Nat)))
          (Tr.ite (!U.eqL (rget link x0 x3) (rget link x1 x3)) (Tr.ret (Sum.inr (Sum.inl ()))) (Tr.ret (Sum.inl ((x0, x1, x2, IntKind.i64.wrap (x3 + (1 : Int)), ()), ())))) Tr.fail)
        Tr.fail)
      Tr.fail)
    (Tr.ret (Sum.inr (Sum.inr ())))
def X26_0 : (Unit ⊕ Unit) → Ex × VS
  | (.inl r) => Prod.mk Ex.ret { n := 27, v := [Slot.av (AV.one (Leaf.kb false))], h := [] }
  | (.inr r) => Prod.mk (Ex.exit ( 0)) { n := 27, v := [Slot.av (AV.one Leaf.undef)], h := [] }
def b26_0 : p26_0.T → Tr (p26_0.T ⊕ (Unit ⊕ Unit)) := fun ⟨⟨x0, ⟨x1, ⟨x2, ⟨x3, _⟩⟩⟩⟩, _⟩ => B26_0 x0 x1 x2 x3
theorem h26_0 (ls : Nat → VS → Option (Tr (Ex × VS))) (x : p26_0.T) : (evC (evI 2) (lc Tryd.f26 0) (Env.lend (M26 ls) 0) (unV (live26 4) (p26_0.V x))).map (decL 0 (live26 4) (live26 1004)) = (b26_0 x).map (encR p26_0.V X26_0) := by
  obtain ⟨⟨x0, ⟨x1, ⟨x2, ⟨x3, _⟩⟩⟩⟩, _⟩ := x; kernel_rfl
theorem c26_0 (x : p26_0.T) : canV 0 (live26 4) (unV (live26 4) (p26_0.V x)) = p26_0.V x := by
  obtain ⟨⟨x0, ⟨x1, ⟨x2, ⟨x3, _⟩⟩⟩⟩, _⟩ := x; kernel_rfl
theorem l26_0 {T : p26_0.T → Tr (Unit ⊕ Unit)} {ls : Nat → VS → Option (Tr (Ex × VS))} (hls : ∀ x, (Env.lend (M26 ls) 0).ls 4 x = p26_0.ls (fun a => (T a).map X26_0) x) (hS : ∀ x r, (T x).val = some r → Rounds b26_0 x r) : LoopOK (evI 2) (Env.lend (M26 ls) 0) (lc Tryd.f26 0) :=
  loopA 4 (live26 4) (live26 1004) p26_0 b26_0 X26_0 T (by kernel_rfl) rfl rfl hls (h26_0 ls) c26_0 hS
def d99 (a : Int) (b : Int) (c : Int) : Tr (Bool) :=
  Tr.ite (decide (b ≤ a)) (Tr.ret (decide (a ≤ c))) (Tr.ret false)
def e99 (r : Bool) : FRes := { rs := Slot.av (AV.one (Leaf.dat Kd.bool r)), upd := [], new := [] }
@[reducible] def a99 : List AK := [AK.d (.int .i64), AK.d (.int .i64), AK.d (.int .i64)]
@[reducible] def b99 : List BK := []
theorem t99 (a : Int) (b : Int) (c : Int) : evFn (E0) Tryd.f99 [PM.data Kd.bool] (akAV a99 (a, b, c, ())) (bkBs b99 ()) = (d99 a b c).map e99 := by kernel_rfl
def s99 (C : akT a99 → Bool) (G : akT a99 → Bool) : FSpec := aspec a99 b99 e99 (fun x _ => C x) (fun x _ => G x)
def s99' (G : akT a99 → Bool) : FSpec := aspec0 a99 b99 e99 (fun x _ => G x)
theorem k99 {C : akT a99 → Bool} {G : akT a99 → Bool} (hd : ∀ (a : Int) (b : Int) (c : Int), C (a, b, c, ()) = true → (d99 a b c).val = some (G (a, b, c, ()))) (IO : ItOK Tryd.prog (E0) := by exact itOK_none rfl) (L : ∀ c, Tryd.f99.body = some c → LsOK (evI 2) ((E0).lend 0) c := by exact fun c _ => LsOK_none rfl c) : SpecOK Tryd.prog E0 99 (s99 C G) :=
  aspec_ok (ak := a99) (bl := b99) (e := e99) (c := fun x _ => C x) (g := fun x _ => G x) (E0 := E0) (E := E0) tab .nil rfl rfl hm Tryd.func99 (by kernel_rfl) [PM.data Kd.bool] (fun X Y H => by obtain ⟨a, ⟨b, ⟨c, _⟩⟩⟩ := X; exact val_of (t99 a b c) (hd a b c H)) IO L
theorem k99' {G : akT a99 → Bool} (hd : ∀ (a : Int) (b : Int) (c : Int), (d99 a b c).val = some (G (a, b, c, ()))) (IO : ItOK Tryd.prog (E0) := by exact itOK_none rfl) (L : ∀ c, Tryd.f99.body = some c → LsOK (evI 2) ((E0).lend 0) c := by exact fun c _ => LsOK_none rfl c) : SpecOK Tryd.prog E0 99 (s99' G) :=
  aspec0_ok (ak := a99) (bl := b99) (e := e99) (g := fun x _ => G x) (E0 := E0) (E := E0) tab .nil rfl rfl hm Tryd.func99 (by kernel_rfl) [PM.data Kd.bool] (fun X Y => by obtain ⟨a, ⟨b, ⟨c, _⟩⟩⟩ := X; exact val_of (t99 a b c) (hd a b c)) IO L
abbrev w99 : FSpec := s99' fun x => U.inn x.1 x.2.1 x.2.2.1
theorem wk99 : SpecOK Tryd.prog E0 99 w99 := by
  refine k99' fun a b c => ?_
  show _ = some (U.inn a b c)
  unfold U.inn
  by_cases h : b ≤ a <;> simp [d99, Tr.val, h]
def d37 (a1 : Int) (a2 : Int) (a3 : Int) : Tr (Bool) :=
  Tr.ite (U.inn a1 (0 : Int) (256 : Int)) (Tr.ite (U.inn a2 (0 : Int) (256 : Int)) (Tr.ret (U.inn a3 (0 : Int) (255 : Int))) (Tr.ret false)) (Tr.ret false)
def e37 (r : Bool) : FRes := { rs := Slot.av (AV.one (Leaf.dat Kd.bool r)), upd := [], new := [] }
@[reducible] def a37 : List AK := [AK.d attk]
@[reducible] def b37 : List BK := []
theorem t37 (a1 : Int) (a2 : Int) (a3 : Int) : evFn (E0.withFns [((99 : Nat), w99)]) Tryd.f37 [PM.data Kd.bool] (akAV a37 ((a1, a2, a3, ()), ())) (bkBs b37 ()) = (d37 a1 a2 a3).map e37 := by kernel_rfl
def s37 (C : akT a37 → Bool) (G : akT a37 → Bool) : FSpec := aspec a37 b37 e37 (fun x _ => C x) (fun x _ => G x)
def s37' (G : akT a37 → Bool) : FSpec := aspec0 a37 b37 e37 (fun x _ => G x)
theorem k37 {C : akT a37 → Bool} {G : akT a37 → Bool} (hd : ∀ (a1 : Int) (a2 : Int) (a3 : Int), C ((a1, a2, a3, ()), ()) = true → (d37 a1 a2 a3).val = some (G ((a1, a2, a3, ()), ()))) (IO : ItOK Tryd.prog (E0.withFns [((99 : Nat), w99)]) := by exact itOK_none rfl) (L : ∀ c, Tryd.f37.body = some c → LsOK (evI 2) ((E0.withFns [((99 : Nat), w99)]).lend 0) c := by exact fun c _ => LsOK_none rfl c) : SpecOK Tryd.prog E0 37 (s37 C G) :=
  aspec_ok (ak := a37) (bl := b37) (e := e37) (c := fun x _ => C x) (g := fun x _ => G x) (E0 := E0) (E := E0.withFns [((99 : Nat), w99)]) tab (.cons wk99 .nil) rfl rfl hm Tryd.func37 (by kernel_rfl) [PM.data Kd.bool] (fun X Y H => by obtain ⟨⟨a1, ⟨a2, ⟨a3, _⟩⟩⟩, _⟩ := X; exact val_of (t37 a1 a2 a3) (hd a1 a2 a3 H)) IO L
theorem k37' {G : akT a37 → Bool} (hd : ∀ (a1 : Int) (a2 : Int) (a3 : Int), (d37 a1 a2 a3).val = some (G ((a1, a2, a3, ()), ()))) (IO : ItOK Tryd.prog (E0.withFns [((99 : Nat), w99)]) := by exact itOK_none rfl) (L : ∀ c, Tryd.f37.body = some c → LsOK (evI 2) ((E0.withFns [((99 : Nat), w99)]).lend 0) c := by exact fun c _ => LsOK_none rfl c) : SpecOK Tryd.prog E0 37 (s37' G) :=
  aspec0_ok (ak := a37) (bl := b37) (e := e37) (g := fun x _ => G x) (E0 := E0) (E := E0.withFns [((99 : Nat), w99)]) tab (.cons wk99 .nil) rfl rfl hm Tryd.func37 (by kernel_rfl) [PM.data Kd.bool] (fun X Y => by obtain ⟨⟨a1, ⟨a2, ⟨a3, _⟩⟩⟩, _⟩ := X; exact val_of (t37 a1 a2 a3) (hd a1 a2 a3)) IO L
abbrev w37 : FSpec := s37' fun x => U.look x.1
theorem wk37 : SpecOK Tryd.prog E0 37 w37 := by
  refine k37' fun a b c => ?_
  show _ = some (U.look (a, b, c, ()))
  unfold U.look
  cases h1 : U.inn a 0 256 <;> cases h2 : U.inn b 0 256 <;> simp [d37, Tr.val, h1, h2]
def d137 (a : Int) (b : Int) (c : Int) : Tr (Bool) :=
  Tr.ite (decide (b ≤ a)) (Tr.ret (decide (a ≤ c))) (Tr.ret false)
def e137 (r : Bool) : FRes := { rs := Slot.av (AV.one (Leaf.dat Kd.bool r)), upd := [], new := [] }
@[reducible] def a137 : List AK := [AK.d (Kd.int IntKind.i32), AK.d (Kd.int IntKind.i32), AK.d (Kd.int IntKind.i32)]
@[reducible] def b137 : List BK := []
theorem t137 (a : Int) (b : Int) (c : Int) : evFn (E0) Tryd.f137 [PM.data Kd.bool] (akAV a137 (a, b, c, ())) (bkBs b137 ()) = (d137 a b c).map e137 := by kernel_rfl
def s137 (C : akT a137 → Bool) (G : akT a137 → Bool) : FSpec := aspec a137 b137 e137 (fun x _ => C x) (fun x _ => G x)
def s137' (G : akT a137 → Bool) : FSpec := aspec0 a137 b137 e137 (fun x _ => G x)
theorem k137 {C : akT a137 → Bool} {G : akT a137 → Bool} (hd : ∀ (a : Int) (b : Int) (c : Int), C (a, b, c, ()) = true → (d137 a b c).val = some (G (a, b, c, ()))) (IO : ItOK Tryd.prog (E0) := by exact itOK_none rfl) (L : ∀ c, Tryd.f137.body = some c → LsOK (evI 2) ((E0).lend 0) c := by exact fun c _ => LsOK_none rfl c) : SpecOK Tryd.prog E0 137 (s137 C G) :=
  aspec_ok (ak := a137) (bl := b137) (e := e137) (c := fun x _ => C x) (g := fun x _ => G x) (E0 := E0) (E := E0) tab .nil rfl rfl hm Tryd.func137 (by kernel_rfl) [PM.data Kd.bool] (fun X Y H => by obtain ⟨a, ⟨b, ⟨c, _⟩⟩⟩ := X; exact val_of (t137 a b c) (hd a b c H)) IO L
theorem k137' {G : akT a137 → Bool} (hd : ∀ (a : Int) (b : Int) (c : Int), (d137 a b c).val = some (G (a, b, c, ()))) (IO : ItOK Tryd.prog (E0) := by exact itOK_none rfl) (L : ∀ c, Tryd.f137.body = some c → LsOK (evI 2) ((E0).lend 0) c := by exact fun c _ => LsOK_none rfl c) : SpecOK Tryd.prog E0 137 (s137' G) :=
  aspec0_ok (ak := a137) (bl := b137) (e := e137) (g := fun x _ => G x) (E0 := E0) (E := E0) tab .nil rfl rfl hm Tryd.func137 (by kernel_rfl) [PM.data Kd.bool] (fun X Y => by obtain ⟨a, ⟨b, ⟨c, _⟩⟩⟩ := X; exact val_of (t137 a b c) (hd a b c)) IO L
abbrev w137 : FSpec := s137' fun x => U.inn x.1 x.2.1 x.2.2.1
theorem wk137 : SpecOK Tryd.prog E0 137 w137 := by
  refine k137' fun a b c => ?_
  show _ = some (U.inn a b c)
  unfold U.inn
  by_cases h : b ≤ a <;> simp [d137, Tr.val, h]
def d136 (a : Int) : Tr (Bool) :=
  Tr.ite (decide ((0 : Int) ≤ a)) (Tr.ite (decide (a ≤ (1114111 : Int))) (Tr.ite (decide (a < (55296 : Int))) (Tr.ret true) (Tr.ret (decide ((57343 : Int) < a)))) (Tr.ret false)) (Tr.ret false)
def e136 (r : Bool) : FRes := { rs := Slot.av (AV.one (Leaf.dat Kd.bool r)), upd := [], new := [] }
@[reducible] def a136 : List AK := [AK.d (Kd.int IntKind.i32)]
@[reducible] def b136 : List BK := []
theorem t136 (a : Int) : evFn (E0) Tryd.f136 [PM.data Kd.bool] (akAV a136 (a, ())) (bkBs b136 ()) = (d136 a).map e136 := by kernel_rfl
def s136 (C : akT a136 → Bool) (G : akT a136 → Bool) : FSpec := aspec a136 b136 e136 (fun x _ => C x) (fun x _ => G x)
def s136' (G : akT a136 → Bool) : FSpec := aspec0 a136 b136 e136 (fun x _ => G x)
theorem k136 {C : akT a136 → Bool} {G : akT a136 → Bool} (hd : ∀ (a : Int), C (a, ()) = true → (d136 a).val = some (G (a, ()))) (IO : ItOK Tryd.prog (E0) := by exact itOK_none rfl) (L : ∀ c, Tryd.f136.body = some c → LsOK (evI 2) ((E0).lend 0) c := by exact fun c _ => LsOK_none rfl c) : SpecOK Tryd.prog E0 136 (s136 C G) :=
  aspec_ok (ak := a136) (bl := b136) (e := e136) (c := fun x _ => C x) (g := fun x _ => G x) (E0 := E0) (E := E0) tab .nil rfl rfl hm Tryd.func136 (by kernel_rfl) [PM.data Kd.bool] (fun X Y H => by obtain ⟨a, _⟩ := X; exact val_of (t136 a) (hd a H)) IO L
theorem k136' {G : akT a136 → Bool} (hd : ∀ (a : Int), (d136 a).val = some (G (a, ()))) (IO : ItOK Tryd.prog (E0) := by exact itOK_none rfl) (L : ∀ c, Tryd.f136.body = some c → LsOK (evI 2) ((E0).lend 0) c := by exact fun c _ => LsOK_none rfl c) : SpecOK Tryd.prog E0 136 (s136' G) :=
  aspec0_ok (ak := a136) (bl := b136) (e := e136) (g := fun x _ => G x) (E0 := E0) (E := E0) tab .nil rfl rfl hm Tryd.func136 (by kernel_rfl) [PM.data Kd.bool] (fun X Y => by obtain ⟨a, _⟩ := X; exact val_of (t136 a) (hd a)) IO L
abbrev w136 : FSpec := s136' fun x => U.valid x.1
theorem wk136 : SpecOK Tryd.prog E0 136 w136 := by
  refine k136' fun a => ?_
  show _ = some (U.valid a)
  unfold U.valid
  by_cases h : 0 ≤ a <;> by_cases h2 : a ≤ 1114111 <;> by_cases h3 : a < 55296 <;> by_cases h4 : 57343 < a <;> simp [d136, Tr.val, h, h2, h3, h4] <;> omega
def d84 (a : Int) : Tr (Int) :=
  Tr.ite (!U.valid a) (Tr.ret (-1 : Int))
    (Tr.ite (decide (a < (32 : Int))) (Tr.ret (-1 : Int))
      (Tr.ite (U.inn a (127 : Int) (159 : Int)) (Tr.ret (-1 : Int))
        (Tr.ite (U.inn a (768 : Int) (879 : Int)) (Tr.ret (0 : Int))
          (Tr.ite (U.inn a (8203 : Int) (8205 : Int)) (Tr.ret (0 : Int))
            (Tr.ite (U.inn a (65024 : Int) (65039 : Int)) (Tr.ret (0 : Int))
              (Tr.ite (U.inn a (4352 : Int) (4447 : Int)) (Tr.ret (2 : Int))
                (Tr.ite (U.inn a (12353 : Int) (19903 : Int)) (Tr.ret (2 : Int))
                  (Tr.ite (U.inn a (19968 : Int) (40959 : Int)) (Tr.ret (2 : Int))
                    (Tr.ite (U.inn a (44032 : Int) (55203 : Int)) (Tr.ret (2 : Int))
                      (Tr.ite (U.inn a (63744 : Int) (64255 : Int)) (Tr.ret (2 : Int))
                        (Tr.ite (U.inn a (65281 : Int) (65376 : Int)) (Tr.ret (2 : Int))
                          (Tr.ite (U.inn a (127744 : Int) (129791 : Int)) (Tr.ret (2 : Int)) (Tr.ite (U.inn a (131072 : Int) (262141 : Int)) (Tr.ret (2 : Int)) (Tr.ret (1 : Int)))))))))))))))
def e84 (r : Int) : FRes := { rs := Slot.av (AV.one (Leaf.dat (.int .i64) r)), upd := [], new := [] }
@[reducible] def a84 : List AK := [AK.d (Kd.int IntKind.i32)]
@[reducible] def b84 : List BK := []
theorem t84 (a : Int) : evFn (E0.withFns [((136 : Nat), w136), ((137 : Nat), w137)]) Tryd.f84 [PM.data (.int .i64)] (akAV a84 (a, ())) (bkBs b84 ()) = (d84 a).map e84 := by kernel_rfl
def s84 (C : akT a84 → Bool) (G : akT a84 → Int) : FSpec := aspec a84 b84 e84 (fun x _ => C x) (fun x _ => G x)
def s84' (G : akT a84 → Int) : FSpec := aspec0 a84 b84 e84 (fun x _ => G x)
theorem k84 {C : akT a84 → Bool} {G : akT a84 → Int} (hd : ∀ (a : Int), C (a, ()) = true → (d84 a).val = some (G (a, ()))) (IO : ItOK Tryd.prog (E0.withFns [((136 : Nat), w136), ((137 : Nat), w137)]) := by exact itOK_none rfl) (L : ∀ c, Tryd.f84.body = some c → LsOK (evI 2) ((E0.withFns [((136 : Nat), w136), ((137 : Nat), w137)]).lend 0) c := by exact fun c _ => LsOK_none rfl c) : SpecOK Tryd.prog E0 84 (s84 C G) :=
  aspec_ok (ak := a84) (bl := b84) (e := e84) (c := fun x _ => C x) (g := fun x _ => G x) (E0 := E0) (E := E0.withFns [((136 : Nat), w136), ((137 : Nat), w137)]) tab (.cons wk136 (.cons wk137 .nil)) rfl rfl hm Tryd.func84 (by kernel_rfl) [PM.data (.int .i64)] (fun X Y H => by obtain ⟨a, _⟩ := X; exact val_of (t84 a) (hd a H)) IO L
theorem k84' {G : akT a84 → Int} (hd : ∀ (a : Int), (d84 a).val = some (G (a, ()))) (IO : ItOK Tryd.prog (E0.withFns [((136 : Nat), w136), ((137 : Nat), w137)]) := by exact itOK_none rfl) (L : ∀ c, Tryd.f84.body = some c → LsOK (evI 2) ((E0.withFns [((136 : Nat), w136), ((137 : Nat), w137)]).lend 0) c := by exact fun c _ => LsOK_none rfl c) : SpecOK Tryd.prog E0 84 (s84' G) :=
  aspec0_ok (ak := a84) (bl := b84) (e := e84) (g := fun x _ => G x) (E0 := E0) (E := E0.withFns [((136 : Nat), w136), ((137 : Nat), w137)]) tab (.cons wk136 (.cons wk137 .nil)) rfl rfl hm Tryd.func84 (by kernel_rfl) [PM.data (.int .i64)] (fun X Y => by obtain ⟨a, _⟩ := X; exact val_of (t84 a) (hd a)) IO L
abbrev w84 : FSpec := s84' fun x => U.width x.1
theorem wk84 : SpecOK Tryd.prog E0 84 w84 := by
  refine k84' fun a => ?_
  show _ = some (U.width a)
  have A : ∀ (p q : Bool) (x y : Int), (bif p then x else bif q then x else y) = bif p || q then x else y := by intro p q x y; cases p <;> cases q <;> rfl
  have B : ∀ (p : Bool) (x y : Int), (bif p then some x else some y) = some (bif p then x else y) := by intro p x y; cases p <;> rfl
  have C : decide (a < 160) = decide (a ≤ 159) := by rw [decide_eq_decide]; omega
  simp only [d84, Tr.val, U.width, U.within, U.zero, U.wide, List.any_cons, List.any_nil, U.span, U.inn, C, A, B, Bool.or_assoc, Bool.or_false]
def d133 (a : Int) : Tr (Int) :=
  Tr.ite (decide (a < (128 : Int))) (Tr.ret (1 : Int))
    (Tr.ite (decide ((194 : Int) ≤ a))
      (Tr.ite (decide (a < (224 : Int))) (Tr.ret (2 : Int))
        (Tr.ite (decide ((224 : Int) ≤ a))
          (Tr.ite (decide (a < (240 : Int))) (Tr.ret (3 : Int)) (Tr.ite (decide ((240 : Int) ≤ a)) (Tr.ite (decide (a < (245 : Int))) (Tr.ret (4 : Int)) (Tr.ret (0 : Int))) (Tr.ret (0 : Int))))
          (Tr.ite (decide ((240 : Int) ≤ a)) (Tr.ite (decide (a < (245 : Int))) (Tr.ret (4 : Int)) (Tr.ret (0 : Int))) (Tr.ret (0 : Int)))))
      (Tr.ite (decide ((224 : Int) ≤ a))
        (Tr.ite (decide (a < (240 : Int))) (Tr.ret (3 : Int)) (Tr.ite (decide ((240 : Int) ≤ a)) (Tr.ite (decide (a < (245 : Int))) (Tr.ret (4 : Int)) (Tr.ret (0 : Int))) (Tr.ret (0 : Int))))
        (Tr.ite (decide ((240 : Int) ≤ a)) (Tr.ite (decide (a < (245 : Int))) (Tr.ret (4 : Int)) (Tr.ret (0 : Int))) (Tr.ret (0 : Int)))))
def e133 (r : Int) : FRes := { rs := Slot.av (AV.one (Leaf.dat (.int .i64) r)), upd := [], new := [] }
@[reducible] def a133 : List AK := [AK.d (Kd.int IntKind.u8)]
@[reducible] def b133 : List BK := []
theorem t133 (a : Int) : evFn (E0) Tryd.f133 [PM.data (.int .i64)] (akAV a133 (a, ())) (bkBs b133 ()) = (d133 a).map e133 := by kernel_rfl
def s133 (C : akT a133 → Bool) (G : akT a133 → Int) : FSpec := aspec a133 b133 e133 (fun x _ => C x) (fun x _ => G x)
def s133' (G : akT a133 → Int) : FSpec := aspec0 a133 b133 e133 (fun x _ => G x)
theorem k133 {C : akT a133 → Bool} {G : akT a133 → Int} (hd : ∀ (a : Int), C (a, ()) = true → (d133 a).val = some (G (a, ()))) (IO : ItOK Tryd.prog (E0) := by exact itOK_none rfl) (L : ∀ c, Tryd.f133.body = some c → LsOK (evI 2) ((E0).lend 0) c := by exact fun c _ => LsOK_none rfl c) : SpecOK Tryd.prog E0 133 (s133 C G) :=
  aspec_ok (ak := a133) (bl := b133) (e := e133) (c := fun x _ => C x) (g := fun x _ => G x) (E0 := E0) (E := E0) tab .nil rfl rfl hm Tryd.func133 (by kernel_rfl) [PM.data (.int .i64)] (fun X Y H => by obtain ⟨a, _⟩ := X; exact val_of (t133 a) (hd a H)) IO L
theorem k133' {G : akT a133 → Int} (hd : ∀ (a : Int), (d133 a).val = some (G (a, ()))) (IO : ItOK Tryd.prog (E0) := by exact itOK_none rfl) (L : ∀ c, Tryd.f133.body = some c → LsOK (evI 2) ((E0).lend 0) c := by exact fun c _ => LsOK_none rfl c) : SpecOK Tryd.prog E0 133 (s133' G) :=
  aspec0_ok (ak := a133) (bl := b133) (e := e133) (g := fun x _ => G x) (E0 := E0) (E := E0) tab .nil rfl rfl hm Tryd.func133 (by kernel_rfl) [PM.data (.int .i64)] (fun X Y => by obtain ⟨a, _⟩ := X; exact val_of (t133 a) (hd a)) IO L
abbrev w133 : FSpec := s133' fun x => U.need x.1
theorem wk133 : SpecOK Tryd.prog E0 133 w133 := by
  refine k133' fun a => ?_
  show _ = some (U.need a)
  simp only [d133, Tr.val, U.need]
  grind
end Go.Proofs.YtmnbcnhpklejcaaDoor
namespace U
def head (n : Nat) : Int := [(0 : Int), 0, 192, 224, 240].getD n 0
/-- The rest of a letter's bytes. -/
def vl (s : ByteArray) : Nat → Nat → Int → Int × Int ⊕ Int
  | 0, _, r => .inr r
  | k + 1, i, r => if cont (bt s i) = true then vl s k (i + 1) (64 * r + bt s i - 128) else .inl (-1, r)
def vL (s : ByteArray) : Int × Int ⊕ Int := if s.size = 1 then .inl (bt s 0, bt s 0 - head s.size) else vl s (s.size - 1) 1 (bt s 0 - head s.size)
def rv (s : ByteArray) : Int := match vL s with
  | .inr r => r
  | .inl p => p.1
end U
namespace Go.Proofs.YtmnbcnhpklejcaaDoor
def T135 (x : p135_0.T) : Tr (Int × Int ⊕ Int) :=
  .ite (decide (1 ≤ ByteArray.size x.1.1 ∧ ByteArray.size x.1.1 ≤ 4 ∧ (x.1.2.1 : Int) = 0 ∧ (x.1.2.2.1 : Int) = 0)) (.spl (U.vL x.1.1) (0, 0) 0) .fail
abbrev M135' (ls : Nat → VS → Option (Tr (Ex × VS))) : Env := M135 ls
theorem r135 (s : ByteArray) (hs : s.size ≤ 4) : ∀ (k i : Nat) (r : Int), 1 ≤ i → i + k = s.size → (i = 1 → -300 ≤ r ∧ r ≤ 300) → (i = 2 → -20000 ≤ r ∧ r ≤ 20000) → (i = 3 → -1300000 ≤ r ∧ r ≤ 1300000) → Rounds b135_0 ((s, r, (i : Int), ()), ()) (U.vl s k i r)
  | 0, i, r, h1, h2, _, _, _ => by
    refine .exit ?_
    simp only [b135_0, B135_0, Tr.val, show ¬ ((i : Int) < (s.size : Int)) by omega, decide_false, cond_false]
    rfl
  | k + 1, i, r, h1, h2, g1, g2, g3 => by
    have b0 := bt_ge s i
    have b1 := bt_lt s i
    have hi : i = 1 ∨ i = 2 ∨ i = 3 := by omega
    have hr : -1300000 ≤ r ∧ r ≤ 1300000 := by
      rcases hi with h | h | h
      · have := g1 h; omega
      · have := g2 h; omega
      · exact g3 h
    have e0 : IntKind.i32.wrap (bt s i) = bt s i := w32 (by omega) (by omega)
    have e1 : IntKind.i32.wrap (64 * r) = 64 * r := w32 (by omega) (by omega)
    have e2 : IntKind.i32.wrap (64 * r + bt s i) = 64 * r + bt s i := w32 (by omega) (by omega)
    have e3 : IntKind.i32.wrap (64 * r + bt s i - 128) = 64 * r + bt s i - 128 := w32 (by omega) (by omega)
    simp only [U.vl]
    by_cases c1 : bt s i < 128
    · have : U.cont (bt s i) = false := by unfold U.cont; rw [decide_eq_false (show ¬ 128 ≤ bt s i by omega)]; rfl
      rw [this, if_neg (show ¬ false = true by simp)]
      refine .exit ?_
      simp only [b135_0, B135_0, Tr.val, e0, c1, inB_nat (show i < s.size by omega), show ((i : Int) < (s.size : Int)) by omega, show ¬ ((i : Int) = 0) by omega, decide_true, decide_false, cond_true, cond_false]
    · by_cases c2 : 191 < bt s i
      · have : U.cont (bt s i) = false := by unfold U.cont; rw [decide_eq_false (show ¬ bt s i ≤ 191 by omega), Bool.and_false]
        rw [this, if_neg (show ¬ false = true by simp)]
        refine .exit ?_
        simp only [b135_0, B135_0, Tr.val, e0, c1, c2, inB_nat (show i < s.size by omega), show ((i : Int) < (s.size : Int)) by omega, show ¬ ((i : Int) = 0) by omega, decide_true, decide_false, cond_true, cond_false]
      · have : U.cont (bt s i) = true := by unfold U.cont; rw [decide_eq_true (show 128 ≤ bt s i by omega), decide_eq_true (show bt s i ≤ 191 by omega)]; rfl
        rw [this, if_pos rfl]
        refine .step (y := ((s, 64 * r + bt s i - 128, ((i + 1 : Nat) : Int), ()), ())) ?_ (r135 s hs k (i + 1) _ (by omega) (by omega) (by omega) (fun h => ?_) (fun h => ?_))
        · simp only [b135_0, B135_0, Tr.val, e0, e1, e2, e3, c1, c2, inB_nat (show i < s.size by omega), show ((i : Int) < (s.size : Int)) by omega, show ¬ ((i : Int) = 0) by omega, decide_true, decide_false, cond_true, cond_false, wrap64_nat (show i ≤ 1048576 by omega)]
        · have := g1 (by omega)
          omega
        · have := g2 (by omega)
          omega
theorem head_le (n : Nat) : 0 ≤ U.head n ∧ U.head n ≤ 240 := by
  unfold U.head
  rcases n with _ | _ | _ | _ | _ | n <;> simp [List.getD]
abbrev E135 : Env := M135 fun key x => bif Nat.beq key 3 then p135_0.ls (fun a => (T135 a).map X135_0) x else none
theorem L135 : LoopOK (evI 2) (E135.lend 0) (lc Tryd.f135 0) := by
  refine l135_0 (T := T135) (fun x => rfl) ?_
  rintro ⟨⟨s, r0, i, z⟩, z'⟩ r h
  obtain ⟨h1, h2⟩ := pre_val h
  rw [Tr.val_spl] at h2
  cases h2
  obtain ⟨a, b, c, d⟩ := of_decide_eq_true h1
  dsimp only at a b c d
  subst c; subst d
  have b0 := bt_ge s 0
  have b1 := bt_lt s 0
  have hh := head_le s.size
  have e0 : IntKind.i32.wrap (bt s 0) = bt s 0 := w32 (by omega) (by omega)
  have e1 : IntKind.i32.wrap (bt s 0 - U.head s.size) = bt s 0 - U.head s.size := w32 (by omega) (by omega)
  unfold U.vL
  have e2 : bt s 0 - [(0 : Int), 0, 192, 224, 240].getD ((s.size : Int).toNat) 0 = bt s 0 - U.head s.size := by rw [Int.toNat_natCast]; rfl
  have i5 : inB (s.size : Int) 5 = true := inBi (by omega) (by omega)
  have i0 : inB 0 s.size = true := inBi (by omega) (by omega)
  by_cases hn : s.size = 1
  · rw [if_pos hn]
    refine .exit ?_
    have hd : decide ((s.size : Int) = 1) = true := decide_eq_true (by omega)
    simp only [b135_0, B135_0, Tr.val, e0, e1, e2, i5, i0, hd, show ((0 : Int) < (s.size : Int)) by omega, decide_true, decide_false, cond_true, cond_false]
  rw [if_neg hn]
  refine .step (y := ((s, bt s 0 - U.head s.size, ((1 : Nat) : Int), ()), ())) ?_ (r135 s b (s.size - 1) 1 _ (by omega) (by omega) (fun _ => by omega) (by omega) (by omega))
  have e3 : IntKind.i64.wrap (0 + 1) = ((1 : Nat) : Int) := by decide
  simp only [b135_0, B135_0, Tr.val, e0, e1, e2, e3, i5, i0, show ((0 : Int) < (s.size : Int)) by omega, show ¬ ((s.size : Int) = 1) by omega, decide_true, decide_false, cond_true, cond_false]
def d135 (a : ByteArray) : Tr (Int) :=
  Tr.ite (decide ((1 : Nat) ≤ a.size ∧ a.size ≤ (4 : Nat) ∧ (0 : Int) = (0 : Int) ∧ (0 : Int) = (0 : Int)))
    (Tr.ite (U.vL a).isLeft (Tr.ret ((U.vL a).getLeft?.getD ((0 : Int), (0 : Int))).fst) (Tr.ret ((U.vL a).getRight?.getD (0 : Int)))) Tr.fail
def e135 (r : Int) : FRes := { rs := Slot.av (AV.one (Leaf.dat (Kd.int IntKind.i32) r)), upd := [], new := [] }
@[reducible] def a135 : List AK := [AK.d Kd.str]
@[reducible] def b135 : List BK := []
theorem t135 (a : ByteArray) : evFn (E135) Tryd.f135 [PM.data (Kd.int IntKind.i32)] (akAV a135 (a, ())) (bkBs b135 ()) = (d135 a).map e135 := by kernel_rfl
def s135 (C : akT a135 → Bool) (G : akT a135 → Int) : FSpec := aspec a135 b135 e135 (fun x _ => C x) (fun x _ => G x)
def s135' (G : akT a135 → Int) : FSpec := aspec0 a135 b135 e135 (fun x _ => G x)
theorem k135 {C : akT a135 → Bool} {G : akT a135 → Int} (hd : ∀ (a : ByteArray), C (a, ()) = true → (d135 a).val = some (G (a, ()))) (IO : ItOK Tryd.prog (E135) := by exact itOK_none rfl) (L : ∀ c, Tryd.f135.body = some c → LsOK (evI 2) ((E135).lend 0) c := by exact fun c _ => LsOK_none rfl c) : SpecOK Tryd.prog E0 135 (s135 C G) :=
  aspec_ok (ak := a135) (bl := b135) (e := e135) (c := fun x _ => C x) (g := fun x _ => G x) (E0 := E0) (E := E135) tab .nil rfl rfl hm Tryd.func135 (by kernel_rfl) [PM.data (Kd.int IntKind.i32)] (fun X Y H => by obtain ⟨a, _⟩ := X; exact val_of (t135 a) (hd a H)) IO L
theorem k135' {G : akT a135 → Int} (hd : ∀ (a : ByteArray), (d135 a).val = some (G (a, ()))) (IO : ItOK Tryd.prog (E135) := by exact itOK_none rfl) (L : ∀ c, Tryd.f135.body = some c → LsOK (evI 2) ((E135).lend 0) c := by exact fun c _ => LsOK_none rfl c) : SpecOK Tryd.prog E0 135 (s135' G) :=
  aspec0_ok (ak := a135) (bl := b135) (e := e135) (g := fun x _ => G x) (E0 := E0) (E := E135) tab .nil rfl rfl hm Tryd.func135 (by kernel_rfl) [PM.data (Kd.int IntKind.i32)] (fun X Y => by obtain ⟨a, _⟩ := X; exact val_of (t135 a) (hd a)) IO L
abbrev w135 : FSpec := s135 (fun x => decide (1 ≤ ByteArray.size x.1 ∧ ByteArray.size x.1 ≤ 4)) fun x => U.rv x.1
theorem wk135 : SpecOK Tryd.prog E0 135 w135 := by
  refine k135 (fun s H => ?_) (L := ls_ok (lcs := [lc Tryd.f135 0]) (rgs := []) (by kernel_rfl) (by kernel_rfl) L135 trivial)
  obtain ⟨h1, h2⟩ : 1 ≤ s.size ∧ s.size ≤ 4 := of_decide_eq_true H
  show _ = some (U.rv s)
  simp only [d135, Tr.val, h1, h2, decide_true, and_self, cond_true]
  unfold U.rv
  cases U.vL s <;> rfl
abbrev G134 : List (Nat × FSpec) := [(135, w135)]
def live134 (key : Nat) : Lv :=
  bif Nat.beq key 10 then { ls := [1, 6, 7] } else bif Nat.beq key 1010 then { ls := [1, 6, 7] } else
  bif Nat.beq key 4 then { ls := [0, 1, 5] } else bif Nat.beq key 1004 then { ls := [0, 1, 4] } else
  { ls := [] }
abbrev M134 (ls : Nat → VS → Option (Tr (Ex × VS))) : Env := (E0.withFns G134).loops live134 ls
@[reducible] def p134_0 : LP := { n := 68, sl := [.d (Kd.str), .d (.int .i64), .d (.int .i64)], bl := [] }
def B134_0 (x0 : ByteArray) (x1 : Int) (x2 : Int) : Tr (p134_0.T ⊕ (ByteArray × Int ⊕ ByteArray × Int)) :=
  Tr.ite (decide (x2 < (↑x0.size : Int)))
    (Tr.ite (inB x2 x0.size)
      (Tr.ite (decide (bt x0 x2 < (128 : Int))) (Tr.ret (Sum.inr (Sum.inl (x0, x1))))
        (Tr.ite (inB x2 x0.size) (Tr.ite (decide ((191 : Int) < bt x0 x2)) (Tr.ret (Sum.inr (Sum.inl (x0, x1)))) (Tr.ret (Sum.inl ((x0, x1, IntKind.i64.wrap (x2 + (1 : Int)), ()), ())))) Tr.fail))
      Tr.fail)
    (Tr.ret (Sum.inr (Sum.inr (x0, x1))))
def X134_0 : (ByteArray × Int ⊕ ByteArray × Int) → Ex × VS
  | (.inl r) => Prod.mk Ex.ret { n := 68, v := [Slot.av (AV.one (Leaf.dat Kd.str r.fst)), Slot.av (AV.one (Leaf.dat (.int .i64) r.snd)), Slot.av (AV.one (Leaf.kb false))], h := [] }
  | (.inr r) => Prod.mk (Ex.exit ( 0)) { n := 68, v := [Slot.av (AV.one (Leaf.dat Kd.str r.fst)), Slot.av (AV.one (Leaf.dat (.int .i64) r.snd)), Slot.av (AV.one Leaf.undef)], h := [] }
def b134_0 : p134_0.T → Tr (p134_0.T ⊕ (ByteArray × Int ⊕ ByteArray × Int)) := fun ⟨⟨x0, ⟨x1, ⟨x2, _⟩⟩⟩, _⟩ => B134_0 x0 x1 x2
theorem h134_0 (ls : Nat → VS → Option (Tr (Ex × VS))) (x : p134_0.T) : (evC (evI 2) (lc Tryd.f134 0) (Env.lend (M134 ls) 0) (unV (live134 4) (p134_0.V x))).map (decL 0 (live134 4) (live134 1004)) = (b134_0 x).map (encR p134_0.V X134_0) := by
  obtain ⟨⟨x0, ⟨x1, ⟨x2, _⟩⟩⟩, _⟩ := x; kernel_rfl
theorem c134_0 (x : p134_0.T) : canV 0 (live134 4) (unV (live134 4) (p134_0.V x)) = p134_0.V x := by
  obtain ⟨⟨x0, ⟨x1, ⟨x2, _⟩⟩⟩, _⟩ := x; kernel_rfl
theorem l134_0 {T : p134_0.T → Tr (ByteArray × Int ⊕ ByteArray × Int)} {ls : Nat → VS → Option (Tr (Ex × VS))} (hls : ∀ x, (Env.lend (M134 ls) 0).ls 4 x = p134_0.ls (fun a => (T a).map X134_0) x) (hS : ∀ x r, (T x).val = some r → Rounds b134_0 x r) : LoopOK (evI 2) (Env.lend (M134 ls) 0) (lc Tryd.f134 0) :=
  loopA 4 (live134 4) (live134 1004) p134_0 b134_0 X134_0 T (by kernel_rfl) rfl rfl hls (h134_0 ls) c134_0 hS
def T134_0 (x : p134_0.T) : Tr (ByteArray × Int ⊕ ByteArray × Int) :=
  .ite (decide (1 ≤ ByteArray.size x.1.1 ∧ ByteArray.size x.1.1 ≤ 4 ∧ (x.1.2.2.1 : Int) = 1))
    (.ite (allN (fun i => U.cont (bt x.1.1 ((i + 1 : Nat) : Int))) (ByteArray.size x.1.1 - 1) 0) (.ret (.inr (x.1.1, x.1.2.1))) (.ret (.inl (x.1.1, x.1.2.1)))) .fail
abbrev N134 (ls : Nat → VS → Option (Tr (Ex × VS))) : Env := M134 fun key x => bif Nat.beq key 4 then p134_0.ls (fun a => (T134_0 a).map X134_0) x else ls key x
@[reducible] def p134_1 : LP := { n := 68, sl := [.d (.int .i64), .c (Leaf.row ( 0)), .c (Leaf.row ( 1))], bl := [(0, .row 5 (Kd.int IntKind.u8)), (1, .row 5 (Kd.int IntKind.u8))] }
def B134_1 (x0 : Int) (h0 : List Int) (h1 : List Int) : Tr (p134_1.T ⊕ (Int × List Int × List Int)) :=
  let v1 : Int := ((↑h0.length : Int))
  Tr.ite (decide (v1 < x0))
    (Tr.ite (decide ((h0.length + (1 : Nat)) * (1 : Nat) ≤ (140737488355328 : Nat)))
      (Tr.ite (decide ((h1.length + (1 : Nat)) * (1 : Nat) ≤ (140737488355328 : Nat))) (Tr.ret (Sum.inl ((x0, ()), h0 ++ [(128 : Int)], h1 ++ [(191 : Int)], ()))) Tr.fail) Tr.fail)
    (Tr.ret (Sum.inr (x0, h0, h1)))
def X134_1 (r : (Int × List Int × List Int)) : Ex × VS := Prod.mk (Ex.exit ( 2)) { n := 68, v := [Slot.av (AV.one (Leaf.dat (.int .i64) r.fst)), Slot.av (AV.one (Leaf.row ( 0))), Slot.av (AV.one (Leaf.row ( 1)))], h := [( 0, Blk.row ( 5) (Kd.int IntKind.u8) r.snd.fst), ( 1, Blk.row ( 5) (Kd.int IntKind.u8) r.snd.snd)] }
def b134_1 : p134_1.T → Tr (p134_1.T ⊕ (Int × List Int × List Int)) := fun ⟨⟨x0, _⟩, ⟨h0, ⟨h1, _⟩⟩⟩ => B134_1 x0 h0 h1
theorem h134_1 (ls : Nat → VS → Option (Tr (Ex × VS))) (x : p134_1.T) : (evC (evI 2) (lc Tryd.f134 1) (Env.lend (N134 ls) 0) (unV (live134 10) (p134_1.V x))).map (decL 0 (live134 10) (live134 1010)) = (b134_1 x).map (encR p134_1.V X134_1) := by
  obtain ⟨⟨x0, _⟩, ⟨h0, ⟨h1, _⟩⟩⟩ := x; kernel_rfl
theorem c134_1 (x : p134_1.T) : canV 0 (live134 10) (unV (live134 10) (p134_1.V x)) = p134_1.V x := by
  obtain ⟨⟨x0, _⟩, ⟨h0, ⟨h1, _⟩⟩⟩ := x; kernel_rfl
theorem l134_1 {T : p134_1.T → Tr (Int × List Int × List Int)} {ls : Nat → VS → Option (Tr (Ex × VS))} (hls : ∀ x, (Env.lend (N134 ls) 0).ls 10 x = p134_1.ls (fun a => (T a).map X134_1) x) (hS : ∀ x r, (T x).val = some r → Rounds b134_1 x r) : LoopOK (evI 2) (Env.lend (N134 ls) 0) (lc Tryd.f134 1) :=
  loopA 10 (live134 10) (live134 1010) p134_1 b134_1 X134_1 T (by kernel_rfl) rfl rfl hls (h134_1 ls) c134_1 hS
theorem L134_0 {ls : Nat → VS → Option (Tr (Ex × VS))} : LoopOK (evI 2) ((N134 ls).lend 0) (lc Tryd.f134 0) := by
  refine l134_0 (T := T134_0) (fun x => rfl) ?_
  rintro ⟨⟨s, n, i, z⟩, z2⟩ r h
  obtain ⟨g1, g2⟩ := pre_val h
  obtain ⟨e1, e2, e3⟩ := of_decide_eq_true g1
  dsimp only at e1 e2 e3 g2
  subst e3
  have := Rounds.all (B := b134_0) (N := s.size - 1) (fun i => ((s, n, ((i + 1 : Nat) : Int), ()), ())) (fun i => U.cont (bt s ((i + 1 : Nat) : Int))) (.inl (s, n)) (.inr (s, n)) (fun i hi => ?_) ?_
  · cases hd : allN (fun i => U.cont (bt s ((i + 1 : Nat) : Int))) (s.size - 1) 0 <;> simp only [hd, Tr.val, cond_true, cond_false] at g2 this <;> cases g2 <;> exact this
  · have h1 : decide (((i + 1 : Nat) : Int) < (s.size : Int)) = true := decide_eq_true (by omega)
    have h2 : inB ((i + 1 : Nat) : Int) s.size = true := inB_nat (by omega)
    simp only [b134_0, B134_0, Tr.val, h1, h2, cond_true, wrap64_nat (show i + 1 ≤ 1048576 by omega)]
    unfold U.cont
    by_cases c1 : bt s ((i + 1 : Nat) : Int) < 128
    · simp only [c1, show ¬ 128 ≤ bt s ((i + 1 : Nat) : Int) by omega, decide_true, decide_false, cond_true, cond_false, Bool.false_and]
    · by_cases c2 : 191 < bt s ((i + 1 : Nat) : Int)
      · simp only [c1, c2, show ¬ bt s ((i + 1 : Nat) : Int) ≤ 191 by omega, decide_true, decide_false, cond_true, cond_false, Bool.and_false]
      · simp only [c1, c2, show bt s ((i + 1 : Nat) : Int) ≤ 191 by omega, show 128 ≤ bt s ((i + 1 : Nat) : Int) by omega, decide_true, decide_false, cond_true, cond_false, Bool.and_self]
  · have h1 : decide (((s.size - 1 + 1 : Nat) : Int) < (s.size : Int)) = false := decide_eq_false (by omega)
    simp only [b134_0, B134_0, Tr.val, h1, cond_false]
def fillTo (l : List Int) (n : Nat) (c : Int) : List Int := l ++ List.replicate (n - l.length) c
def T134_1 (x : p134_1.T) : Tr (Int × List Int × List Int) :=
  .ite (decide (0 ≤ (x.1.1 : Int) ∧ (x.1.1 : Int) ≤ 4 ∧ List.length (α := Int) x.2.1 = List.length (α := Int) x.2.2.1 ∧ List.length (α := Int) x.2.1 ≤ 4))
    (.ret (x.1.1, fillTo x.2.1 (Int.toNat x.1.1) 128, fillTo x.2.2.1 (Int.toNat x.1.1) 191)) .fail
theorem r134 (n : Nat) (hn : n ≤ 4) : ∀ (k : Nat) (l m : List Int), l.length = m.length → l.length ≤ 4 → n - l.length = k → Rounds b134_1 (((n : Int), ()), l, m, ()) ((n : Int), fillTo l n 128, fillTo m n 191)
  | 0, l, m, h1, h2, h3 => by
    refine .exit ?_
    have h4 : decide ((l.length : Int) < (n : Int)) = false := decide_eq_false (by omega)
    simp only [b134_1, B134_1, Tr.val, h4, cond_false, fillTo, h3, ← h1, List.replicate_zero, List.append_nil]
  | k + 1, l, m, h1, h2, h3 => by
    have ih := r134 n hn k (l ++ [128]) (m ++ [191]) (by simp [h1]) (by simp; omega) (by simp; omega)
    have e1 : fillTo (l ++ [128]) n 128 = fillTo l n 128 := by
      simp only [fillTo, List.length_append, List.length_singleton, List.append_assoc, List.singleton_append, ← List.replicate_succ]
      congr 2
      omega
    have e2 : fillTo (m ++ [191]) n 191 = fillTo m n 191 := by
      simp only [fillTo, List.length_append, List.length_singleton, List.append_assoc, List.singleton_append, ← List.replicate_succ]
      congr 2
      omega
    rw [e1, e2] at ih
    refine .step ?_ ih
    have h4 : decide ((l.length : Int) < (n : Int)) = true := decide_eq_true (by omega)
    simp only [b134_1, B134_1, Tr.val, h4, ← h1, show (l.length + 1) * 1 ≤ 140737488355328 by omega, decide_true, cond_true]
abbrev E134 : Env := N134 fun key x => bif Nat.beq key 10 then p134_1.ls (fun a => (T134_1 a).map X134_1) x else none
theorem L134_1 : LoopOK (evI 2) (E134.lend 0) (lc Tryd.f134 1) := by
  refine l134_1 (T := T134_1) (fun x => rfl) ?_
  rintro ⟨⟨n, z⟩, l, m, z2⟩ r h
  obtain ⟨g1, g2⟩ := pre_val h
  obtain ⟨e1, e2, e3, e4⟩ := of_decide_eq_true g1
  dsimp only at e1 e2 e3 e4 g2
  cases g2
  obtain ⟨k, rfl⟩ := Int.eq_ofNat_of_zero_le e1
  exact r134 k (Int.ofNat_le.1 e2) _ l m e3 e4 rfl
def d134 (a : ByteArray) (b : Int) : Tr (Bool) :=
  let v1 : List Int := (fillTo (bytesL a) b.toNat (191 : Int))
  let v2 : List Int := (fillTo (bytesL a) b.toNat (128 : Int))
  Tr.ite (decide (b < (↑a.size : Int))) (Tr.ret false)
    (Tr.ite (decide ((1 : Nat) ≤ a.size ∧ a.size ≤ (4 : Nat) ∧ (1 : Int) = (1 : Int)))
      (Tr.ite (allN (fun (i : Nat) => U.cont (bt a (↑(i + (1 : Nat)) : Int))) (a.size - (1 : Nat)) (0 : Nat))
        (Tr.ite (decide (a.size ≤ (9223372036854775807 : Nat)))
          (Tr.ite (decide (a.size ≤ (9223372036854775807 : Nat)))
            (Tr.ite (decide ((0 : Int) ≤ b ∧ b ≤ (4 : Int) ∧ (bytesL a).length = (bytesL a).length ∧ (bytesL a).length ≤ (4 : Nat)))
              (Tr.ite (decide ((1 : Nat) ≤ (strOf v2).size ∧ (strOf v2).size ≤ (4 : Nat)))
                (Tr.ite (decide ((1 : Nat) ≤ (strOf v1).size ∧ (strOf v1).size ≤ (4 : Nat)))
                  (Tr.ite (inB b (5 : Nat))
                    (Tr.ite (decide (U.rv (strOf v1) < [(0 : Int), (0 : Int), (128 : Int), (2048 : Int), (65536 : Int)].getD b.toNat (0 : Int))) (Tr.ret false)
                      (Tr.ite (decide ((1114111 : Int) < U.rv (strOf v2))) (Tr.ret false)
                        (Tr.ite (decide (U.rv (strOf v2) < (55296 : Int))) (Tr.ret true) (Tr.ret (decide ((57343 : Int) < U.rv (strOf v1)))))))
                    Tr.fail)
                  Tr.fail)
                Tr.fail)
              Tr.fail)
            Tr.fail)
          Tr.fail)
        (Tr.ret false))
      Tr.fail)
def e134 (r : Bool) : FRes := { rs := Slot.av (AV.one (Leaf.dat Kd.bool r)), upd := [], new := [] }
@[reducible] def a134 : List AK := [AK.d Kd.str, AK.d (.int .i64)]
@[reducible] def b134 : List BK := []
theorem t134 (a : ByteArray) (b : Int) : evFn (E134) Tryd.f134 [PM.data Kd.bool] (akAV a134 (a, b, ())) (bkBs b134 ()) = (d134 a b).map e134 := by kernel_rfl
def s134 (C : akT a134 → Bool) (G : akT a134 → Bool) : FSpec := aspec a134 b134 e134 (fun x _ => C x) (fun x _ => G x)
def s134' (G : akT a134 → Bool) : FSpec := aspec0 a134 b134 e134 (fun x _ => G x)
theorem k134 {C : akT a134 → Bool} {G : akT a134 → Bool} (hd : ∀ (a : ByteArray) (b : Int), C (a, b, ()) = true → (d134 a b).val = some (G (a, b, ()))) (IO : ItOK Tryd.prog (E134) := by exact itOK_none rfl) (L : ∀ c, Tryd.f134.body = some c → LsOK (evI 2) ((E134).lend 0) c := by exact fun c _ => LsOK_none rfl c) : SpecOK Tryd.prog E0 134 (s134 C G) :=
  aspec_ok (ak := a134) (bl := b134) (e := e134) (c := fun x _ => C x) (g := fun x _ => G x) (E0 := E0) (E := E134) tab (.cons wk135 .nil) rfl rfl hm Tryd.func134 (by kernel_rfl) [PM.data Kd.bool] (fun X Y H => by obtain ⟨a, ⟨b, _⟩⟩ := X; exact val_of (t134 a b) (hd a b H)) IO L
theorem k134' {G : akT a134 → Bool} (hd : ∀ (a : ByteArray) (b : Int), (d134 a b).val = some (G (a, b, ()))) (IO : ItOK Tryd.prog (E134) := by exact itOK_none rfl) (L : ∀ c, Tryd.f134.body = some c → LsOK (evI 2) ((E134).lend 0) c := by exact fun c _ => LsOK_none rfl c) : SpecOK Tryd.prog E0 134 (s134' G) :=
  aspec0_ok (ak := a134) (bl := b134) (e := e134) (g := fun x _ => G x) (E0 := E0) (E := E134) tab (.cons wk135 .nil) rfl rfl hm Tryd.func134 (by kernel_rfl) [PM.data Kd.bool] (fun X Y => by obtain ⟨a, ⟨b, _⟩⟩ := X; exact val_of (t134 a b) (hd a b)) IO L
end Go.Proofs.YtmnbcnhpklejcaaDoor
namespace U
def rng (lo hi fl : Int) : Bool := !(decide (hi < fl) || decide (1114111 < lo)) && (decide (lo < 55296) || decide (57343 < hi))
def floor (n : Nat) : Int := [(0 : Int), 0, 128, 2048, 65536].getD n 0
def beg (s : ByteArray) (n : Nat) : Bool := allN (fun i => cont (bt s ((i + 1 : Nat) : Int))) (s.size - 1) 0 &&
  rng (rv (strOf (Go.Proofs.YtmnbcnhpklejcaaDoor.fillTo (bytesL s) n 128))) (rv (strOf (Go.Proofs.YtmnbcnhpklejcaaDoor.fillTo (bytesL s) n 191))) (floor n)
end U
namespace Go.Proofs.YtmnbcnhpklejcaaDoor
abbrev w134 : FSpec := s134 (fun x => decide (1 ≤ ByteArray.size x.1 ∧ (ByteArray.size x.1 : Int) ≤ (x.2.1 : Int) ∧ 2 ≤ (x.2.1 : Int) ∧ (x.2.1 : Int) ≤ 4)) fun x => U.beg x.1 x.2.1.toNat
theorem bytesL_len (s : ByteArray) : (bytesL s).length = s.size := by unfold bytesL; rw [List.length_map]; rfl
theorem strOf_size (l : List Int) : (strOf l).size = l.length := by unfold strOf; simp [ByteArray.size]
theorem fillTo_len {l : List Int} {n : Nat} {c : Int} (h : l.length ≤ n) : (fillTo l n c).length = n := by simp [fillTo]; omega
theorem wk134 : SpecOK Tryd.prog E0 134 w134 := by
  refine k134 (fun s n H => ?_) (L := ls_ok (lcs := [lc Tryd.f134 0, lc Tryd.f134 1]) (rgs := []) (by kernel_rfl) (by kernel_rfl) ⟨L134_0, L134_1⟩ trivial)
  obtain ⟨h1, h2, h3, h4⟩ : 1 ≤ s.size ∧ (s.size : Int) ≤ n ∧ 2 ≤ n ∧ n ≤ 4 := of_decide_eq_true H
  obtain ⟨k, rfl⟩ := Int.eq_ofNat_of_zero_le (show 0 ≤ n by omega)
  show _ = some (U.beg s k)
  have hk : s.size ≤ k := by omega
  have hl : (bytesL s).length = s.size := bytesL_len s
  have f1 : (strOf (fillTo (bytesL s) k 128)).size = k := by rw [strOf_size, fillTo_len (by omega)]
  have f2 : (strOf (fillTo (bytesL s) k 191)).size = k := by rw [strOf_size, fillTo_len (by omega)]
  have a1 : decide ((k : Int) < (s.size : Int)) = false := decide_eq_false (by omega)
  have a2 : decide (1 ≤ s.size ∧ s.size ≤ 4 ∧ (1 : Int) = 1) = true := decide_eq_true ⟨h1, by omega, rfl⟩
  have a3 : decide (s.size ≤ 9223372036854775807) = true := decide_eq_true (by omega)
  have a4 : decide ((0 : Int) ≤ (k : Int) ∧ (k : Int) ≤ 4 ∧ (bytesL s).length = (bytesL s).length ∧ (bytesL s).length ≤ 4) = true := decide_eq_true ⟨by omega, by omega, rfl, by omega⟩
  have a5 : decide (1 ≤ k ∧ k ≤ 4) = true := decide_eq_true ⟨by omega, by omega⟩
  have i5 : inB (k : Int) 5 = true := inBi (by omega) (by omega)
  have hf : [(0 : Int), 0, 128, 2048, 65536].getD k 0 = U.floor k := rfl
  have h5 : s.size ≤ 4 := by omega
  have h6 : (bytesL s).length ≤ 4 := by omega
  have h7 : (0 : Int) ≤ (k : Int) := by omega
  simp only [d134, Tr.val, Int.toNat_natCast, f1, f2, a1, a3, a5, i5, hf, h1, h4, h5, h6, h7, and_self, decide_true, cond_true, cond_false]
  unfold U.beg U.rng
  cases allN (fun i => U.cont (bt s ((i + 1 : Nat) : Int))) (s.size - 1) 0 <;> cases decide (U.rv (strOf (fillTo (bytesL s) k 191)) < U.floor k) <;> cases decide (1114111 < U.rv (strOf (fillTo (bytesL s) k 128))) <;>
    cases decide (U.rv (strOf (fillTo (bytesL s) k 128)) < 55296) <;> rfl
abbrev G83 : List (Nat × FSpec) := [(133, w133), (134, w134), (135, w135)]
def live83 (key : Nat) : Lv :=
  bif Nat.beq key 7 then { ls := [0, 2, 3, 4] } else bif Nat.beq key 1007 then { ls := [0, 2, 3, 4] } else
  { ls := [] }
abbrev M83 (ls : Nat → VS → Option (Tr (Ex × VS))) : Env := (E0.withFns G83).loops live83 ls
@[reducible] def p83_0 : LP := { n := 50, sl := [.d (Kd.str), .c (Leaf.ptr ( 0) ( 0)), .d (.int .i64), .d (.int .i64)], bl := [(0, .box [.d (Kd.int IntKind.i32), .d (.int .i64), .d (.int .i64)])] }
def B83_0 (x0 : ByteArray) (x2 : Int) (x3 : Int) (h0_0 : Int) (h0_1 : Int) (h0_2 : Int) : Tr (p83_0.T ⊕ (ByteArray × Int × Int × Int × Int × Int)) :=
  let v1 : Int := (x3 + (1 : Int))
  let v2 : ByteArray := (x0.extract (0 : Nat) (IntKind.i64.wrap v1).toNat)
  Tr.ite (decide (x3 < x2))
    (Tr.ite (decide (x3 < (↑x0.size : Int)))
      (Tr.ite (decide ((0 : Int) ≤ IntKind.i64.wrap v1 ∧ IntKind.i64.wrap v1 ≤ (↑x0.size : Int)))
        (Tr.ite (decide ((1 : Nat) ≤ v2.size ∧ (↑v2.size : Int) ≤ x2 ∧ (2 : Int) ≤ x2 ∧ x2 ≤ (4 : Int)))
          (Tr.ite (U.beg v2 x2.toNat) (Tr.ret (Sum.inl ((x0, x2, IntKind.i64.wrap v1, ()), (h0_0, h0_1, h0_2, ()), ()))) (Tr.ret (Sum.inr (x0, x2, x3, h0_0, h0_1, h0_2)))) Tr.fail)
        Tr.fail)
      (Tr.ret (Sum.inr (x0, x2, x3, h0_0, h0_1, h0_2))))
    (Tr.ret (Sum.inr (x0, x2, x3, h0_0, h0_1, h0_2)))
def X83_0 (r : (ByteArray × Int × Int × Int × Int × Int)) : Ex × VS := Prod.mk (Ex.exit ( 0)) { n := 50, v := [Slot.av (AV.one (Leaf.dat Kd.str r.fst)), Slot.av (AV.one (Leaf.ptr ( 0) ( 0))), Slot.av (AV.one (Leaf.dat (.int .i64) r.snd.fst)), Slot.av (AV.one (Leaf.dat (.int .i64) r.snd.snd.fst))], h := [( 0, Blk.box [Leaf.dat (Kd.int IntKind.i32) r.snd.snd.snd.fst, Leaf.dat (.int .i64) r.snd.snd.snd.snd.fst, Leaf.dat (.int .i64) r.snd.snd.snd.snd.snd])] }
def b83_0 : p83_0.T → Tr (p83_0.T ⊕ (ByteArray × Int × Int × Int × Int × Int)) := fun ⟨⟨x0, ⟨x2, ⟨x3, _⟩⟩⟩, ⟨⟨h0_0, ⟨h0_1, ⟨h0_2, _⟩⟩⟩, _⟩⟩ => B83_0 x0 x2 x3 h0_0 h0_1 h0_2
theorem h83_0 (ls : Nat → VS → Option (Tr (Ex × VS))) (x : p83_0.T) : (evC (evI 2) (lc Tryd.f83 0) (Env.lend (M83 ls) 0) (unV (live83 7) (p83_0.V x))).map (decL 0 (live83 7) (live83 1007)) = (b83_0 x).map (encR p83_0.V X83_0) := by
  obtain ⟨⟨x0, ⟨x2, ⟨x3, _⟩⟩⟩, ⟨⟨h0_0, ⟨h0_1, ⟨h0_2, _⟩⟩⟩, _⟩⟩ := x; kernel_rfl
theorem c83_0 (x : p83_0.T) : canV 0 (live83 7) (unV (live83 7) (p83_0.V x)) = p83_0.V x := by
  obtain ⟨⟨x0, ⟨x2, ⟨x3, _⟩⟩⟩, ⟨⟨h0_0, ⟨h0_1, ⟨h0_2, _⟩⟩⟩, _⟩⟩ := x; kernel_rfl
theorem l83_0 {T : p83_0.T → Tr (ByteArray × Int × Int × Int × Int × Int)} {ls : Nat → VS → Option (Tr (Ex × VS))} (hls : ∀ x, (Env.lend (M83 ls) 0).ls 7 x = p83_0.ls (fun a => (T a).map X83_0) x) (hS : ∀ x r, (T x).val = some r → Rounds b83_0 x r) : LoopOK (evI 2) (Env.lend (M83 ls) 0) (lc Tryd.f83 0) :=
  loopA 7 (live83 7) (live83 1007) p83_0 b83_0 X83_0 T (by kernel_rfl) rfl rfl hls (h83_0 ls) c83_0 hS
end Go.Proofs.YtmnbcnhpklejcaaDoor
namespace U
/-- So many bytes are the beginning of a letter's. -/
def pref (s : ByteArray) (n : Nat) : Nat → Nat → Nat
  | 0, k => k
  | f + 1, k => bif decide (k < s.size) && beg (s.extract 0 (k + 1)) n then pref s n f (k + 1) else k
def firstR (s : ByteArray) : Int × Int × Int :=
  if s.size = 0 then (0, 0, 2) else if need (bt s 0) = 0 then (0, 1, 4) else
  let n := (need (bt s 0)).toNat
  let k := pref s n (n - 1) 1
  if k = n then (rv (s.extract 0 n), (n : Int), 0) else if k = s.size then (0, 0, 2) else (0, (k : Int), 4)
end U
namespace Go.Proofs.YtmnbcnhpklejcaaDoor
def T83 (x : p83_0.T) : Tr (ByteArray × Int × Int × Int × Int × Int) :=
  .ite (decide (1 ≤ (x.1.2.1 : Int) ∧ (x.1.2.1 : Int) ≤ 4 ∧ (x.1.2.2.1 : Int) = 1 ∧ 1 ≤ ByteArray.size x.1.1))
    (.ret (x.1.1, x.1.2.1, ((U.pref x.1.1 (Int.toNat x.1.2.1) (Int.toNat x.1.2.1 - 1) 1 : Nat) : Int), x.2.1.1, x.2.1.2.1, x.2.1.2.2.1)) .fail
theorem r83 (s : ByteArray) (n : Nat) (h0 h1 h2 : Int) (hn : n ≤ 4) : ∀ (f k : Nat), k + f = n → 1 ≤ k → k ≤ s.size → Rounds b83_0 ((s, (n : Int), (k : Int), ()), (h0, h1, h2, ()), ()) (s, (n : Int), ((U.pref s n f k : Nat) : Int), h0, h1, h2)
  | 0, k, h3, h4, h5 => by
    refine .exit ?_
    simp only [b83_0, B83_0, Tr.val, show ¬ ((k : Int) < (n : Int)) by omega, decide_false, cond_false, U.pref]
  | f + 1, k, h3, h4, h5 => by
    have w : IntKind.i64.wrap ((k : Int) + 1) = ((k + 1 : Nat) : Int) := wrap64_nat (by omega)
    simp only [U.pref]
    by_cases c1 : k < s.size
    · have hsz : (s.extract 0 (k + 1)).size = k + 1 := U.size_pre (by omega)
      cases c2 : U.beg (s.extract 0 (k + 1)) n with
      | true =>
        rw [decide_eq_true c1, Bool.and_self, cond_true]
        refine .step ?_ (r83 s n h0 h1 h2 hn f (k + 1) (by omega) (by omega) (by omega))
        simp only [b83_0, B83_0, Tr.val, w, Int.toNat_natCast, hsz, c2, show ((k : Int) < (n : Int)) by omega, show ((k : Int) < (s.size : Int)) by omega, show ((0 : Int) ≤ ((k + 1 : Nat) : Int)) by omega, show (((k + 1 : Nat) : Int) ≤ (s.size : Int)) by omega,
          show 1 ≤ k + 1 by omega, show (((k + 1 : Nat) : Int) ≤ (n : Int)) by omega, show ((2 : Int) ≤ (n : Int)) by omega, show ((n : Int) ≤ 4) by omega, and_self, decide_true, cond_true]
      | false =>
        rw [Bool.and_false, cond_false]
        refine .exit ?_
        simp only [b83_0, B83_0, Tr.val, w, Int.toNat_natCast, hsz, c2, show ((k : Int) < (n : Int)) by omega, show ((k : Int) < (s.size : Int)) by omega, show ((0 : Int) ≤ ((k + 1 : Nat) : Int)) by omega, show (((k + 1 : Nat) : Int) ≤ (s.size : Int)) by omega,
          show 1 ≤ k + 1 by omega, show (((k + 1 : Nat) : Int) ≤ (n : Int)) by omega, show ((2 : Int) ≤ (n : Int)) by omega, show ((n : Int) ≤ 4) by omega, and_self, decide_true, cond_true, cond_false]
    · rw [decide_eq_false c1, Bool.false_and, cond_false]
      refine .exit ?_
      simp only [b83_0, B83_0, Tr.val, show ((k : Int) < (n : Int)) by omega, show ¬ ((k : Int) < (s.size : Int)) by omega, decide_true, decide_false, cond_true, cond_false]
abbrev E83 : Env := M83 fun key x => bif Nat.beq key 7 then p83_0.ls (fun a => (T83 a).map X83_0) x else none
theorem L83 : LoopOK (evI 2) (E83.lend 0) (lc Tryd.f83 0) := by
  refine l83_0 (T := T83) (fun x => rfl) ?_
  rintro ⟨⟨s, n, k, z⟩, ⟨h0, h1, h2, z1⟩, z2⟩ r h
  obtain ⟨g1, g2⟩ := pre_val h
  obtain ⟨e1, e2, e3, e4⟩ := of_decide_eq_true g1
  dsimp only at e1 e2 e3 e4 g2
  subst e3
  cases g2
  obtain ⟨m, rfl⟩ := Int.eq_ofNat_of_zero_le (show (0 : Int) ≤ n from Int.le_trans (by omega) e1)
  have e1 : 1 ≤ m := Int.ofNat_le.1 e1
  have e2 : m ≤ 4 := Int.ofNat_le.1 e2
  exact r83 s m h0 h1 h2 e2 (m - 1) 1 (by omega) (by omega) e4
@[reducible] def fstk : Kd := .pr (.int .i32) (.pr (.int .i64) (.pr (.int .i64) .un))
def d83 (a : ByteArray) : Tr (Int × Int × Int) :=
  let v1 : Int := (bt a (0 : Int))
  let v2 : ByteArray := (a.extract (0 : Nat) (U.need v1).toNat)
  let v3 : Int := ((↑(U.pref a (U.need v1).toNat ((U.need v1).toNat - (1 : Nat)) (1 : Nat)) : Int))
  Tr.ite (decide ((↑a.size : Int) = (0 : Int))) (Tr.ret ((0 : Int), (0 : Int), (2 : Int)))
    (Tr.ite (inB (0 : Int) a.size)
      (Tr.ite (decide (U.need v1 = (0 : Int))) (Tr.ret ((0 : Int), (1 : Int), (4 : Int)))
        (Tr.ite (decide ((1 : Int) ≤ U.need v1 ∧ U.need v1 ≤ (4 : Int) ∧ (1 : Int) = (1 : Int) ∧ (1 : Nat) ≤ a.size))
          (Tr.ite (decide (v3 = U.need v1))
            (Tr.ite (decide ((0 : Int) ≤ U.need v1 ∧ U.need v1 ≤ (↑a.size : Int))) (Tr.ite (decide ((1 : Nat) ≤ v2.size ∧ v2.size ≤ (4 : Nat))) (Tr.ret (U.rv v2, U.need v1, (0 : Int))) Tr.fail) Tr.fail)
            (Tr.ite (decide (v3 = (↑a.size : Int))) (Tr.ret ((0 : Int), (0 : Int), (2 : Int))) (Tr.ret ((0 : Int), v3, (4 : Int)))))
          Tr.fail))
      Tr.fail)
def e83 (r : Int × Int × Int) : FRes := { rs := Slot.av (AV.agg [Leaf.dat (Kd.int IntKind.i32) r.fst, Leaf.dat (.int .i64) r.snd.fst, Leaf.dat (.int .i64) r.snd.snd]), upd := [], new := [] }
@[reducible] def a83 : List AK := [AK.d Kd.str]
@[reducible] def b83 : List BK := []
theorem t83 (a : ByteArray) : evFn (E83) Tryd.f83 [PM.data fstk] (akAV a83 (a, ())) (bkBs b83 ()) = (d83 a).map e83 := by kernel_rfl
def s83 (C : akT a83 → Bool) (G : akT a83 → Int × Int × Int) : FSpec := aspec a83 b83 e83 (fun x _ => C x) (fun x _ => G x)
def s83' (G : akT a83 → Int × Int × Int) : FSpec := aspec0 a83 b83 e83 (fun x _ => G x)
theorem k83 {C : akT a83 → Bool} {G : akT a83 → Int × Int × Int} (hd : ∀ (a : ByteArray), C (a, ()) = true → (d83 a).val = some (G (a, ()))) (IO : ItOK Tryd.prog (E83) := by exact itOK_none rfl) (L : ∀ c, Tryd.f83.body = some c → LsOK (evI 2) ((E83).lend 0) c := by exact fun c _ => LsOK_none rfl c) : SpecOK Tryd.prog E0 83 (s83 C G) :=
  aspec_ok (ak := a83) (bl := b83) (e := e83) (c := fun x _ => C x) (g := fun x _ => G x) (E0 := E0) (E := E83) tab (.cons wk133 (.cons wk134 (.cons wk135 .nil))) rfl rfl hm Tryd.func83 (by kernel_rfl) [PM.data fstk] (fun X Y H => by obtain ⟨a, _⟩ := X; exact val_of (t83 a) (hd a H)) IO L
theorem k83' {G : akT a83 → Int × Int × Int} (hd : ∀ (a : ByteArray), (d83 a).val = some (G (a, ()))) (IO : ItOK Tryd.prog (E83) := by exact itOK_none rfl) (L : ∀ c, Tryd.f83.body = some c → LsOK (evI 2) ((E83).lend 0) c := by exact fun c _ => LsOK_none rfl c) : SpecOK Tryd.prog E0 83 (s83' G) :=
  aspec0_ok (ak := a83) (bl := b83) (e := e83) (g := fun x _ => G x) (E0 := E0) (E := E83) tab (.cons wk133 (.cons wk134 (.cons wk135 .nil))) rfl rfl hm Tryd.func83 (by kernel_rfl) [PM.data fstk] (fun X Y => by obtain ⟨a, _⟩ := X; exact val_of (t83 a) (hd a)) IO L
abbrev w83 : FSpec := s83 (fun x => decide (ByteArray.size x.1 ≤ 1048576)) fun x => U.firstR x.1
theorem pref_ge (s : ByteArray) (n : Nat) : ∀ f k, k ≤ U.pref s n f k ∧ U.pref s n f k ≤ k + f
  | 0, k => ⟨Nat.le_refl _, Nat.le_refl _⟩
  | f + 1, k => by
    simp only [U.pref]
    have := pref_ge s n f (k + 1)
    cases decide (k < s.size) && U.beg (s.extract 0 (k + 1)) n <;> simp only [cond_true, cond_false] <;> omega
theorem pref_le (s : ByteArray) (n : Nat) : ∀ f k, k ≤ s.size → U.pref s n f k ≤ s.size
  | 0, k, h => h
  | f + 1, k, h => by
    simp only [U.pref]
    by_cases c : k < s.size
    · have := pref_le s n f (k + 1) (by omega)
      cases U.beg (s.extract 0 (k + 1)) n <;> simp only [decide_eq_true c, Bool.and_true, Bool.and_false, cond_true, cond_false] <;> omega
    · simp only [decide_eq_false c, Bool.false_and, cond_false]; omega
theorem wk83 : SpecOK Tryd.prog E0 83 w83 := by
  refine k83 (fun s H => ?_) (L := ls_ok (lcs := [lc Tryd.f83 0]) (rgs := []) (by kernel_rfl) (by kernel_rfl) L83 trivial)
  have h0 : s.size ≤ 1048576 := of_decide_eq_true H
  show _ = some (U.firstR s)
  unfold U.firstR
  by_cases h1 : s.size = 0
  · have hd : decide ((s.size : Int) = 0) = true := decide_eq_true (by omega)
    simp only [d83, Tr.val, hd, cond_true, if_pos h1]
  · have i0 : inB 0 s.size = true := inBi (by omega) (by omega)
    have hN := U.need_cases (bt s 0)
    by_cases h2 : U.need (bt s 0) = 0
    · have hd : decide ((s.size : Int) = 0) = false := decide_eq_false (by omega)
      simp only [d83, Tr.val, hd, i0, h2, decide_true, cond_true, cond_false, if_neg h1, if_true]
    · obtain ⟨n, hn⟩ : ∃ n : Nat, U.need (bt s 0) = (n : Int) := Int.eq_ofNat_of_zero_le (by omega)
      have hn1 : 1 ≤ n ∧ n ≤ 4 := by omega
      have hd : decide ((s.size : Int) = 0) = false := decide_eq_false (by omega)
      have hd2 : decide ((n : Int) = 0) = false := decide_eq_false (by omega)
      have hd3 : ((1 : Int) ≤ (n : Int)) := by omega
      have hd4 : ((n : Int) ≤ 4) := by omega
      have hd5 : 1 ≤ s.size := by omega
      rw [hn] at h2
      simp only [d83, Tr.val, hd, i0, hn, hd2, hd3, hd4, hd5, Int.toNat_natCast, decide_true, and_self, cond_true, cond_false, if_neg h1, if_neg h2]
      by_cases h3 : U.pref s n (n - 1) 1 = n
      · have h4 := pref_le s n (n - 1) 1 hd5
        have hsz : (s.extract 0 n).size = n := U.size_pre (by omega)
        have hd6 : ((n : Int) ≤ (s.size : Int)) := by omega
        have hd7 : ((0 : Int) ≤ (n : Int)) := by omega
        simp only [h3, hsz, hd6, hd7, hn1.1, hn1.2, decide_true, and_self, cond_true, if_true]
      · have hd8 : decide (((U.pref s n (n - 1) 1 : Nat) : Int) = (n : Int)) = false := decide_eq_false (by omega)
        by_cases h4 : U.pref s n (n - 1) 1 = s.size
        · have hd9 : decide (((U.pref s n (n - 1) 1 : Nat) : Int) = (s.size : Int)) = true := decide_eq_true (by omega)
          simp only [hd8, hd9, cond_true, cond_false, if_neg h3, if_pos h4]
        · have hd9 : decide (((U.pref s n (n - 1) 1 : Nat) : Int) = (s.size : Int)) = false := decide_eq_false (by omega)
          simp only [hd8, hd9, cond_false, if_neg h3, if_neg h4]
end Go.Proofs.YtmnbcnhpklejcaaDoor
