/- What is kept: pushing, taking, looking. -/
import Derived.Test.YtmnbcnhpklejcaaDoorZEvAuto
import Derived.Test.YtmnbcnhpklejcaaDoorZEvC1
set_option linter.unusedVariables false
set_option linter.unusedSimpArgs false
set_option maxRecDepth 20000
open Go Go.Ev
namespace U
abbrev Ln := List Cl × Bool × Unit
def dL : Ln := ([], false, ())
def odd (l : List Cl) : Bool := !(decide (1 ≤ l.length) && decide (l.length ≤ 80) && fitC l)
def okl (l : List Ln) : Bool := decide (l.length ≤ 1048576) && l.all fun x => okc x.1
theorem okl_len {l : List Ln} (h : okl l = true) : l.length ≤ 1048576 := by
  simp only [okl, Bool.and_eq_true, decide_eq_true_eq] at h; exact h.1
theorem okl_at {l : List Ln} (h : okl l = true) {i : Nat} (hi : i < l.length) : okc (l.getD i dL).1 = true := by
  simp only [okl, Bool.and_eq_true, decide_eq_true_eq, List.all_eq_true] at h
  rw [getD_el hi]
  exact h.2 _ (List.getElem_mem hi)
end U
namespace Go.Proofs.YtmnbcnhpklejcaaDoor
open Go.RowKit
@[reducible] def bakk : Kd := .pr (.int .i64) (.pr (.sl link) .un)
theorem rgetL (l : List Line) (i : Nat) : rget link l (i : Int) = l.getD i U.dL := by rw [rget_nat]; rfl
abbrev w80 : FSpec := s80 (fun x => U.okc x.1.1) fun x => U.odd x.1.1
theorem wk80 : SpecOK Tryd.prog E0 80 w80 := by
  refine k80 fun l s H => ?_
  have H : U.okc l = true := H
  show _ = some (U.odd l)
  unfold U.odd
  by_cases h1 : (l.length : Int) < 1
  · simp only [d80, Tr.val, h1, H, decide_true, decide_false, cond_true, cond_false, show ¬ 1 ≤ l.length by omega, Bool.false_and, Bool.not_false]
  · by_cases h2 : (80 : Int) < (l.length : Int)
    · simp only [d80, Tr.val, h1, h2, H, decide_true, decide_false, cond_true, cond_false, show ¬ l.length ≤ 80 by omega, Bool.false_and, Bool.and_false, Bool.not_false]
    · simp only [d80, Tr.val, h1, h2, H, decide_true, decide_false, cond_true, cond_false, show l.length ≤ 80 by omega, show 1 ≤ l.length by omega, Bool.true_and, Bool.and_true]
def optI' : Option Nat → Int
  | some j => (j : Int)
  | none => -1
def live131 (key : Nat) : Lv :=
  bif Nat.beq key 2 then { ls := [0, 1, 7, 8] } else bif Nat.beq key 1002 then { ls := [4] } else
  { ls := [] }
abbrev M131 (ls : Nat → VS → Option (Tr (Ex × VS))) : Env := (E0.withFns [(80, w80)]).loops live131 ls
@[reducible] def p131_0 : LP := { n := 19, sl := [.d (link.sl), .c (Leaf.fn ( 80) []), .d (.int .i64), .d (.int .i64)], bl := [] }
def B131_0 (x0 : List Line) (x2 : Int) (x3 : Int) : Tr (p131_0.T ⊕ (Int ⊕ Unit)) :=
  Tr.ite (decide (x3 < x2))
    (Tr.ite (inB x3 x0.length)
      (Tr.ite (U.okc (rget link x0 x3).fst) (Tr.ite (U.odd (rget link x0 x3).fst) (Tr.ret (Sum.inr (Sum.inl x3))) (Tr.ret (Sum.inl ((x0, x2, IntKind.i64.wrap (x3 + (1 : Int)), ()), ())))) Tr.fail)
      Tr.fail)
    (Tr.ret (Sum.inr (Sum.inr ())))
def X131_0 : (Int ⊕ Unit) → Ex × VS
  | (.inl r) => Prod.mk Ex.ret { n := 19, v := [Slot.av (AV.one (Leaf.dat (.int .i64) r))], h := [] }
  | (.inr r) => Prod.mk (Ex.exit ( 0)) { n := 19, v := [Slot.av (AV.one Leaf.undef)], h := [] }
def b131_0 : p131_0.T → Tr (p131_0.T ⊕ (Int ⊕ Unit)) := fun ⟨⟨x0, ⟨x2, ⟨x3, _⟩⟩⟩, _⟩ => B131_0 x0 x2 x3
theorem h131_0 (ls : Nat → VS → Option (Tr (Ex × VS))) (x : p131_0.T) : (evC (evI 2) (lc Tryd.f131 0) (Env.lend (M131 ls) 0) (unV (live131 2) (p131_0.V x))).map (decL 0 (live131 2) (live131 1002)) = (b131_0 x).map (encR p131_0.V X131_0) := by
  obtain ⟨⟨x0, ⟨x2, ⟨x3, _⟩⟩⟩, _⟩ := x; kernel_rfl
theorem c131_0 (x : p131_0.T) : canV 0 (live131 2) (unV (live131 2) (p131_0.V x)) = p131_0.V x := by
  obtain ⟨⟨x0, ⟨x2, ⟨x3, _⟩⟩⟩, _⟩ := x; kernel_rfl
theorem l131_0 {T : p131_0.T → Tr (Int ⊕ Unit)} {ls : Nat → VS → Option (Tr (Ex × VS))} (hls : ∀ x, (Env.lend (M131 ls) 0).ls 2 x = p131_0.ls (fun a => (T a).map X131_0) x) (hS : ∀ x r, (T x).val = some r → Rounds b131_0 x r) : LoopOK (evI 2) (Env.lend (M131 ls) 0) (lc Tryd.f131 0) :=
  loopA 2 (live131 2) (live131 1002) p131_0 b131_0 X131_0 T (by kernel_rfl) rfl rfl hls (h131_0 ls) c131_0 hS
def T131 (x : p131_0.T) : Tr (Int ⊕ Unit) :=
  .ite (decide ((x.1.2.1 : Int) = (List.length (α := Line) x.1.1 : Int) ∧ (x.1.2.2.1 : Int) = 0) && U.okl x.1.1)
    (.ite (findN (fun i => U.odd (List.getD (α := Line) x.1.1 i U.dL).1) (List.length (α := Line) x.1.1) 0).isSome (.ret (.inl (((findN (fun i => U.odd (List.getD (α := Line) x.1.1 i U.dL).1) (List.length (α := Line) x.1.1) 0).getD 0 : Nat) : Int))) (.ret (.inr ()))) .fail
abbrev E131 : Env := M131 fun key x => bif Nat.beq key 2 then p131_0.ls (fun a => (T131 a).map X131_0) x else none
theorem L131 : LoopOK (evI 2) (E131.lend 0) (lc Tryd.f131 0) := by
  refine l131_0 (T := T131) (fun x => rfl) ?_
  rintro ⟨⟨l, n, i, z⟩, z2⟩ r h
  obtain ⟨h1, h2⟩ := pre_val h
  rw [Bool.and_eq_true] at h1
  obtain ⟨h1, hok⟩ := h1
  obtain ⟨e1, e2⟩ := of_decide_eq_true h1
  dsimp only at e1 e2 hok h2
  subst e1
  subst e2
  have hl := U.okl_len hok
  have := Rounds.find (B := b131_0) (N := l.length) (fun i => ((l, (l.length : Int), (i : Int), ()), ())) (fun i => U.odd (l.getD i U.dL).1) (fun i => .inl (i : Int)) (.inr ()) (fun i hi => ?_) ?_
  · cases hf : findN (fun i => U.odd (l.getD i U.dL).1) l.length 0 <;> simp only [hf, Tr.val, Option.isSome_none, Option.isSome_some, Option.getD_some, cond_true, cond_false, outN] at h2 this <;> cases h2 <;> exact this
  · have h3 := U.okl_at hok hi
    simp only [b131_0, B131_0, Tr.val, inB_nat hi, rgetL, h3, show ((i : Int) < (l.length : Int)) by omega, decide_true, cond_true, wrap64_nat (show i ≤ 1048576 by omega)]
    cases U.odd (l.getD i U.dL).1 <;> rfl
  · simp only [b131_0, B131_0, Tr.val, show ¬ ((l.length : Int) < (l.length : Int)) by omega, decide_false, cond_false]
def d131 (a : List Line) : Tr (Int) :=
  let v1 : Int := ((↑a.length : Int))
  let v2 : Int := ((↑a.length : Int))
  Tr.ite (decide (v2 = v1 ∧ (0 : Int) = (0 : Int)) && U.okl a)
    (Tr.ite (findN (fun (i : Nat) => U.odd (a.getD i U.dL).fst) a.length (0 : Nat)).isSome (Tr.ret (↑((findN (fun (i : Nat) => U.odd (a.getD i U.dL).fst) a.length (0 : Nat)).getD (0 : Nat)) : Int))
      (Tr.ret (-1 : Int)))
    Tr.fail
def e131 (r : Int) : FRes := { rs := Slot.av (AV.one (Leaf.dat (.int .i64) r)), upd := [], new := [] }
@[reducible] def a131 : List AK := [AK.d link.sl, AK.c (Leaf.fn (80 : FuncId) [])]
@[reducible] def b131 : List BK := []
theorem t131 (a : List Line) : evFn (E131) Tryd.f131 [PM.data (.int .i64)] (akAV a131 (a, ())) (bkBs b131 ()) = (d131 a).map e131 := by kernel_rfl
def s131 (C : akT a131 → Bool) (G : akT a131 → Int) : FSpec := aspec a131 b131 e131 (fun x _ => C x) (fun x _ => G x)
def s131' (G : akT a131 → Int) : FSpec := aspec0 a131 b131 e131 (fun x _ => G x)
theorem k131 {C : akT a131 → Bool} {G : akT a131 → Int} (hd : ∀ (a : List Line), C (a, ()) = true → (d131 a).val = some (G (a, ()))) (IO : ItOK Tryd.prog (E131) := by exact itOK_none rfl) (L : ∀ c, Tryd.f131.body = some c → LsOK (evI 2) ((E131).lend 0) c := by exact fun c _ => LsOK_none rfl c) : SpecOK Tryd.prog E0 131 (s131 C G) :=
  aspec_ok (ak := a131) (bl := b131) (e := e131) (c := fun x _ => C x) (g := fun x _ => G x) (E0 := E0) (E := E131) tab (.cons wk80 .nil) rfl rfl hm Tryd.func131 (by kernel_rfl) [PM.data (.int .i64)] (fun X Y H => by obtain ⟨a, _⟩ := X; exact val_of (t131 a) (hd a H)) IO L
theorem k131' {G : akT a131 → Int} (hd : ∀ (a : List Line), (d131 a).val = some (G (a, ()))) (IO : ItOK Tryd.prog (E131) := by exact itOK_none rfl) (L : ∀ c, Tryd.f131.body = some c → LsOK (evI 2) ((E131).lend 0) c := by exact fun c _ => LsOK_none rfl c) : SpecOK Tryd.prog E0 131 (s131' G) :=
  aspec0_ok (ak := a131) (bl := b131) (e := e131) (g := fun x _ => G x) (E0 := E0) (E := E131) tab (.cons wk80 .nil) rfl rfl hm Tryd.func131 (by kernel_rfl) [PM.data (.int .i64)] (fun X Y => by obtain ⟨a, _⟩ := X; exact val_of (t131 a) (hd a)) IO L
abbrev w131 : FSpec := s131 (fun x => U.okl x.1) fun x => optI' (findN (fun i => U.odd (List.getD (α := Line) x.1 i U.dL).1) (List.length (α := Line) x.1) 0)
theorem wk131 : SpecOK Tryd.prog E0 131 w131 := by
  refine k131 (fun l H => ?_) (L := ls_ok (lcs := [lc Tryd.f131 0]) (rgs := []) (by kernel_rfl) (by kernel_rfl) L131 trivial)
  have H : U.okl l = true := H
  simp only [d131, Tr.val, H, and_self, decide_true, Bool.and_self, cond_true]
  cases findN (fun i => U.odd (l.getD i U.dL).1) l.length 0 <;> rfl
def d79 (a : List Line) : Tr (Bool) :=
  let v1 : Int := (optI' (findN (fun (i : Nat) => U.odd (a.getD i U.dL).fst) a.length (0 : Nat)))
  Tr.ite (U.okl a) (Tr.ret (decide ((0 : Int) ≤ v1))) Tr.fail
def e79 (r : Bool) : FRes := { rs := Slot.av (AV.one (Leaf.dat Kd.bool r)), upd := [], new := [] }
@[reducible] def a79 : List AK := [AK.d link.sl, AK.c (Leaf.fn (80 : FuncId) [])]
@[reducible] def b79 : List BK := []
theorem t79 (a : List Line) : evFn (E0.withFns [((131 : Nat), w131)]) Tryd.f79 [PM.data Kd.bool] (akAV a79 (a, ())) (bkBs b79 ()) = (d79 a).map e79 := by kernel_rfl
def s79 (C : akT a79 → Bool) (G : akT a79 → Bool) : FSpec := aspec a79 b79 e79 (fun x _ => C x) (fun x _ => G x)
def s79' (G : akT a79 → Bool) : FSpec := aspec0 a79 b79 e79 (fun x _ => G x)
theorem k79 {C : akT a79 → Bool} {G : akT a79 → Bool} (hd : ∀ (a : List Line), C (a, ()) = true → (d79 a).val = some (G (a, ()))) (IO : ItOK Tryd.prog (E0.withFns [((131 : Nat), w131)]) := by exact itOK_none rfl) (L : ∀ c, Tryd.f79.body = some c → LsOK (evI 2) ((E0.withFns [((131 : Nat), w131)]).lend 0) c := by exact fun c _ => LsOK_none rfl c) : SpecOK Tryd.prog E0 79 (s79 C G) :=
  aspec_ok (ak := a79) (bl := b79) (e := e79) (c := fun x _ => C x) (g := fun x _ => G x) (E0 := E0) (E := E0.withFns [((131 : Nat), w131)]) tab (.cons wk131 .nil) rfl rfl hm Tryd.func79 (by kernel_rfl) [PM.data Kd.bool] (fun X Y H => by obtain ⟨a, _⟩ := X; exact val_of (t79 a) (hd a H)) IO L
theorem k79' {G : akT a79 → Bool} (hd : ∀ (a : List Line), (d79 a).val = some (G (a, ()))) (IO : ItOK Tryd.prog (E0.withFns [((131 : Nat), w131)]) := by exact itOK_none rfl) (L : ∀ c, Tryd.f79.body = some c → LsOK (evI 2) ((E0.withFns [((131 : Nat), w131)]).lend 0) c := by exact fun c _ => LsOK_none rfl c) : SpecOK Tryd.prog E0 79 (s79' G) :=
  aspec0_ok (ak := a79) (bl := b79) (e := e79) (g := fun x _ => G x) (E0 := E0) (E := E0.withFns [((131 : Nat), w131)]) tab (.cons wk131 .nil) rfl rfl hm Tryd.func79 (by kernel_rfl) [PM.data Kd.bool] (fun X Y => by obtain ⟨a, _⟩ := X; exact val_of (t79 a) (hd a)) IO L
abbrev w79 : FSpec := s79 (fun x => U.okl x.1) fun x => List.any (α := Line) x.1 fun y => U.odd y.1
theorem wk79 : SpecOK Tryd.prog E0 79 w79 := by
  refine k79 fun l H => ?_
  have H : U.okl l = true := H
  show _ = some (l.any fun y => U.odd y.1)
  rw [← find_any (fun y => U.odd y.1) U.dL l]
  simp only [d79, Tr.val, H, cond_true]
  cases findN (fun i => U.odd (l.getD i U.dL).1) l.length 0 <;> simp [optI']
def d20 (a1 : Int) (a2 : List Line) : Tr (Bool) :=
  let v1 : Int := ((↑a2.length : Int))
  Tr.ite (decide ((0 : Int) ≤ a1))
    (Tr.ite (decide (a1 ≤ (40 : Int))) (Tr.ite (decide (v1 ≤ a1)) (Tr.ite (U.okl a2) (Tr.ret !a2.any fun (y : Line) => U.odd y.fst) Tr.fail) (Tr.ret false)) (Tr.ret false)) (Tr.ret false)
def e20 (r : Bool) : FRes := { rs := Slot.av (AV.one (Leaf.dat Kd.bool r)), upd := [], new := [] }
@[reducible] def a20 : List AK := [AK.d bakk]
@[reducible] def b20 : List BK := []
theorem t20 (a1 : Int) (a2 : List Line) : evFn (E0.withFns [((79 : Nat), w79)]) Tryd.f20 [PM.data Kd.bool] (akAV a20 ((a1, a2, ()), ())) (bkBs b20 ()) = (d20 a1 a2).map e20 := by kernel_rfl
def s20 (C : akT a20 → Bool) (G : akT a20 → Bool) : FSpec := aspec a20 b20 e20 (fun x _ => C x) (fun x _ => G x)
def s20' (G : akT a20 → Bool) : FSpec := aspec0 a20 b20 e20 (fun x _ => G x)
theorem k20 {C : akT a20 → Bool} {G : akT a20 → Bool} (hd : ∀ (a1 : Int) (a2 : List Line), C ((a1, a2, ()), ()) = true → (d20 a1 a2).val = some (G ((a1, a2, ()), ()))) (IO : ItOK Tryd.prog (E0.withFns [((79 : Nat), w79)]) := by exact itOK_none rfl) (L : ∀ c, Tryd.f20.body = some c → LsOK (evI 2) ((E0.withFns [((79 : Nat), w79)]).lend 0) c := by exact fun c _ => LsOK_none rfl c) : SpecOK Tryd.prog E0 20 (s20 C G) :=
  aspec_ok (ak := a20) (bl := b20) (e := e20) (c := fun x _ => C x) (g := fun x _ => G x) (E0 := E0) (E := E0.withFns [((79 : Nat), w79)]) tab (.cons wk79 .nil) rfl rfl hm Tryd.func20 (by kernel_rfl) [PM.data Kd.bool] (fun X Y H => by obtain ⟨⟨a1, ⟨a2, _⟩⟩, _⟩ := X; exact val_of (t20 a1 a2) (hd a1 a2 H)) IO L
theorem k20' {G : akT a20 → Bool} (hd : ∀ (a1 : Int) (a2 : List Line), (d20 a1 a2).val = some (G ((a1, a2, ()), ()))) (IO : ItOK Tryd.prog (E0.withFns [((79 : Nat), w79)]) := by exact itOK_none rfl) (L : ∀ c, Tryd.f20.body = some c → LsOK (evI 2) ((E0.withFns [((79 : Nat), w79)]).lend 0) c := by exact fun c _ => LsOK_none rfl c) : SpecOK Tryd.prog E0 20 (s20' G) :=
  aspec0_ok (ak := a20) (bl := b20) (e := e20) (g := fun x _ => G x) (E0 := E0) (E := E0.withFns [((79 : Nat), w79)]) tab (.cons wk79 .nil) rfl rfl hm Tryd.func20 (by kernel_rfl) [PM.data Kd.bool] (fun X Y => by obtain ⟨⟨a1, ⟨a2, _⟩⟩, _⟩ := X; exact val_of (t20 a1 a2) (hd a1 a2)) IO L
def keepB (b : Int × List Line × Unit) : Bool := decide (0 ≤ b.1) && (decide (b.1 ≤ 40) && (decide ((b.2.1.length : Int) ≤ b.1) && !(b.2.1.any fun y => U.odd y.1)))
abbrev w20 : FSpec := s20 (fun x => U.okl x.1.2.1) fun x => keepB x.1
theorem wk20 : SpecOK Tryd.prog E0 20 w20 := by
  refine k20 fun n l H => ?_
  have H : U.okl l = true := H
  show _ = some (keepB (n, l, ()))
  unfold keepB
  by_cases h1 : 0 ≤ n <;> by_cases h2 : n ≤ 40 <;> by_cases h3 : (l.length : Int) ≤ n <;> simp [d20, Tr.val, H, h1, h2, h3]
def live132 (key : Nat) : Lv :=
  bif Nat.beq key 7777 then { ls := [], wd := [⟨4, none, .row 34 link⟩] } else
  { ls := [] }
def d132 (b : Int) : Tr (List Line) :=
  let v1 : Int := (b - (0 : Int))
  let v2 : List Line := (List.replicate (IntKind.i64.wrap v1).toNat ([], false, ()))
  let v3 : Int := ((↑v2.length : Int))
  Tr.ite (decide (b < (0 : Int))) Tr.fail
    (Tr.ite (decide ((0 : Int) < IntKind.i64.wrap v1))
      (Tr.ite true
        (Tr.ite (decide ((0 : Int) ≤ IntKind.i64.wrap v1 ∧ (IntKind.i64.wrap v1).toNat * (32 : Nat) ≤ (140737488355328 : Nat)))
          (Tr.ite (decide ((0 : Int) ≤ (0 : Int) ∧ (0 : Int) ≤ v3)) (Tr.ret (List.take (0 : Nat) v2)) Tr.fail) Tr.fail)
        Tr.fail)
      (Tr.ret []))
def e132 (r : List Line) : FRes := { rs := Slot.av (AV.one (Leaf.row ( 0))), upd := [], new := [Blk.row ( 34) link r] }
@[reducible] def a132 : List AK := [AK.c Leaf.nils, AK.d (.int .i64)]
@[reducible] def b132 : List BK := []
theorem t132 (b : Int) : evFn ((E0.withFns []).loops live132 fun (x : Nat) (x_1 : VS) => none) Tryd.f132 [PM.raw] (akAV a132 (b, ())) (bkBs b132 ()) = (d132 b).map e132 := by kernel_rfl
def s132 (C : akT a132 → Bool) (G : akT a132 → List Line) : FSpec := aspec a132 b132 e132 (fun x _ => C x) (fun x _ => G x)
def s132' (G : akT a132 → List Line) : FSpec := aspec0 a132 b132 e132 (fun x _ => G x)
theorem k132 {C : akT a132 → Bool} {G : akT a132 → List Line} (hd : ∀ (b : Int), C (b, ()) = true → (d132 b).val = some (G (b, ()))) (IO : ItOK Tryd.prog ((E0.withFns []).loops live132 fun (x : Nat) (x_1 : VS) => none) := by exact itOK_none rfl) (L : ∀ c, Tryd.f132.body = some c → LsOK (evI 2) (((E0.withFns []).loops live132 fun (x : Nat) (x_1 : VS) => none).lend 0) c := by exact fun c _ => LsOK_none rfl c) : SpecOK Tryd.prog E0 132 (s132 C G) :=
  aspec_ok (ak := a132) (bl := b132) (e := e132) (c := fun x _ => C x) (g := fun x _ => G x) (E0 := E0) (E := (E0.withFns []).loops live132 fun (x : Nat) (x_1 : VS) => none) tab .nil rfl rfl hm Tryd.func132 (by kernel_rfl) [PM.raw] (fun X Y H => by obtain ⟨b, _⟩ := X; exact val_of (t132 b) (hd b H)) IO L
theorem k132' {G : akT a132 → List Line} (hd : ∀ (b : Int), (d132 b).val = some (G (b, ()))) (IO : ItOK Tryd.prog ((E0.withFns []).loops live132 fun (x : Nat) (x_1 : VS) => none) := by exact itOK_none rfl) (L : ∀ c, Tryd.f132.body = some c → LsOK (evI 2) (((E0.withFns []).loops live132 fun (x : Nat) (x_1 : VS) => none).lend 0) c := by exact fun c _ => LsOK_none rfl c) : SpecOK Tryd.prog E0 132 (s132' G) :=
  aspec0_ok (ak := a132) (bl := b132) (e := e132) (g := fun x _ => G x) (E0 := E0) (E := (E0.withFns []).loops live132 fun (x : Nat) (x_1 : VS) => none) tab .nil rfl rfl hm Tryd.func132 (by kernel_rfl) [PM.raw] (fun X Y => by obtain ⟨b, _⟩ := X; exact val_of (t132 b) (hd b)) IO L
abbrev w132 : FSpec := s132 (fun x => decide (0 ≤ (x.1 : Int) ∧ (x.1 : Int) ≤ 1048576)) fun x => []
theorem wk132 : SpecOK Tryd.prog E0 132 w132 := by
  refine k132 (fun n H => ?_) (L := ls_ok (lcs := []) (rgs := []) (by kernel_rfl) (by kernel_rfl) trivial trivial)
  have H : 0 ≤ n ∧ n ≤ 1048576 := of_decide_eq_true H
  have e : IntKind.i64.wrap n = n := w64 (by omega) (by omega)
  have h9 : (0 : Int) ≤ max n 0 := by omega
  by_cases h : 0 < n
  · simp [d132, Tr.val, H, h, h9, e, show ¬ n < 0 by omega, show n.toNat * 32 ≤ 140737488355328 by omega]
  · simp [d132, Tr.val, H, h, e, show ¬ n < 0 by omega]
def live81 (key : Nat) : Lv :=
  bif Nat.beq key 11 then { ls := [6, 25, 26, 27], wd := [⟨6, none, .row 34 link⟩] } else bif Nat.beq key 1011 then { ls := [6] } else
  bif Nat.beq key 3 then { ls := [0, 3, 9, 10, 11] } else bif Nat.beq key 1003 then { ls := [0, 3] } else
  { ls := [] }
abbrev M81 (ls : Nat → VS → Option (Tr (Ex × VS))) : Env := (E0.withFns [(132, w132)]).loops live81 ls
@[reducible] def p81_0 : LP := { n := 36, sl := [.d (link.sl.sl), .d (.int .i64), .d (link.sl.sl), .d (.int .i64), .d (.int .i64)], bl := [] }
def B81_0 (x0 : List (List Line)) (x1 : Int) (x2 : List (List Line)) (x3 : Int) (x4 : Int) : Tr (p81_0.T ⊕ (List (List Line) × Int)) :=
  let v1 : Int := ((↑(List.length (rget link.sl x2 x4)) : Int))
  let v2 : Int := (x1 + v1)
  Tr.ite (decide (x4 < x3))
    (Tr.ite (inB x4 x2.length) (Tr.ite (decide (IntKind.i64.wrap v2 < (0 : Int))) Tr.fail (Tr.ret (Sum.inl ((x0, IntKind.i64.wrap v2, x2, x3, IntKind.i64.wrap (x4 + (1 : Int)), ()), ())))) Tr.fail)
    (Tr.ret (Sum.inr (x0, x1)))
def X81_0 (r : (List (List Line) × Int)) : Ex × VS := Prod.mk (Ex.exit ( 0)) { n := 36, v := [Slot.av (AV.one (Leaf.dat link.sl.sl r.fst)), Slot.av (AV.one (Leaf.dat (.int .i64) r.snd))], h := [] }
def b81_0 : p81_0.T → Tr (p81_0.T ⊕ (List (List Line) × Int)) := fun ⟨⟨x0, ⟨x1, ⟨x2, ⟨x3, ⟨x4, _⟩⟩⟩⟩⟩, _⟩ => B81_0 x0 x1 x2 x3 x4
theorem h81_0 (ls : Nat → VS → Option (Tr (Ex × VS))) (x : p81_0.T) : (evC (evI 2) (lc Tryd.f81 0) (Env.lend (M81 ls) 0) (unV (live81 3) (p81_0.V x))).map (decL 0 (live81 3) (live81 1003)) = (b81_0 x).map (encR p81_0.V X81_0) := by
  obtain ⟨⟨x0, ⟨x1, ⟨x2, ⟨x3, ⟨x4, _⟩⟩⟩⟩⟩, _⟩ := x; kernel_rfl
theorem c81_0 (x : p81_0.T) : canV 0 (live81 3) (unV (live81 3) (p81_0.V x)) = p81_0.V x := by
  obtain ⟨⟨x0, ⟨x1, ⟨x2, ⟨x3, ⟨x4, _⟩⟩⟩⟩⟩, _⟩ := x; kernel_rfl
theorem l81_0 {T : p81_0.T → Tr (List (List Line) × Int)} {ls : Nat → VS → Option (Tr (Ex × VS))} (hls : ∀ x, (Env.lend (M81 ls) 0).ls 3 x = p81_0.ls (fun a => (T a).map X81_0) x) (hS : ∀ x r, (T x).val = some r → Rounds b81_0 x r) : LoopOK (evI 2) (Env.lend (M81 ls) 0) (lc Tryd.f81 0) :=
  loopA 3 (live81 3) (live81 1003) p81_0 b81_0 X81_0 T (by kernel_rfl) rfl rfl hls (h81_0 ls) c81_0 hS
def T81_0 (x : p81_0.T) : Tr (List (List Line) × Int) :=
  .ite (decide ((x.1.2.1 : Int) = 0 ∧ (x.1.2.2.2.1 : Int) = (List.length (α := List Line) x.1.2.2.1 : Int) ∧ (x.1.2.2.2.2.1 : Int) = 0 ∧ List.length (α := List Line) x.1.2.2.1 ≤ 1048576 ∧ (List.flatten (α := Line) x.1.2.2.1).length ≤ 1048576))
    (.ret (x.1.1, ((List.flatten (α := Line) x.1.2.2.1).length : Int))) .fail
abbrev N81 (ls : Nat → VS → Option (Tr (Ex × VS))) : Env := M81 fun key x => bif Nat.beq key 3 then p81_0.ls (fun a => (T81_0 a).map X81_0) x else ls key x
@[reducible] def p81_1 : LP := { n := 36, sl := [.c (Leaf.row ( 0)), .d (link.sl.sl), .d (.int .i64), .d (.int .i64)], bl := [(0, .row 34 (link))] }
def B81_1 (x1 : List (List Line)) (x2 : Int) (x3 : Int) (h0 : List Line) : Tr (p81_1.T ⊕ (List Line)) :=
  Tr.ite (decide (x3 < x2))
    (Tr.ite (inB x3 x1.length)
      (Tr.ite (decide ((h0.length + List.length (rget link.sl x1 x3)) * (32 : Nat) ≤ (140737488355328 : Nat)))
        (Tr.ret (Sum.inl ((x1, x2, IntKind.i64.wrap (x3 + (1 : Int)), ()), h0 ++ rget link.sl x1 x3, ()))) Tr.fail)
      Tr.fail)
    (Tr.ret (Sum.inr h0))
def X81_1 (r : (List Line)) : Ex × VS := Prod.mk (Ex.exit ( 2)) { n := 36, v := [Slot.av (AV.one (Leaf.row ( 0)))], h := [( 0, Blk.row ( 34) link r)] }
def b81_1 : p81_1.T → Tr (p81_1.T ⊕ (List Line)) := fun ⟨⟨x1, ⟨x2, ⟨x3, _⟩⟩⟩, ⟨h0, _⟩⟩ => B81_1 x1 x2 x3 h0
theorem h81_1 (ls : Nat → VS → Option (Tr (Ex × VS))) (x : p81_1.T) : (evC (evI 2) (lc Tryd.f81 1) (Env.lend (N81 ls) 0) (unV (live81 11) (p81_1.V x))).map (decL 0 (live81 11) (live81 1011)) = (b81_1 x).map (encR p81_1.V X81_1) := by
  obtain ⟨⟨x1, ⟨x2, ⟨x3, _⟩⟩⟩, ⟨h0, _⟩⟩ := x; kernel_rfl
theorem c81_1 (x : p81_1.T) : canV 0 (live81 11) (unV (live81 11) (p81_1.V x)) = p81_1.V x := by
  obtain ⟨⟨x1, ⟨x2, ⟨x3, _⟩⟩⟩, ⟨h0, _⟩⟩ := x; kernel_rfl
theorem l81_1 {T : p81_1.T → Tr (List Line)} {ls : Nat → VS → Option (Tr (Ex × VS))} (hls : ∀ x, (Env.lend (N81 ls) 0).ls 11 x = p81_1.ls (fun a => (T a).map X81_1) x) (hS : ∀ x r, (T x).val = some r → Rounds b81_1 x r) : LoopOK (evI 2) (Env.lend (N81 ls) 0) (lc Tryd.f81 1) :=
  loopA 11 (live81 11) (live81 1011) p81_1 b81_1 X81_1 T (by kernel_rfl) rfl rfl hls (h81_1 ls) c81_1 hS
theorem L81_0 {ls : Nat → VS → Option (Tr (Ex × VS))} : LoopOK (evI 2) ((N81 ls).lend 0) (lc Tryd.f81 0) := by
  refine l81_0 (T := T81_0) (fun x => rfl) ?_
  rintro ⟨⟨l0, s, l, n, i, z⟩, z2⟩ r h
  obtain ⟨h1, h2⟩ := pre_val h
  obtain ⟨e1, e2, e3, e4, e5⟩ := of_decide_eq_true h1
  dsimp only at e1 e2 e3 e4 e5 h2
  subst e1; subst e2; subst e3
  cases h2
  have := Rounds.fold0 (B := b81_0) (σ := Nat) l (fun i s => ((l0, (s : Int), l, (l.length : Int), (i : Int), ()), ())) (fun s x => s + List.length (α := Line) x) (fun s => (l0, (s : Int))) (fun i s => s + (l.drop i).flatten.length ≤ 1048576) 0 (by simpa using e5) (fun i s hi hv => ?_) (fun s hv => ?_)
  · have e : l.foldl (fun s x => s + List.length (α := Line) x) 0 = (List.flatten (α := Line) l).length := by
      have : ∀ (l : List (List Line)) (k : Nat), l.foldl (fun s x => s + List.length (α := Line) x) k = k + (List.flatten (α := Line) l).length := by
        intro l
        induction l with
        | nil => intro k; simp
        | cons x l ih => intro k; rw [List.foldl_cons, ih]; simp; omega
      rw [this]; omega
    rw [e] at this
    exact this
  · rw [List.drop_eq_getElem_cons hi] at hv
    simp only [List.flatten_cons, List.length_append] at hv
    have e : rget link.sl l (i : Int) = l[i] := by rw [rget_nat]; exact getD_el hi
    have e6 : IntKind.i64.wrap ((s : Int) + (l[i].length : Int)) = ((s + l[i].length : Nat) : Int) := by rw [w64 (by omega) (by omega)]; omega
    refine ⟨?_, by omega⟩
    simp only [b81_0, B81_0, Tr.val, e, e6, inB_nat hi, show ((i : Int) < (l.length : Int)) by omega, show ¬ (((s + l[i].length : Nat) : Int) < 0) by omega, decide_true, decide_false, cond_true, cond_false, wrap64_nat (show i ≤ 1048576 by omega)]
  · simp only [b81_0, B81_0, Tr.val, show ¬ ((l.length : Int) < (l.length : Int)) by omega, decide_false, cond_false]
def T81_1 (x : p81_1.T) : Tr (List Line) :=
  .ite (decide ((x.1.2.1 : Int) = (List.length (α := List Line) x.1.1 : Int) ∧ (x.1.2.2.1 : Int) = 0 ∧ List.length (α := List Line) x.1.1 ≤ 1048576 ∧ List.length (α := Line) x.2.1 + (List.flatten (α := Line) x.1.1).length ≤ 1048576))
    (.ret (x.2.1 ++ List.flatten (α := Line) x.1.1)) .fail
abbrev E81 : Env := N81 fun key x => bif Nat.beq key 11 then p81_1.ls (fun a => (T81_1 a).map X81_1) x else none
theorem L81_1 : LoopOK (evI 2) (E81.lend 0) (lc Tryd.f81 1) := by
  refine l81_1 (T := T81_1) (fun x => rfl) ?_
  rintro ⟨⟨l, n, i, z⟩, a, z2⟩ r h
  obtain ⟨h1, h2⟩ := pre_val h
  obtain ⟨e2, e3, e4, e5⟩ := of_decide_eq_true h1
  dsimp only at e2 e3 e4 e5 h2
  subst e2; subst e3
  cases h2
  have := Rounds.fold0 (B := b81_1) (σ := List Line) l (fun i s => ((l, (l.length : Int), (i : Int), ()), s, ())) (fun s x => s ++ x) (fun s => s) (fun i s => s.length + (l.drop i).flatten.length ≤ 1048576) a (by simpa using e5) (fun i s hi hv => ?_) (fun s hv => ?_)
  · have e : l.foldl (fun s x => s ++ x) a = a ++ List.flatten (α := Line) l := by
      clear this h h1 e5 e4
      induction l generalizing a with
      | nil => simp
      | cons x l ih => rw [List.foldl_cons, ih]; simp
    rw [e] at this
    exact this
  · rw [List.drop_eq_getElem_cons hi] at hv
    simp only [List.flatten_cons, List.length_append] at hv
    have e : rget link.sl l (i : Int) = l[i] := by rw [rget_nat]; exact getD_el hi
    refine ⟨?_, by simp only [List.length_append]; omega⟩
    simp only [b81_1, B81_1, Tr.val, e, inB_nat hi, show ((i : Int) < (l.length : Int)) by omega, show (s.length + l[i].length) * 32 ≤ 140737488355328 by omega, decide_true, cond_true, wrap64_nat (show i ≤ 1048576 by omega)]
  · simp only [b81_1, B81_1, Tr.val, show ¬ ((l.length : Int) < (l.length : Int)) by omega, decide_false, cond_false]
def d81 (a : List (List Line)) : Tr (List Line) :=
  let v1 : Int := ((↑a.length : Int))
  let v2 : Int := ((↑a.flatten.length : Int))
  let v3 : Int := ((↑a.length : Int))
  Tr.ite (decide ((0 : Int) = (0 : Int) ∧ v3 = v1 ∧ (0 : Int) = (0 : Int) ∧ a.length ≤ (1048576 : Nat) ∧ a.flatten.length ≤ (1048576 : Nat)))
    (Tr.ite (decide ((0 : Int) ≤ v2 ∧ v2 ≤ (1048576 : Int)))
      (Tr.ite (decide (v3 = v1 ∧ (0 : Int) = (0 : Int) ∧ a.length ≤ (1048576 : Nat) ∧ (0 : Nat) + a.flatten.length ≤ (1048576 : Nat))) (Tr.ret a.flatten) Tr.fail) Tr.fail)
    Tr.fail
def e81 (r : List Line) : FRes := { rs := Slot.av (AV.one (Leaf.dat link.sl r)), upd := [], new := [] }
@[reducible] def a81 : List AK := [AK.d link.sl.sl]
@[reducible] def b81 : List BK := []
theorem t81 (a : List (List Line)) : evFn (E81) Tryd.f81 [PM.data link.sl] (akAV a81 (a, ())) (bkBs b81 ()) = (d81 a).map e81 := by kernel_rfl
def s81 (C : akT a81 → Bool) (G : akT a81 → List Line) : FSpec := aspec a81 b81 e81 (fun x _ => C x) (fun x _ => G x)
def s81' (G : akT a81 → List Line) : FSpec := aspec0 a81 b81 e81 (fun x _ => G x)
theorem k81 {C : akT a81 → Bool} {G : akT a81 → List Line} (hd : ∀ (a : List (List Line)), C (a, ()) = true → (d81 a).val = some (G (a, ()))) (IO : ItOK Tryd.prog (E81) := by exact itOK_none rfl) (L : ∀ c, Tryd.f81.body = some c → LsOK (evI 2) ((E81).lend 0) c := by exact fun c _ => LsOK_none rfl c) : SpecOK Tryd.prog E0 81 (s81 C G) :=
  aspec_ok (ak := a81) (bl := b81) (e := e81) (c := fun x _ => C x) (g := fun x _ => G x) (E0 := E0) (E := E81) tab (.cons wk132 .nil) rfl rfl hm Tryd.func81 (by kernel_rfl) [PM.data link.sl] (fun X Y H => by obtain ⟨a, _⟩ := X; exact val_of (t81 a) (hd a H)) IO L
theorem k81' {G : akT a81 → List Line} (hd : ∀ (a : List (List Line)), (d81 a).val = some (G (a, ()))) (IO : ItOK Tryd.prog (E81) := by exact itOK_none rfl) (L : ∀ c, Tryd.f81.body = some c → LsOK (evI 2) ((E81).lend 0) c := by exact fun c _ => LsOK_none rfl c) : SpecOK Tryd.prog E0 81 (s81' G) :=
  aspec0_ok (ak := a81) (bl := b81) (e := e81) (g := fun x _ => G x) (E0 := E0) (E := E81) tab (.cons wk132 .nil) rfl rfl hm Tryd.func81 (by kernel_rfl) [PM.data link.sl] (fun X Y => by obtain ⟨a, _⟩ := X; exact val_of (t81 a) (hd a)) IO L
abbrev w81 : FSpec := s81 (fun x => decide (List.length (α := List Line) x.1 ≤ 1048576 ∧ (List.flatten (α := Line) x.1).length ≤ 1048576)) fun x => List.flatten (α := Line) x.1
theorem wk81 : SpecOK Tryd.prog E0 81 w81 := by
  refine k81 (fun l H => ?_) (L := ls_ok (lcs := [lc Tryd.f81 0, lc Tryd.f81 1]) (rgs := []) (by kernel_rfl) (by kernel_rfl) ⟨L81_0, L81_1⟩ trivial)
  have H : List.length (α := List Line) l ≤ 1048576 ∧ (List.flatten (α := Line) l).length ≤ 1048576 := of_decide_eq_true H
  have h2 : ((List.flatten (α := Line) l).length : Int) ≤ 1048576 := by omega
  simp only [d81, Tr.val, H, h2, Nat.zero_add, Int.natCast_nonneg, and_self, decide_true, cond_true, List.nil_append]
abbrev G3 : List (Nat × FSpec) := [(20, w20), (79, w79), (81, w81)]
theorem AG3 : AllFn Tryd.prog E0 G3 := .cons wk20 (.cons wk79 (.cons wk81 .nil))
def d17 (a1 : Int) (a2 : List Line) (b : List Line) : Tr (Int × List Line × Int) :=
  let v1 : List Line := ([a2, b].flatten)
  let v2 : Int := ((↑v1.length : Int))
  let v3 : Int := (v2 - a1)
  let v4 : Int := (maxI (IntKind.i64.wrap v3) (0 : Int))
  Tr.ite (U.okl a2)
    (Tr.ite (!keepB (a1, a2, ())) (Tr.ret ((0 : Int), [], (1 : Int)))
      (Tr.ite (U.okl b)
        (Tr.ite (b.any fun (y : Line) => U.odd y.fst) (Tr.ret ((0 : Int), [], (1 : Int)))
          (Tr.ite (decide ((2 : Nat) ≤ (1048576 : Nat) ∧ v1.length ≤ (1048576 : Nat))) (Tr.ite (decide ((0 : Int) ≤ v4 ∧ v4 ≤ v2)) (Tr.ret (a1, sub v1 v4.toNat v1.length, (0 : Int))) Tr.fail) Tr.fail))
        Tr.fail))
    Tr.fail
def e17 (r : Int × List Line × Int) : FRes := { rs := Slot.tup [AV.agg [Leaf.dat (.int .i64) r.fst, Leaf.dat link.sl r.snd.fst], AV.one (Leaf.dat (.int .i64) r.snd.snd)], upd := [], new := [] }
@[reducible] def a17 : List AK := [AK.d bakk, AK.d link.sl]
@[reducible] def b17 : List BK := []
theorem t17 (a1 : Int) (a2 : List Line) (b : List Line) : evFn (E0.withFns G3) Tryd.f17 [PM.data bakk, PM.data (.int .i64)] (akAV a17 ((a1, a2, ()), b, ())) (bkBs b17 ()) = (d17 a1 a2 b).map e17 := by kernel_rfl
def s17 (C : akT a17 → Bool) (G : akT a17 → Int × List Line × Int) : FSpec := aspec a17 b17 e17 (fun x _ => C x) (fun x _ => G x)
def s17' (G : akT a17 → Int × List Line × Int) : FSpec := aspec0 a17 b17 e17 (fun x _ => G x)
theorem k17 {C : akT a17 → Bool} {G : akT a17 → Int × List Line × Int} (hd : ∀ (a1 : Int) (a2 : List Line) (b : List Line), C ((a1, a2, ()), b, ()) = true → (d17 a1 a2 b).val = some (G ((a1, a2, ()), b, ()))) (IO : ItOK Tryd.prog (E0.withFns G3) := by exact itOK_none rfl) (L : ∀ c, Tryd.f17.body = some c → LsOK (evI 2) ((E0.withFns G3).lend 0) c := by exact fun c _ => LsOK_none rfl c) : SpecOK Tryd.prog E0 17 (s17 C G) :=
  aspec_ok (ak := a17) (bl := b17) (e := e17) (c := fun x _ => C x) (g := fun x _ => G x) (E0 := E0) (E := E0.withFns G3) tab AG3 rfl rfl hm Tryd.func17 (by kernel_rfl) [PM.data bakk, PM.data (.int .i64)] (fun X Y H => by obtain ⟨⟨a1, ⟨a2, _⟩⟩, ⟨b, _⟩⟩ := X; exact val_of (t17 a1 a2 b) (hd a1 a2 b H)) IO L
theorem k17' {G : akT a17 → Int × List Line × Int} (hd : ∀ (a1 : Int) (a2 : List Line) (b : List Line), (d17 a1 a2 b).val = some (G ((a1, a2, ()), b, ()))) (IO : ItOK Tryd.prog (E0.withFns G3) := by exact itOK_none rfl) (L : ∀ c, Tryd.f17.body = some c → LsOK (evI 2) ((E0.withFns G3).lend 0) c := by exact fun c _ => LsOK_none rfl c) : SpecOK Tryd.prog E0 17 (s17' G) :=
  aspec0_ok (ak := a17) (bl := b17) (e := e17) (g := fun x _ => G x) (E0 := E0) (E := E0.withFns G3) tab AG3 rfl rfl hm Tryd.func17 (by kernel_rfl) [PM.data bakk, PM.data (.int .i64)] (fun X Y => by obtain ⟨⟨a1, ⟨a2, _⟩⟩, ⟨b, _⟩⟩ := X; exact val_of (t17 a1 a2 b) (hd a1 a2 b)) IO L
def d18 (a1 : Int) (a2 : List Line) (b : Int) : Tr (Int × List Line × List Line × Int) :=
  let v1 : Int := ((↑a2.length : Int))
  let v2 : Int := (v1 - minI b v1)
  Tr.ite (U.okl a2)
    (Tr.ite (!keepB (a1, a2, ())) (Tr.ret ((0 : Int), [], [], (1 : Int)))
      (Tr.ite (decide (b < (0 : Int))) (Tr.ret ((0 : Int), [], [], (1 : Int)))
        (Tr.ite (decide ((0 : Int) ≤ IntKind.i64.wrap v2 ∧ IntKind.i64.wrap v2 ≤ v1))
          (Tr.ite (decide ((0 : Int) ≤ IntKind.i64.wrap v2 ∧ IntKind.i64.wrap v2 ≤ v1) && decide (IntKind.i64.wrap v2 = IntKind.i64.wrap v2))
            (Tr.ret (a1, sub a2 (0 : Nat) (IntKind.i64.wrap v2).toNat, sub a2 (IntKind.i64.wrap v2).toNat a2.length, (0 : Int))) Tr.fail)
          Tr.fail)))
    Tr.fail
def e18 (r : Int × List Line × List Line × Int) : FRes := { rs := Slot.tup [AV.agg [Leaf.dat (.int .i64) r.fst, Leaf.dat link.sl r.snd.fst], AV.one (Leaf.dat link.sl r.snd.snd.fst), AV.one (Leaf.dat (.int .i64) r.snd.snd.snd)], upd := [], new := [] }
@[reducible] def a18 : List AK := [AK.d bakk, AK.d (.int .i64)]
@[reducible] def b18 : List BK := []
theorem t18 (a1 : Int) (a2 : List Line) (b : Int) : evFn (E0.withFns G3) Tryd.f18 [PM.data bakk, PM.data link.sl, PM.data (.int .i64)] (akAV a18 ((a1, a2, ()), b, ())) (bkBs b18 ()) = (d18 a1 a2 b).map e18 := by kernel_rfl
def s18 (C : akT a18 → Bool) (G : akT a18 → Int × List Line × List Line × Int) : FSpec := aspec a18 b18 e18 (fun x _ => C x) (fun x _ => G x)
def s18' (G : akT a18 → Int × List Line × List Line × Int) : FSpec := aspec0 a18 b18 e18 (fun x _ => G x)
theorem k18 {C : akT a18 → Bool} {G : akT a18 → Int × List Line × List Line × Int} (hd : ∀ (a1 : Int) (a2 : List Line) (b : Int), C ((a1, a2, ()), b, ()) = true → (d18 a1 a2 b).val = some (G ((a1, a2, ()), b, ()))) (IO : ItOK Tryd.prog (E0.withFns G3) := by exact itOK_none rfl) (L : ∀ c, Tryd.f18.body = some c → LsOK (evI 2) ((E0.withFns G3).lend 0) c := by exact fun c _ => LsOK_none rfl c) : SpecOK Tryd.prog E0 18 (s18 C G) :=
  aspec_ok (ak := a18) (bl := b18) (e := e18) (c := fun x _ => C x) (g := fun x _ => G x) (E0 := E0) (E := E0.withFns G3) tab AG3 rfl rfl hm Tryd.func18 (by kernel_rfl) [PM.data bakk, PM.data link.sl, PM.data (.int .i64)] (fun X Y H => by obtain ⟨⟨a1, ⟨a2, _⟩⟩, ⟨b, _⟩⟩ := X; exact val_of (t18 a1 a2 b) (hd a1 a2 b H)) IO L
theorem k18' {G : akT a18 → Int × List Line × List Line × Int} (hd : ∀ (a1 : Int) (a2 : List Line) (b : Int), (d18 a1 a2 b).val = some (G ((a1, a2, ()), b, ()))) (IO : ItOK Tryd.prog (E0.withFns G3) := by exact itOK_none rfl) (L : ∀ c, Tryd.f18.body = some c → LsOK (evI 2) ((E0.withFns G3).lend 0) c := by exact fun c _ => LsOK_none rfl c) : SpecOK Tryd.prog E0 18 (s18' G) :=
  aspec0_ok (ak := a18) (bl := b18) (e := e18) (g := fun x _ => G x) (E0 := E0) (E := E0.withFns G3) tab AG3 rfl rfl hm Tryd.func18 (by kernel_rfl) [PM.data bakk, PM.data link.sl, PM.data (.int .i64)] (fun X Y => by obtain ⟨⟨a1, ⟨a2, _⟩⟩, ⟨b, _⟩⟩ := X; exact val_of (t18 a1 a2 b) (hd a1 a2 b)) IO L
def d19 (a1 : Int) (a2 : List Line) (b : Int) : Tr (List Cell × Bool × Int) :=
  let v1 : Int := ((↑a2.length : Int))
  let v2 : Int := (v1 - (1 : Int))
  let v3 : Int := (IntKind.i64.wrap v2 - b)
  Tr.ite (U.okl a2)
    (Tr.ite (!keepB (a1, a2, ())) (Tr.ret ([], false, (1 : Int)))
      (Tr.ite (decide (b < (0 : Int))) (Tr.ret ([], false, (5 : Int)))
        (Tr.ite (decide (v1 ≤ b)) (Tr.ret ([], false, (5 : Int)))
          (Tr.ite (inB (IntKind.i64.wrap v3) a2.length) (Tr.ret ((rget link a2 (IntKind.i64.wrap v3)).fst, (rget link a2 (IntKind.i64.wrap v3)).snd.fst, (0 : Int))) Tr.fail))))
    Tr.fail
def e19 (r : List Cell × Bool × Int) : FRes := { rs := Slot.tup [AV.agg [Leaf.dat celk.sl r.fst, Leaf.dat Kd.bool r.snd.fst], AV.one (Leaf.dat (.int .i64) r.snd.snd)], upd := [], new := [] }
@[reducible] def a19 : List AK := [AK.d bakk, AK.d (.int .i64)]
@[reducible] def b19 : List BK := []
theorem t19 (a1 : Int) (a2 : List Line) (b : Int) : evFn (E0.withFns G3) Tryd.f19 [PM.data link, PM.data (.int .i64)] (akAV a19 ((a1, a2, ()), b, ())) (bkBs b19 ()) = (d19 a1 a2 b).map e19 := by kernel_rfl
def s19 (C : akT a19 → Bool) (G : akT a19 → List Cell × Bool × Int) : FSpec := aspec a19 b19 e19 (fun x _ => C x) (fun x _ => G x)
def s19' (G : akT a19 → List Cell × Bool × Int) : FSpec := aspec0 a19 b19 e19 (fun x _ => G x)
theorem k19 {C : akT a19 → Bool} {G : akT a19 → List Cell × Bool × Int} (hd : ∀ (a1 : Int) (a2 : List Line) (b : Int), C ((a1, a2, ()), b, ()) = true → (d19 a1 a2 b).val = some (G ((a1, a2, ()), b, ()))) (IO : ItOK Tryd.prog (E0.withFns G3) := by exact itOK_none rfl) (L : ∀ c, Tryd.f19.body = some c → LsOK (evI 2) ((E0.withFns G3).lend 0) c := by exact fun c _ => LsOK_none rfl c) : SpecOK Tryd.prog E0 19 (s19 C G) :=
  aspec_ok (ak := a19) (bl := b19) (e := e19) (c := fun x _ => C x) (g := fun x _ => G x) (E0 := E0) (E := E0.withFns G3) tab AG3 rfl rfl hm Tryd.func19 (by kernel_rfl) [PM.data link, PM.data (.int .i64)] (fun X Y H => by obtain ⟨⟨a1, ⟨a2, _⟩⟩, ⟨b, _⟩⟩ := X; exact val_of (t19 a1 a2 b) (hd a1 a2 b H)) IO L
theorem k19' {G : akT a19 → List Cell × Bool × Int} (hd : ∀ (a1 : Int) (a2 : List Line) (b : Int), (d19 a1 a2 b).val = some (G ((a1, a2, ()), b, ()))) (IO : ItOK Tryd.prog (E0.withFns G3) := by exact itOK_none rfl) (L : ∀ c, Tryd.f19.body = some c → LsOK (evI 2) ((E0.withFns G3).lend 0) c := by exact fun c _ => LsOK_none rfl c) : SpecOK Tryd.prog E0 19 (s19' G) :=
  aspec0_ok (ak := a19) (bl := b19) (e := e19) (g := fun x _ => G x) (E0 := E0) (E := E0.withFns G3) tab AG3 rfl rfl hm Tryd.func19 (by kernel_rfl) [PM.data link, PM.data (.int .i64)] (fun X Y => by obtain ⟨⟨a1, ⟨a2, _⟩⟩, ⟨b, _⟩⟩ := X; exact val_of (t19 a1 a2 b) (hd a1 a2 b)) IO L
end Go.Proofs.YtmnbcnhpklejcaaDoor
namespace U
def rawPush (b : Int × List Ln × Unit) (l : List Ln) : Int × List Ln × Int :=
  if Go.Proofs.YtmnbcnhpklejcaaDoor.keepB b && !(l.any fun y => odd y.1) then (b.1, (b.2.1 ++ l).drop (maxI ((b.2.1 ++ l).length - b.1) 0).toNat, 0) else (0, [], 1)
def rawTake (b : Int × List Ln × Unit) (n : Int) : Int × List Ln × List Ln × Int :=
  if Go.Proofs.YtmnbcnhpklejcaaDoor.keepB b && decide (0 ≤ n) then (b.1, b.2.1.take (b.2.1.length - n.toNat), b.2.1.drop (b.2.1.length - n.toNat), 0) else (0, [], [], 1)
def rawAt (b : Int × List Ln × Unit) (i : Int) : List Cl × Bool × Int :=
  if Go.Proofs.YtmnbcnhpklejcaaDoor.keepB b = false then ([], false, 1) else if i < 0 ∨ (b.2.1.length : Int) ≤ i then ([], false, 5) else
  ((b.2.1.getD (b.2.1.length - 1 - i.toNat) dL).1, (b.2.1.getD (b.2.1.length - 1 - i.toNat) dL).2.1, 0)
end U
namespace Go.Proofs.YtmnbcnhpklejcaaDoor
abbrev w17 : FSpec := s17 (fun x => (U.okl x.1.2.1 && U.okl x.2.1) && decide (List.length (α := Line) x.1.2.1 + List.length (α := Line) x.2.1 ≤ 1048576)) fun x => U.rawPush x.1 x.2.1
theorem keep_max {n : Int} {l : List Line} (h : keepB (n, l, ()) = true) : 0 ≤ n ∧ n ≤ 40 ∧ (l.length : Int) ≤ n ∧ (l.any fun y => U.odd y.1) = false := by
  simpa [keepB] using h
theorem wk17 : SpecOK Tryd.prog E0 17 w17 := by
  refine k17 fun n a b H => ?_
  obtain ⟨H1, H2⟩ := Bool.and_eq_true_iff.1 H
  obtain ⟨h1, h2⟩ : U.okl a = true ∧ U.okl b = true := (Bool.and_eq_true_iff.1 H1)
  have hab : a.length + b.length ≤ 1048576 := of_decide_eq_true H2
  show _ = some (U.rawPush (n, a, ()) b)
  unfold U.rawPush
  have hb := U.okl_len h2
  cases h3 : keepB (n, a, ()) with
  | false => simp [d17, Tr.val, h1, h3]
  | true =>
    obtain ⟨k1, k2, k3, _⟩ := keep_max h3
    cases h4 : b.any (fun y => U.odd y.1) with
    | true => simp only [d17, Tr.val, h1, h2, h3, h4, Bool.not_true, Bool.and_false, cond_true, cond_false, Bool.false_eq_true, if_false]
    | false =>
      have hf : [a, b].flatten = a ++ b := by simp
      have hw : IntKind.i64.wrap (((a ++ b).length : Int) - n) = ((a ++ b).length : Int) - n := by
        rw [List.length_append]
        exact w64 (by omega) (by omega)
      have hm : maxI (((a ++ b).length : Int) - n) 0 = (((a ++ b).length - n.toNat : Nat) : Int) := by
        rw [List.length_append]
        unfold maxI
        split <;> omega
      have hle : (((a ++ b).length - n.toNat : Nat) : Int) ≤ ((a ++ b).length : Int) := by omega
      have hl2 : (a ++ b).length ≤ 1048576 + 40 := by rw [List.length_append]; omega
      have hl3 : ([a, b] : List (List Line)).length ≤ 1048576 := by simp
      simp only [d17, Tr.val, h1, h2, h3, h4, hf, hw, hm, hle, hl3, Int.natCast_nonneg, Int.toNat_natCast, Bool.not_true, Bool.not_false, Bool.and_self, and_self, decide_true, cond_true, cond_false, if_true]
      have hl : (a ++ b).length ≤ 1048576 := by rw [List.length_append]; omega
      have ht : List.take (a.length + b.length) (a ++ b) = a ++ b := by rw [← List.length_append]; exact List.take_length
      simp [hab, sub, ht]
abbrev w18 : FSpec := s18 (fun x => U.okl x.1.2.1) fun x => U.rawTake x.1 x.2.1
theorem wk18 : SpecOK Tryd.prog E0 18 w18 := by
  refine k18 fun n a b H => ?_
  have h1 : U.okl a = true := H
  have ha := U.okl_len h1
  show _ = some (U.rawTake (n, a, ()) b)
  unfold U.rawTake
  cases h3 : keepB (n, a, ()) with
  | false => simp [d18, Tr.val, h1, h3]
  | true =>
    by_cases h4 : b < 0
    · simp [d18, Tr.val, h1, h3, h4, show ¬ 0 ≤ b by omega]
    · have e : IntKind.i64.wrap ((a.length : Int) - minI b (a.length : Int)) = ((a.length - b.toNat : Nat) : Int) := by
        unfold minI
        split <;> rw [w64 (by omega) (by omega)] <;> omega
      have e2 : ((a.length - b.toNat : Nat) : Int) ≤ (a.length : Int) := by omega
      simp only [d18, Tr.val, h1, h3, h4, e, e2, show 0 ≤ b by omega, Int.natCast_nonneg, Int.toNat_natCast, decide_true, decide_false, Bool.not_true, Bool.and_self, and_self, cond_true, cond_false, if_true]
      simp [sub]
abbrev w19 : FSpec := s19 (fun x => U.okl x.1.2.1) fun x => U.rawAt x.1 x.2.1
theorem wk19 : SpecOK Tryd.prog E0 19 w19 := by
  refine k19 fun n a b H => ?_
  have h1 : U.okl a = true := H
  have ha := U.okl_len h1
  show _ = some (U.rawAt (n, a, ()) b)
  unfold U.rawAt
  cases h3 : keepB (n, a, ()) with
  | false => simp [d19, Tr.val, h1, h3]
  | true =>
    by_cases h4 : b < 0
    · simp [d19, Tr.val, h1, h3, h4]
    · by_cases h5 : (a.length : Int) ≤ b
      · simp [d19, Tr.val, h1, h3, h4, h5]
      · have e1 : IntKind.i64.wrap ((a.length : Int) - 1) = (a.length : Int) - 1 := w64 (by omega) (by omega)
        have e2 : IntKind.i64.wrap ((a.length : Int) - 1 - b) = ((a.length - 1 - b.toNat : Nat) : Int) := by rw [w64 (by omega) (by omega)]; omega
        have i1 : inB ((a.length - 1 - b.toNat : Nat) : Int) a.length = true := inB_nat (by omega)
        simp only [d19, Tr.val, h1, h3, h4, h5, e1, e2, i1, rgetL, decide_false, Bool.not_true, cond_true, cond_false, if_false, or_self, Bool.true_eq_false]
def live16 (key : Nat) : Lv :=
  bif Nat.beq key 7 then { ls := [5, 8, 16, 17, 18, 31, 32, 33], wd := [⟨8, some 0, .row 48 celk⟩] } else bif Nat.beq key 1007 then { ls := [5, 8, 16, 17, 18] } else
  bif Nat.beq key 3 then { ls := [5, 16, 17, 18], wd := [⟨5, none, .row 34 link⟩] } else bif Nat.beq key 1003 then { ls := [5] } else
  { ls := [] }
abbrev M16 (ls : Nat → VS → Option (Tr (Ex × VS))) : Env := (E0.withFns []).loops live16 ls
@[reducible] def p16_0 : LP := { n := 58, sl := [.c (Leaf.row ( 0)), .d (link.sl), .d (.int .i64), .d (.int .i64)], bl := [(0, .row 34 (link))] }
@[reducible] def p16_1 : LP := { n := 58, sl := [.c (Leaf.row ( 0)), .c (Leaf.ptr ( 1) ( 0)), .d (link.sl), .d (.int .i64), .d (.int .i64), .d (celk.sl), .d (.int .i64), .d (.int .i64)], bl := [(0, .row 34 (link)), (1, .box [.c (Leaf.row ( 2)), .d (Kd.bool)]), (2, .row 48 (celk))] }
def B16_1 (x2 : List Line) (x3 : Int) (x4 : Int) (x5 : List Cell) (x6 : Int) (x7 : Int) (h0 : List Line) (h1_1 : Bool) (h2 : List Cell) : Tr (p16_1.T ⊕ (List Line × Int × Int × List Line × Bool × List Cell)) :=
  let v1 : Int := ((↑(ByteArray.size (rget celk x5 x7).fst) : Int))
  let v2 : Int := (minI v1 (20 : Int))
  Tr.ite (decide (x7 < x6))
    (Tr.ite (inB x7 x5.length)
      (Tr.ite (decide ((0 : Int) ≤ v2 ∧ v2 ≤ v1))
        (Tr.ite (decide ((h2.length + (1 : Nat)) * (48 : Nat) ≤ (140737488355328 : Nat)))
          (Tr.ret
            (Sum.inl ((x2, x3, x4, x5, x6, IntKind.i64.wrap (x7 + (1 : Int)), ()), h0, (h1_1, ()), h2 ++ [(ByteArray.extract (rget celk x5 x7).fst (0 : Nat) v2.toNat, (rget celk x5 x7).snd)], ())))
          Tr.fail)
        Tr.fail)
      Tr.fail)
    (Tr.ret (Sum.inr (x2, x3, x4, h0, h1_1, h2)))
def X16_1 (r : (List Line × Int × Int × List Line × Bool × List Cell)) : Ex × VS := Prod.mk (Ex.exit ( 2)) { n := 58, v := [Slot.av (AV.one (Leaf.row ( 0))), Slot.av (AV.one (Leaf.ptr ( 1) ( 0))), Slot.av (AV.one (Leaf.dat link.sl r.fst)), Slot.av (AV.one (Leaf.dat (.int .i64) r.snd.fst)), Slot.av (AV.one (Leaf.dat (.int .i64) r.snd.snd.fst))], h := [( 0, Blk.row ( 34) link r.snd.snd.snd.fst), ( 1, Blk.box [Leaf.row ( 2), Leaf.dat Kd.bool r.snd.snd.snd.snd.fst]), ( 2, Blk.row ( 48) celk r.snd.snd.snd.snd.snd)] }
def b16_1 : p16_1.T → Tr (p16_1.T ⊕ (List Line × Int × Int × List Line × Bool × List Cell)) := fun ⟨⟨x2, ⟨x3, ⟨x4, ⟨x5, ⟨x6, ⟨x7, _⟩⟩⟩⟩⟩⟩, ⟨h0, ⟨⟨h1_1, _⟩, ⟨h2, _⟩⟩⟩⟩ => B16_1 x2 x3 x4 x5 x6 x7 h0 h1_1 h2
theorem h16_1 (ls : Nat → VS → Option (Tr (Ex × VS))) (x : p16_1.T) : (evC (evI 2) (lc Tryd.f16 1) (Env.lend (M16 ls) 0) (unV (live16 7) (p16_1.V x))).map (decL 0 (live16 7) (live16 1007)) = (b16_1 x).map (encR p16_1.V X16_1) := by
  obtain ⟨⟨x2, ⟨x3, ⟨x4, ⟨x5, ⟨x6, ⟨x7, _⟩⟩⟩⟩⟩⟩, ⟨h0, ⟨⟨h1_1, _⟩, ⟨h2, _⟩⟩⟩⟩ := x; kernel_rfl
theorem c16_1 (x : p16_1.T) : canV 0 (live16 7) (unV (live16 7) (p16_1.V x)) = p16_1.V x := by
  obtain ⟨⟨x2, ⟨x3, ⟨x4, ⟨x5, ⟨x6, ⟨x7, _⟩⟩⟩⟩⟩⟩, ⟨h0, ⟨⟨h1_1, _⟩, ⟨h2, _⟩⟩⟩⟩ := x; kernel_rfl
theorem l16_1 {T : p16_1.T → Tr (List Line × Int × Int × List Line × Bool × List Cell)} {ls : Nat → VS → Option (Tr (Ex × VS))} (hls : ∀ x, (Env.lend (M16 ls) 0).ls 7 x = p16_1.ls (fun a => (T a).map X16_1) x) (hS : ∀ x r, (T x).val = some r → Rounds b16_1 x r) : LoopOK (evI 2) (Env.lend (M16 ls) 0) (lc Tryd.f16 1) :=
  loopA 7 (live16 7) (live16 1007) p16_1 b16_1 X16_1 T (by kernel_rfl) rfl rfl hls (h16_1 ls) c16_1 hS
end Go.Proofs.YtmnbcnhpklejcaaDoor
namespace U
def cutC (c : Cl) : Cl := (c.1.extract 0 (min c.1.size 20), c.2)
def cutL (l : List Cl) : List Cl := (l.take 82).map cutC
def few (l : List Ln) (n : Nat) : List Ln := (l.take n).map fun x => (cutL x.1, x.2.1, ())
end U
namespace Go.Proofs.YtmnbcnhpklejcaaDoor
theorem minI_nat (a b : Nat) : minI (a : Int) (b : Int) = ((min a b : Nat) : Int) := by unfold minI; split <;> omega
def T16_1 (x : p16_1.T) : Tr (List Line × Int × Int × List Line × Bool × List Cell) :=
  .ite (decide ((x.1.2.2.2.2.1 : Int) = (List.length (α := Cell) x.1.2.2.2.1 : Int) ∧ (x.1.2.2.2.2.2.1 : Int) = 0 ∧ List.length (α := Cell) x.2.2.2.1 + List.length (α := Cell) x.1.2.2.2.1 ≤ 1048576))
    (.ret (x.1.1, x.1.2.1, x.1.2.2.1, x.2.1, x.2.2.1.1, x.2.2.2.1 ++ List.map (α := Cell) (β := Cell) U.cutC x.1.2.2.2.1)) .fail
abbrev N16 (ls : Nat → VS → Option (Tr (Ex × VS))) : Env := M16 fun key x => bif Nat.beq key 7 then p16_1.ls (fun a => (T16_1 a).map X16_1) x else ls key x
theorem L16_1 {ls : Nat → VS → Option (Tr (Ex × VS))} : LoopOK (evI 2) ((N16 ls).lend 0) (lc Tryd.f16 1) := by
  refine l16_1 (T := T16_1) (fun x => rfl) ?_
  rintro ⟨⟨x2, x3, x4, l, n, i, z⟩, h0, ⟨h1, z1⟩, h2, z2⟩ r h
  obtain ⟨g1, g2⟩ := pre_val h
  obtain ⟨e1, e2, e3⟩ := of_decide_eq_true g1
  dsimp only at e1 e2 e3 g2
  subst e1; subst e2
  cases g2
  have := Rounds.fold0 (B := b16_1) (σ := List Cell) l (fun i s => ((x2, x3, x4, l, (l.length : Int), (i : Int), ()), h0, (h1, ()), s, ())) (fun s c => s ++ [U.cutC c]) (fun s => (x2, x3, x4, h0, h1, s)) (fun i s => s.length + (l.length - i) ≤ 1048576) h2 (by omega) (fun i s hi hv => ?_) (fun s hv => ?_)
  · have e : ∀ (l : List Cell) (a : List Cell), l.foldl (fun s c => s ++ [U.cutC c]) a = a ++ l.map U.cutC := by
      intro l
      induction l with
      | nil => intro a; simp
      | cons x l ih => intro a; rw [List.foldl_cons, ih]; simp
    rw [e] at this
    exact this
  · have e : rget celk l (i : Int) = l[i] := by rw [rgetC]; exact getD_el hi
    have e6 : minI (l[i].1.size : Int) 20 = ((min l[i].1.size 20 : Nat) : Int) := minI_nat _ 20
    have e7 : (0 : Int) ≤ ((min l[i].1.size 20 : Nat) : Int) ∧ ((min l[i].1.size 20 : Nat) : Int) ≤ (l[i].1.size : Int) := by omega
    have e8 : (s.length + 1) * 48 ≤ 140737488355328 := by omega
    refine ⟨?_, by simp only [List.length_append, List.length_singleton]; omega⟩
    simp only [b16_1, B16_1, Tr.val, e, e6, e7, e8, inB_nat hi, Int.toNat_natCast, List.length_singleton, show ((i : Int) < (l.length : Int)) by omega, and_self, decide_true, cond_true, wrap64_nat (show i ≤ 1048576 by omega)]
    rfl
  · simp only [b16_1, B16_1, Tr.val, show ¬ ((l.length : Int) < (l.length : Int)) by omega, decide_false, cond_false]
def B16_0 (x1 : List Line) (x2 : Int) (x3 : Int) (h0 : List Line) : Tr (p16_0.T ⊕ (List Line)) :=
  let v1 : Int := ((↑(List.length (rget link x1 x3).fst) : Int))
  let v2 : Int := (minI v1 (82 : Int))
  let v3 : List Cell := (sub (rget link x1 x3).fst (0 : Nat) v2.toNat)
  let v4 : Int := ((↑v3.length : Int))
  let v5 : Int := ((↑v3.length : Int))
  Tr.ite (decide (x3 < x2))
    (Tr.ite (inB x3 x1.length)
      (Tr.ite (decide ((0 : Int) ≤ v2 ∧ v2 ≤ v1))
        (Tr.ite (decide (v5 = v4 ∧ (0 : Int) = (0 : Int) ∧ (0 : Nat) + v3.length ≤ (1048576 : Nat)))
          (Tr.ite (decide ((h0.length + (1 : Nat)) * (32 : Nat) ≤ (140737488355328 : Nat)))
            (Tr.ret (Sum.inl ((x1, x2, IntKind.i64.wrap (x3 + (1 : Int)), ()), h0 ++ [(List.map U.cutC v3, (rget link x1 x3).snd)], ()))) Tr.fail)
          Tr.fail)
        Tr.fail)
      Tr.fail)
    (Tr.ret (Sum.inr h0))
def X16_0 (r : (List Line)) : Ex × VS := Prod.mk (Ex.exit ( 0)) { n := 58, v := [Slot.av (AV.one (Leaf.row ( 0)))], h := [( 0, Blk.row ( 34) link r)] }
def b16_0 : p16_0.T → Tr (p16_0.T ⊕ (List Line)) := fun ⟨⟨x1, ⟨x2, ⟨x3, _⟩⟩⟩, ⟨h0, _⟩⟩ => B16_0 x1 x2 x3 h0
theorem h16_0 (ls : Nat → VS → Option (Tr (Ex × VS))) (x : p16_0.T) : (evC (evI 2) (lc Tryd.f16 0) (Env.lend (N16 ls) 0) (unV (live16 3) (p16_0.V x))).map (decL 0 (live16 3) (live16 1003)) = (b16_0 x).map (encR p16_0.V X16_0) := by
  obtain ⟨⟨x1, ⟨x2, ⟨x3, _⟩⟩⟩, ⟨h0, _⟩⟩ := x; kernel_rfl
theorem c16_0 (x : p16_0.T) : canV 0 (live16 3) (unV (live16 3) (p16_0.V x)) = p16_0.V x := by
  obtain ⟨⟨x1, ⟨x2, ⟨x3, _⟩⟩⟩, ⟨h0, _⟩⟩ := x; kernel_rfl
theorem l16_0 {T : p16_0.T → Tr (List Line)} {ls : Nat → VS → Option (Tr (Ex × VS))} (hls : ∀ x, (Env.lend (N16 ls) 0).ls 3 x = p16_0.ls (fun a => (T a).map X16_0) x) (hS : ∀ x r, (T x).val = some r → Rounds b16_0 x r) : LoopOK (evI 2) (Env.lend (N16 ls) 0) (lc Tryd.f16 0) :=
  loopA 3 (live16 3) (live16 1003) p16_0 b16_0 X16_0 T (by kernel_rfl) rfl rfl hls (h16_0 ls) c16_0 hS
def T16_0 (x : p16_0.T) : Tr (List Line) :=
  .ite (decide ((x.1.2.1 : Int) = (List.length (α := Line) x.1.1 : Int) ∧ (x.1.2.2.1 : Int) = 0 ∧ List.length (α := Line) x.2.1 + List.length (α := Line) x.1.1 ≤ 1048576))
    (.ret (x.2.1 ++ List.map (α := Line) (β := Line) (fun y => (U.cutL y.1, y.2.1, ())) x.1.1)) .fail
abbrev E16 : Env := N16 fun key x => bif Nat.beq key 3 then p16_0.ls (fun a => (T16_0 a).map X16_0) x else none
theorem L16_0 : LoopOK (evI 2) (E16.lend 0) (lc Tryd.f16 0) := by
  refine l16_0 (T := T16_0) (fun x => rfl) ?_
  rintro ⟨⟨l, n, i, z⟩, h0, z2⟩ r h
  obtain ⟨g1, g2⟩ := pre_val h
  obtain ⟨e1, e2, e3⟩ := of_decide_eq_true g1
  dsimp only at e1 e2 e3 g2
  subst e1; subst e2
  cases g2
  have := Rounds.fold0 (B := b16_0) (σ := List Line) l (fun i s => ((l, (l.length : Int), (i : Int), ()), s, ())) (fun s y => s ++ [(U.cutL y.1, y.2.1, ())]) (fun s => s) (fun i s => s.length + (l.length - i) ≤ 1048576) h0 (by omega) (fun i s hi hv => ?_) (fun s hv => ?_)
  · have e : ∀ (l : List Line) (a : List Line), l.foldl (fun s y => s ++ [(U.cutL y.1, y.2.1, ())]) a = a ++ l.map (fun y => (U.cutL y.1, y.2.1, ())) := by
      intro l
      induction l with
      | nil => intro a; simp
      | cons x l ih => intro a; rw [List.foldl_cons, ih]; simp
    rw [e] at this
    exact this
  · have e : rget link l (i : Int) = l[i] := by rw [rgetL]; exact getD_el hi
    have e6 : minI (l[i].1.length : Int) 82 = ((min l[i].1.length 82 : Nat) : Int) := minI_nat _ 82
    have e7 : (0 : Int) ≤ ((min l[i].1.length 82 : Nat) : Int) ∧ ((min l[i].1.length 82 : Nat) : Int) ≤ (l[i].1.length : Int) := by omega
    have e8 : (s.length + 1) * 32 ≤ 140737488355328 := by omega
    have e9 : sub l[i].1 0 (min l[i].1.length 82) = l[i].1.take 82 := by
      unfold sub
      rw [List.drop_zero]
      rcases Nat.le_total l[i].1.length 82 with h | h
      · rw [Nat.min_eq_left h, List.take_length, List.take_of_length_le h]
      · rw [Nat.min_eq_right h]
    have e10 : 0 + (l[i].1.take 82).length ≤ 1048576 := by rw [List.length_take]; omega
    refine ⟨?_, by simp only [List.length_append, List.length_singleton]; omega⟩
    simp only [b16_0, B16_0, Tr.val, e, e6, e7, e8, e9, e10, inB_nat hi, Int.toNat_natCast, List.length_singleton, List.length_nil, show ((i : Int) < (l.length : Int)) by omega, and_self, decide_true, cond_true, wrap64_nat (show i ≤ 1048576 by omega)]
    rfl
  · simp only [b16_0, B16_0, Tr.val, show ¬ ((l.length : Int) < (l.length : Int)) by omega, decide_false, cond_false]
def d16 (a : List Line) (b : Int) : Tr (List Line) :=
  let v1 : Int := ((↑a.length : Int))
  let v2 : List Line := (sub a (0 : Nat) (minI v1 b).toNat)
  let v3 : Int := ((↑v2.length : Int))
  let v4 : Int := ((↑v2.length : Int))
  Tr.ite (decide ((0 : Int) ≤ minI v1 b ∧ minI v1 b ≤ v1))
    (Tr.ite (decide (v4 = v3 ∧ (0 : Int) = (0 : Int) ∧ (0 : Nat) + v2.length ≤ (1048576 : Nat))) (Tr.ret (List.map (fun (y : Line) => (U.cutL y.fst, y.snd.fst, ())) v2)) Tr.fail) Tr.fail
def e16 (r : List Line) : FRes := { rs := Slot.av (AV.one (Leaf.dat link.sl r)), upd := [], new := [] }
@[reducible] def a16 : List AK := [AK.d link.sl, AK.d (.int .i64)]
@[reducible] def b16 : List BK := []
theorem t16 (a : List Line) (b : Int) : evFn (E16) Tryd.f16 [PM.data link.sl] (akAV a16 (a, b, ())) (bkBs b16 ()) = (d16 a b).map e16 := by kernel_rfl
def s16 (C : akT a16 → Bool) (G : akT a16 → List Line) : FSpec := aspec a16 b16 e16 (fun x _ => C x) (fun x _ => G x)
def s16' (G : akT a16 → List Line) : FSpec := aspec0 a16 b16 e16 (fun x _ => G x)
theorem k16 {C : akT a16 → Bool} {G : akT a16 → List Line} (hd : ∀ (a : List Line) (b : Int), C (a, b, ()) = true → (d16 a b).val = some (G (a, b, ()))) (IO : ItOK Tryd.prog (E16) := by exact itOK_none rfl) (L : ∀ c, Tryd.f16.body = some c → LsOK (evI 2) ((E16).lend 0) c := by exact fun c _ => LsOK_none rfl c) : SpecOK Tryd.prog E0 16 (s16 C G) :=
  aspec_ok (ak := a16) (bl := b16) (e := e16) (c := fun x _ => C x) (g := fun x _ => G x) (E0 := E0) (E := E16) tab .nil rfl rfl hm Tryd.func16 (by kernel_rfl) [PM.data link.sl] (fun X Y H => by obtain ⟨a, ⟨b, _⟩⟩ := X; exact val_of (t16 a b) (hd a b H)) IO L
theorem k16' {G : akT a16 → List Line} (hd : ∀ (a : List Line) (b : Int), (d16 a b).val = some (G (a, b, ()))) (IO : ItOK Tryd.prog (E16) := by exact itOK_none rfl) (L : ∀ c, Tryd.f16.body = some c → LsOK (evI 2) ((E16).lend 0) c := by exact fun c _ => LsOK_none rfl c) : SpecOK Tryd.prog E0 16 (s16' G) :=
  aspec0_ok (ak := a16) (bl := b16) (e := e16) (g := fun x _ => G x) (E0 := E0) (E := E16) tab .nil rfl rfl hm Tryd.func16 (by kernel_rfl) [PM.data link.sl] (fun X Y => by obtain ⟨a, ⟨b, _⟩⟩ := X; exact val_of (t16 a b) (hd a b)) IO L
abbrev w16 : FSpec := s16 (fun x => decide (0 ≤ (x.2.1 : Int) ∧ (x.2.1 : Int) ≤ 1000)) fun x => U.few x.1 x.2.1.toNat
theorem wk16 : SpecOK Tryd.prog E0 16 w16 := by
  refine k16 (fun l n H => ?_) (L := ls_ok (lcs := [lc Tryd.f16 0, lc Tryd.f16 1]) (rgs := []) (by kernel_rfl) (by kernel_rfl) ⟨L16_0, L16_1⟩ trivial)
  obtain ⟨h1, h2⟩ : 0 ≤ n ∧ n ≤ 1000 := of_decide_eq_true H
  obtain ⟨m, rfl⟩ := Int.eq_ofNat_of_zero_le h1
  show _ = some (U.few l m)
  have e6 : minI (l.length : Int) (m : Int) = ((min l.length m : Nat) : Int) := minI_nat _ _
  have e7 : (0 : Int) ≤ ((min l.length m : Nat) : Int) ∧ ((min l.length m : Nat) : Int) ≤ (l.length : Int) := by omega
  have e9 : sub l 0 (min l.length m) = l.take m := by
    unfold sub
    rw [List.drop_zero]
    rcases Nat.le_total l.length m with h | h
    · rw [Nat.min_eq_left h, List.take_length, List.take_of_length_le h]
    · rw [Nat.min_eq_right h]
  have e10 : 0 + (l.take m).length ≤ 1048576 := by rw [List.length_take]; omega
  simp only [d16, Tr.val, e6, e7, e9, e10, Int.toNat_natCast, List.length_nil, and_self, decide_true, cond_true, List.nil_append]
  rfl
def d15 (a1 : Int) (a2 : List Line) : Tr (Int × List U.Ln) :=
  Tr.ite true (Tr.ret (a1, U.few a2 (42 : Nat))) Tr.fail
def e15 (r : Int × List U.Ln) : FRes := { rs := Slot.av (AV.agg [Leaf.dat (.int .i64) r.fst, Leaf.dat link.sl r.snd]), upd := [], new := [] }
@[reducible] def a15 : List AK := [AK.d bakk]
@[reducible] def b15 : List BK := []
theorem t15 (a1 : Int) (a2 : List Line) : evFn (E0.withFns [((16 : Nat), w16)]) Tryd.f15 [PM.data bakk] (akAV a15 ((a1, a2, ()), ())) (bkBs b15 ()) = (d15 a1 a2).map e15 := by kernel_rfl
def s15 (C : akT a15 → Bool) (G : akT a15 → Int × List U.Ln) : FSpec := aspec a15 b15 e15 (fun x _ => C x) (fun x _ => G x)
def s15' (G : akT a15 → Int × List U.Ln) : FSpec := aspec0 a15 b15 e15 (fun x _ => G x)
theorem k15 {C : akT a15 → Bool} {G : akT a15 → Int × List U.Ln} (hd : ∀ (a1 : Int) (a2 : List Line), C ((a1, a2, ()), ()) = true → (d15 a1 a2).val = some (G ((a1, a2, ()), ()))) (IO : ItOK Tryd.prog (E0.withFns [((16 : Nat), w16)]) := by exact itOK_none rfl) (L : ∀ c, Tryd.f15.body = some c → LsOK (evI 2) ((E0.withFns [((16 : Nat), w16)]).lend 0) c := by exact fun c _ => LsOK_none rfl c) : SpecOK Tryd.prog E0 15 (s15 C G) :=
  aspec_ok (ak := a15) (bl := b15) (e := e15) (c := fun x _ => C x) (g := fun x _ => G x) (E0 := E0) (E := E0.withFns [((16 : Nat), w16)]) tab (.cons wk16 .nil) rfl rfl hm Tryd.func15 (by kernel_rfl) [PM.data bakk] (fun X Y H => by obtain ⟨⟨a1, ⟨a2, _⟩⟩, _⟩ := X; exact val_of (t15 a1 a2) (hd a1 a2 H)) IO L
theorem k15' {G : akT a15 → Int × List U.Ln} (hd : ∀ (a1 : Int) (a2 : List Line), (d15 a1 a2).val = some (G ((a1, a2, ()), ()))) (IO : ItOK Tryd.prog (E0.withFns [((16 : Nat), w16)]) := by exact itOK_none rfl) (L : ∀ c, Tryd.f15.body = some c → LsOK (evI 2) ((E0.withFns [((16 : Nat), w16)]).lend 0) c := by exact fun c _ => LsOK_none rfl c) : SpecOK Tryd.prog E0 15 (s15' G) :=
  aspec0_ok (ak := a15) (bl := b15) (e := e15) (g := fun x _ => G x) (E0 := E0) (E := E0.withFns [((16 : Nat), w16)]) tab (.cons wk16 .nil) rfl rfl hm Tryd.func15 (by kernel_rfl) [PM.data bakk] (fun X Y => by obtain ⟨⟨a1, ⟨a2, _⟩⟩, _⟩ := X; exact val_of (t15 a1 a2) (hd a1 a2)) IO L
abbrev w15 : FSpec := s15' fun x => (x.1.1, U.few x.1.2.1 42)
theorem wk15 : SpecOK Tryd.prog E0 15 w15 := by
  refine k15' fun n l => ?_
  rfl
end Go.Proofs.YtmnbcnhpklejcaaDoor
