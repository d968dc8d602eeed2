/- Part 4 of what the proof leans on: an evaluator of Go code over plain data, with its soundness; contracts of functions; laws of plain data. -/
import Derived.Lib.MakeNoZero
import Derived.Test.YtmnbcnhpklejcaaDoorZq3
section
set_option linter.unusedVariables false
set_option linter.unusedSimpArgs false
set_option maxRecDepth 20000
set_option maxHeartbeats 4000000
open Go Go.Ev
namespace Go.Proofs.YtmnbcnhpklejcaaDoor
open Go.RowKit
def d147 : Tr (ByteArray × Int × Int × Int × Int) :=
 Tr.ret (ByteArray.empty, (1 : Int), (0 : Int), (0 : Int), (0 : Int))
def e147 (r : ByteArray × Int × Int × Int × Int) : FRes := { rs := Slot.av (AV.agg [Leaf.dat Kd.str r.fst, Leaf.dat (.int .i64) r.snd.fst, Leaf.dat (.int .i64) r.snd.snd.fst, Leaf.dat (.int .i64) r.snd.snd.snd.fst, Leaf.dat (.int .i64) r.snd.snd.snd.snd]), upd := [], new := [] }
@[reducible] def a147 : List AK := []
@[reducible] def b147 : List BK := []
theorem t147 : evFn (Env.withFns E0 [((88 : Nat), w88)]) Tryd.f147 [PM.data celk] (akAV a147 ()) (bkBs b147 ()) = (d147).map e147 := by kernel_rfl
def s147' (G : akT a147 → ByteArray × Int × Int × Int × Int) : FSpec := aspec0 a147 b147 e147 (fun x _ => G x)
theorem k147' {G : akT a147 → ByteArray × Int × Int × Int × Int} (hd : (d147).val = some (G ())) (IO : ItOK Tryd.prog (Env.withFns E0 [((88 : Nat), w88)]) := by exact itOK_none rfl) (L : ∀ c, Tryd.f147.body = some c → LsOK (evI 2) ((Env.withFns E0 [((88 : Nat), w88)]).lend 0) c := by exact fun c _ => LsOK_none rfl c) : SpecOK Tryd.prog E0 147 (s147' G) :=
  aspec0_ok (ak := a147) (bl := b147) (e := e147) (g := fun x _ => G x) (E0 := E0) (E := Env.withFns E0 [((88 : Nat), w88)]) tab (.cons wk88 .nil) rfl rfl hm Tryd.func147 (by kernel_rfl) [PM.data celk] (fun X Y => by exact val_of (t147) (hd)) IO L
abbrev w147 : FSpec := s147' fun _ => (ByteArray.empty, (1 : Int), (0 : Int), (0 : Int), (0 : Int))
theorem wk147 : SpecOK Tryd.prog E0 147 w147 := k147' rfl
def live110 (key : Nat) : Lv :=
  bif Nat.beq key 1 then { ls := [0] } else bif Nat.beq key 1001 then { ls := [0] } else
  { ls := [] }
abbrev M110 (ls : Nat → VS → Option (Tr (Ex × VS))) : Env := (E0.withFns [(147, w147)]).loops live110 ls
@[reducible] def p110_0 : LP := { n := 22, sl := [.d (Kd.sl celk)], bl := [] }
def B110_0 (x0 : List Cell) : Tr (p110_0.T ⊕ (List Cell)) :=
 let v1 : Int := ((↑(List.length x0) : Int))
 let v2 : Int := (IntKind.wrap IntKind.i64 (v1 - (1 : Int)))
 Tr.ite (decide ((0 : Int) < v1)) (Tr.ite (inB v2 (List.length x0)) (Tr.ite (decide ((rget celk x0 v2).fst = ByteArray.empty) && (decide ((rget celk x0 v2).snd.fst = (1 : Int)) && (decide ((rget celk x0 v2).snd.snd.fst.fst = (0 : Int)) && (decide ((rget celk x0 v2).snd.snd.fst.snd.fst = (0 : Int)) && decide ((rget celk x0 v2).snd.snd.fst.snd.snd.fst = (0 : Int)))))) (Tr.ite (decide ((0 : Int) ≤ v2 ∧ v2 ≤ v1)) (Tr.ret (Sum.inl ((sub x0 (0 : Nat) (Int.toNat v2), ()), ()))) Tr.fail) (Tr.ret (Sum.inr x0))) Tr.fail) (Tr.ret (Sum.inr x0))
def X110_0 (r : (List Cell)) : Ex × VS := Prod.mk (Ex.exit ( 0)) { n := 22, v := [Slot.av (AV.one (Leaf.dat (Kd.sl celk) r))], h := [] }
def b110_0 : p110_0.T → Tr (p110_0.T ⊕ (List Cell)) := fun ⟨⟨x0, _⟩, _⟩ => B110_0 x0
theorem h110_0 (ls : Nat → VS → Option (Tr (Ex × VS))) (x : p110_0.T) : (evC (evI 2) (lc Tryd.f110 0) (Env.lend (M110 ls) 0) (unV (live110 1) (p110_0.V x))).map (decL 0 (live110 1) (live110 1001)) = (b110_0 x).map (encR p110_0.V X110_0) := by
  obtain ⟨⟨x0, _⟩, _⟩ := x; kernel_rfl
theorem c110_0 (x : p110_0.T) : canV 0 (live110 1) (unV (live110 1) (p110_0.V x)) = p110_0.V x := by
  obtain ⟨⟨x0, _⟩, _⟩ := x; kernel_rfl
theorem l110_0 {T : p110_0.T → Tr (List Cell)} {ls : Nat → VS → Option (Tr (Ex × VS))} (hls : ∀ x, (Env.lend (M110 ls) 0).ls 1 x = p110_0.ls (fun a => (T a).map X110_0) x) (hS : ∀ x r, (T x).val = some r → Rounds b110_0 x r) : LoopOK (evI 2) (Env.lend (M110 ls) 0) (lc Tryd.f110 0) :=
  loopA 1 (live110 1) (live110 1001) p110_0 b110_0 X110_0 T (by kernel_rfl) rfl rfl hls (h110_0 ls) c110_0 hS
end Go.Proofs.YtmnbcnhpklejcaaDoor
namespace U
def isNone (c : ByteArray × Int × (Int × Int × Int × Unit) × Unit) : Bool := decide (c.1 = ByteArray.empty) && (decide (c.2.1 = 1) && (decide (c.2.2.1.1 = 0) && (decide (c.2.2.1.2.1 = 0) && decide (c.2.2.1.2.2.1 = 0))))
def trimR (l : List (ByteArray × Int × (Int × Int × Int × Unit) × Unit)) : List (ByteArray × Int × (Int × Int × Int × Unit) × Unit) := (l.reverse.dropWhile isNone).reverse
theorem trimR_snoc (l : List (ByteArray × Int × (Int × Int × Int × Unit) × Unit)) (a : ByteArray × Int × (Int × Int × Int × Unit) × Unit) : trimR (l ++ [a]) = bif isNone a then trimR l else l ++ [a] := by
  unfold trimR
  rw [List.reverse_append, List.reverse_singleton, List.singleton_append, List.dropWhile_cons]
  cases isNone a
  · simp
  · simp
end U
namespace Go.Proofs.YtmnbcnhpklejcaaDoor
def T110 (x : p110_0.T) : Tr (List Cell) := .ite (decide (List.length (α := Cell) x.1.1 ≤ 1048576)) (.ret (U.trimR x.1.1)) .fail
abbrev E110 : Env := M110 fun key x => bif Nat.beq key 1 then p110_0.ls (fun a => (T110 a).map X110_0) x else none
theorem R110 : ∀ (n : Nat) (l : List Cell), l.length = n → n ≤ 1048576 → Rounds b110_0 ((l, ()), ()) (U.trimR l)
  | 0, l, h, _ => by
    have e : l = [] := List.eq_nil_of_length_eq_zero h
    subst e
    exact .exit (by simp [b110_0, B110_0, Tr.val, U.trimR])
  | n + 1, l, h, hn => by
    rcases List.eq_nil_or_concat l with rfl | ⟨L, a, rfl⟩
    · cases h
    · rw [List.concat_eq_append] at h ⊢
      have hL : L.length = n := by rw [List.length_append, List.length_singleton] at h; omega
      have e0 : (L ++ [a]).length = L.length + 1 := by rw [List.length_append, List.length_singleton]
      have e1 : IntKind.wrap IntKind.i64 (((L.length + 1 : Nat) : Int) - 1) = (L.length : Int) := by rw [Go.Ev.w64 (by omega) (by omega)]; omega
      have e2 : rget celk (L ++ [a]) (L.length : Int) = a := by
        rw [rgetC, getD_el (by rw [e0]; omega)]
        simp
      have e3 : sub (L ++ [a]) 0 (Int.toNat (L.length : Int)) = L := by
        unfold sub
        rw [Int.toNat_natCast, List.drop_zero, List.take_left]
      have e4 : decide ((0 : Int) ≤ (L.length : Int) ∧ (L.length : Int) ≤ ((L.length + 1 : Nat) : Int)) = true := decide_eq_true (by omega)
      have e5 : decide ((0 : Int) < ((L.length + 1 : Nat) : Int)) = true := decide_eq_true (by omega)
      have e6 : inB (L.length : Int) (L.length + 1) = true := inB_nat (by omega)
      have hv : (b110_0 ((L ++ [a], ()), ())).val = bif U.isNone a then some (.inl ((L, ()), ())) else some (.inr (L ++ [a])) := by
        simp only [b110_0, B110_0, Tr.val, e0, e1, e2, e3, e4, e5, e6, cond_true]
        rfl
      rw [U.trimR_snoc]
      cases hb : U.isNone a with
      | true =>
        rw [hb] at hv
        exact .step hv (R110 n L hL (by omega))
      | false =>
        rw [hb] at hv
        exact .exit hv
theorem L110 : LoopOK (evI 2) (E110.lend 0) (lc Tryd.f110 0) := by
  refine l110_0 (T := T110) (fun x => rfl) ?_
  rintro ⟨⟨l, z⟩, z1⟩ r hh
  obtain ⟨g1, g2⟩ := pre_val hh
  have g1 : l.length ≤ 1048576 := of_decide_eq_true g1
  cases g2
  exact R110 _ l rfl g1
def d110 (a : List Cell) : Tr (List Cell) :=
 Tr.ite (decide (List.length a ≤ (1048576 : Nat))) (Tr.ret (U.trimR a)) Tr.fail
def e110 (r : List Cell) : FRes := { rs := Slot.av (AV.one (Leaf.dat (Kd.sl celk) r)), upd := [], new := [] }
@[reducible] def a110 : List AK := [AK.d (Kd.sl celk)]
@[reducible] def b110 : List BK := []
theorem t110 (a : List Cell) : evFn (E110) Tryd.f110 [PM.data (Kd.sl celk)] (akAV a110 (a, ())) (bkBs b110 ()) = (d110 a).map e110 := by kernel_rfl
def s110 (C : akT a110 → Bool) (G : akT a110 → List Cell) : FSpec := aspec a110 b110 e110 (fun x _ => C x) (fun x _ => G x)
theorem k110 {C : akT a110 → Bool} {G : akT a110 → List Cell} (hd : ∀ (a : List Cell), C (a, ()) = true → (d110 a).val = some (G (a, ()))) (IO : ItOK Tryd.prog (E110) := by exact itOK_none rfl) (L : ∀ c, Tryd.f110.body = some c → LsOK (evI 2) ((E110).lend 0) c := by exact fun c _ => LsOK_none rfl c) : SpecOK Tryd.prog E0 110 (s110 C G) :=
  aspec_ok (ak := a110) (bl := b110) (e := e110) (c := fun x _ => C x) (g := fun x _ => G x) (E0 := E0) (E := E110) tab (.cons wk147 .nil) rfl rfl hm Tryd.func110 (by kernel_rfl) [PM.data (Kd.sl celk)] (fun X Y H => by obtain ⟨a, _⟩ := X; exact val_of (t110 a) (hd a H)) IO L
abbrev w110 : FSpec := s110 (fun x => decide (List.length (α := Cell) x.1 ≤ 1048576)) fun x => U.trimR x.1
theorem wk110 : SpecOK Tryd.prog E0 110 w110 := by
  refine k110 (fun l H => ?_) (L := ls_ok (lcs := [lc Tryd.f110 0]) (rgs := []) (by kernel_rfl) (by kernel_rfl) L110 trivial)
  have H : l.length ≤ 1048576 := of_decide_eq_true H
  simp only [d110, Tr.val, H, decide_true, cond_true]
end Go.Proofs.YtmnbcnhpklejcaaDoor
end
section
set_option linter.unusedVariables false
set_option linter.unusedSimpArgs false
set_option maxRecDepth 20000
set_option maxHeartbeats 4000000
open Go Go.Ev
namespace Go.Proofs.YtmnbcnhpklejcaaDoor
open Go.RowKit
def d146 (a : List Line) (b : Int) : Tr (List Line × Int) :=
 Tr.ite (decide (b < (1 : Int))) Tr.fail (Tr.ret (a, b))
def e146 (r : List Line × Int) : FRes := { rs := Slot.av (AV.one (Leaf.fn ( 160) [0, 1])), upd := [], new := [Blk.box [Leaf.dat (Kd.sl link) r.fst], Blk.box [Leaf.dat (.int .i64) r.snd]] }
@[reducible] def a146 : List AK := [AK.d (Kd.sl link), AK.d (.int .i64)]
@[reducible] def b146 : List BK := []
theorem t146 (a : List Line) (b : Int) : evFn (E0) Tryd.f146 [PM.raw] (akAV a146 (a, b, ())) (bkBs b146 ()) = (d146 a b).map e146 := by kernel_rfl
def s146 (C : akT a146 → Bool) (G : akT a146 → List Line × Int) : FSpec := aspec a146 b146 e146 (fun x _ => C x) (fun x _ => G x)
theorem k146 {C : akT a146 → Bool} {G : akT a146 → List Line × Int} (hd : ∀ (a : List Line) (b : Int), C (a, b, ()) = true → (d146 a b).val = some (G (a, b, ()))) (IO : ItOK Tryd.prog (E0) := by exact itOK_none rfl) (L : ∀ c, Tryd.f146.body = some c → LsOK (evI 2) ((E0).lend 0) c := by exact fun c _ => LsOK_none rfl c) : SpecOK Tryd.prog E0 146 (s146 C G) :=
  aspec_ok (ak := a146) (bl := b146) (e := e146) (c := fun x _ => C x) (g := fun x _ => G x) (E0 := E0) (E := E0) tab .nil rfl rfl hm Tryd.func146 (by kernel_rfl) [PM.raw] (fun X Y H => by obtain ⟨a, ⟨b, _⟩⟩ := X; exact val_of (t146 a b) (hd a b H)) IO L
def d104 (a : List Line) (b : Bool) : Tr (List Line × Bool) :=
 Tr.ret (a, b)
def e104 (r : List Line × Bool) : FRes := { rs := Slot.av (AV.one (Leaf.fn ( 143) [0, 1])), upd := [], new := [Blk.box [Leaf.dat (Kd.sl link) r.fst], Blk.box [Leaf.dat Kd.bool r.snd]] }
@[reducible] def a104 : List AK := [AK.d (Kd.sl link), AK.d Kd.bool]
@[reducible] def b104 : List BK := []
theorem t104 (a : List Line) (b : Bool) : evFn (E0) Tryd.f104 [PM.raw] (akAV a104 (a, b, ())) (bkBs b104 ()) = (d104 a b).map e104 := by kernel_rfl
def s104' (G : akT a104 → List Line × Bool) : FSpec := aspec0 a104 b104 e104 (fun x _ => G x)
theorem k104' {G : akT a104 → List Line × Bool} (hd : ∀ (a : List Line) (b : Bool), (d104 a b).val = some (G (a, b, ()))) (IO : ItOK Tryd.prog (E0) := by exact itOK_none rfl) (L : ∀ c, Tryd.f104.body = some c → LsOK (evI 2) ((E0).lend 0) c := by exact fun c _ => LsOK_none rfl c) : SpecOK Tryd.prog E0 104 (s104' G) :=
  aspec0_ok (ak := a104) (bl := b104) (e := e104) (g := fun x _ => G x) (E0 := E0) (E := E0) tab .nil rfl rfl hm Tryd.func104 (by kernel_rfl) [PM.raw] (fun X Y => by obtain ⟨a, ⟨b, _⟩⟩ := X; exact val_of (t104 a b) (hd a b)) IO L
abbrev w146 : FSpec := s146 (fun x => decide (1 ≤ (x.2.1 : Int))) fun x => (x.1, x.2.1)
theorem wk146 : SpecOK Tryd.prog E0 146 w146 := k146 fun l n H => by
  have H : 1 ≤ n := of_decide_eq_true H
  simp only [d146, Tr.val, show ¬ (n < 1) by omega, decide_false, cond_false]
abbrev w104 : FSpec := s104' fun x => (x.1, x.2.1)
theorem wk104 : SpecOK Tryd.prog E0 104 w104 := k104' fun l b => rfl
end Go.Proofs.YtmnbcnhpklejcaaDoor
end
section
set_option linter.unusedVariables false
set_option linter.unusedSimpArgs false
set_option maxRecDepth 20000
set_option maxHeartbeats 4000000
open Go Go.Ev
namespace Go.Proofs.YtmnbcnhpklejcaaDoor
open Go.RowKit
abbrev G109 : List (Nat × FSpec) := [(146, w146), (20, w20)]
theorem AG109 : AllFn Tryd.prog E0 G109 := .cons wk146 (.cons wk20 .nil)
def live109 (key : Nat) : Lv := { ls := bif Nat.beq key 100001 then [0, 1, 2, 4] else bif Nat.beq key 502 then [0, 2, 5] else bif Nat.beq key 1502 then [0, 2] else bif Nat.beq key 503 then [0, 2, 5] else bif Nat.beq key 1503 then [0, 2] else [] }
noncomputable def rl109 : RL := { ps := (rg Tryd.f109 0).ps.toList, asg := (rg Tryd.f109 0).asg, body := (rg Tryd.f109 0).body }
noncomputable abbrev M109 (ls : Nat → VS → Option (Tr (Ex × VS))) : Env := ((E0.withFns G109).withIts [(160, Tryd.f160)]).loops live109 ls
def X109 (l0 l : List Line) (r : Bool) : VS := ⟨14, [.av (.one (.dat (.sl link) l0)), .av (.one (.ptr 0 0)), .av (.one (.fn 160 [1, 2]))], [(0, .box [.dat .bool r]), (1, .box [.dat (.sl link) l]), (2, .box [.dat (.int .i64) 40])]⟩
end Go.Proofs.YtmnbcnhpklejcaaDoor
namespace U
def evens (l : List Ln) : Bool := !l.any fun y => odd y.1
end U
namespace Go.Proofs.YtmnbcnhpklejcaaDoor
@[reducible] def p109 : LP := { n := 14, sl := [.d (.sl link), .c (.ptr 0 0), .c (.fn 160 [1, 2])], bl := [(0, .box [.d .bool]), (1, .box [.d (.sl link)]), (2, .box [.d (.int .i64)])] }
def Y109 (l0 : List Line) (r : Bool) : VS := ⟨14, [.av (.one (.dat (.sl link) l0)), .av (.one (.ptr 0 0))], [(0, .box [.dat .bool r])]⟩
def Z109 (l0 : List Line) : VS := ⟨14, [.av (.one (.dat (.sl link) l0)), .av (.one (.ptr 0 0))], [(0, .box [.kb false])]⟩
def T109 (x : p109.T) : Tr (Ex × VS) :=
  match x with
  | ⟨⟨l0, _⟩, ⟨r, _⟩, ⟨l, _⟩, ⟨n, _⟩, _⟩ => .ite (decide ((n : Int) = 40) && U.okl l) (.ite (U.evens l) (.ret (.nrm, Y109 l0 r)) (.ret (.ret, Z109 l0))) .fail
noncomputable abbrev E109 : Env := M109 fun key x => bif Nat.beq key 503 then p109.ls T109 x else none
noncomputable def V160 (l : List Line) (r : Bool) (i : Int) : VS := ⟨31, [.av (.one (.yld 3)), .av (.one (.ptr 1 0)), .av (.one (.ptr 2 0)), .av (.one (.dat (.int .i64) i))], [(0, .box [.dat .bool r]), (1, .box [.dat (.sl link) l]), (2, .box [.dat (.int .i64) 40]), (3, .lrec false none rl109)]⟩
noncomputable abbrev Ei109 (k : Nat) (l0 l : List Line) (r : Bool) : Env := ((E109.lend 0).fueled k).inner 4 (yldR (evI 2 ((E109.lend 0).fueled k).round) (unV { ls := [0, 2, 5] } (X109 l0 l r)).t 3)
noncomputable def Fe (l : List Line) (r : Bool) : VS := ⟨31, [], [(0, .box [.dat .bool r]), (1, .box [.dat (.sl link) l]), (2, .box [.dat (.int .i64) 40]), (3, .lrec false none rl109)]⟩
noncomputable def Fr (l : List Line) : VS := ⟨31, [], [(0, .box [.kb false]), (1, .box [.dat (.sl link) l]), (2, .box [.dat (.int .i64) 40]), (3, .lrec false (some .ret) rl109)]⟩
def end160 (l : List Line) (i : Int) : Int := IntKind.i64.wrap (i + minI 40 ((sub l i.toNat l.length).length : Int))
noncomputable def B160 (l : List Line) (r : Bool) (i : Int) : Tr (Int ⊕ (Ex × VS)) :=
 .ite (decide (i < (l.length : Int))) (.ite (decide ((0 : Int) ≤ i ∧ i ≤ (l.length : Int))) (.ite (decide ((0 : Int) ≤ i ∧ i ≤ end160 l i ∧ end160 l i ≤ (l.length : Int)) && decide (end160 l i = end160 l i)) (.ite (U.okl (sub l i.toNat (end160 l i).toNat)) (.ite (!keepB (40, sub l i.toNat (end160 l i).toNat, ())) (.ret (.inr (.ret, Fr l))) (.ret (.inl (IntKind.i64.wrap (i + 40))))) .fail) .fail) .fail) (.ret (.inr (.exit 0, Fe l r)))
theorem hB160 (k : Nat) (l0 l : List Line) (r : Bool) (i : Int) : (evC (evI 1) (lc Tryd.f160 0) (Ei109 k l0 l r) (unV { ls := [0, 1, 2, 4] } (V160 l r i))).map (decL 4 { ls := [0, 1, 2, 4] } { ls := [] }) = (B160 l r i).map (encL (V160 l r)) := by kernel_rfl
theorem pre160 (k : Nat) (l0 l : List Line) (r : Bool) : (evC (evI 1) (match Tryd.f160.body with | some (.seq x _) => x | _ => .skip) (Ei109 k l0 l r)
    { t := { n := 31, m := argsT 0 [.one (.yld 3), .one (.ptr 1 0), .one (.ptr 2 0)] (Tm.full 10) }, h := (X109 l0 l r).h.set 3 (.lrec false none rl109) }).map (decL 4 { ls := [0, 1, 2, 4] } { ls := [] }) =
    .ret (.inl (V160 l r 0)) := by kernel_rfl
end Go.Proofs.YtmnbcnhpklejcaaDoor
namespace U
open Go.Proofs.YtmnbcnhpklejcaaDoor
theorem okl_part {l : List Ln} (h : okl l = true) (i n : Nat) : okl ((l.drop i).take n) = true := by
  simp only [okl, Bool.and_eq_true, decide_eq_true_eq, List.all_eq_true] at h ⊢
  refine ⟨by rw [List.length_take, List.length_drop]; omega, fun x hx => h.2 x (List.mem_of_mem_drop (List.mem_of_mem_take hx))⟩
theorem evens_app (a b : List Ln) : evens (a ++ b) = (evens a && evens b) := by unfold evens; rw [List.any_append, Bool.not_or]
theorem keep_part (c : List Ln) (h : c.length ≤ 40) : keepB (40, c, ()) = evens c := by
  unfold keepB evens
  have e1 : decide ((0 : Int) ≤ 40) = true := rfl
  have e2 : decide ((40 : Int) ≤ 40) = true := rfl
  have e3 : decide ((c.length : Int) ≤ 40) = true := decide_eq_true (by omega)
  show (decide ((0 : Int) ≤ 40) && (decide ((40 : Int) ≤ 40) && (decide ((c.length : Int) ≤ 40) && !(c.any fun y => odd y.1)))) = _
  rw [e1, e2, e3]
  rfl
end U
namespace Go.Proofs.YtmnbcnhpklejcaaDoor
theorem run160 (l : List Line) (r : Bool) (gk : U.okl l = true) : ∀ (k i : Nat), l.length - i < k → i ≤ l.length + 40 →
    runB (B160 l r) k (i : Int) = some (bif U.evens (l.drop i) then (.exit 0, Fe l r) else (.ret, Fr l))
  | 0, i, h, _ => by omega
  | k + 1, i, h, hi => by
    have hl := U.okl_len gk
    by_cases c : i < l.length
    · have e1 : sub l i l.length = l.drop i := by unfold sub; rw [List.take_length]
      have e2 : minI 40 ((l.drop i).length : Int) = ((min 40 (l.length - i) : Nat) : Int) := by rw [List.length_drop]; exact minI_nat 40 _
      have e3 : end160 l (i : Int) = ((i + min 40 (l.length - i) : Nat) : Int) := by
        unfold end160
        rw [Int.toNat_natCast, e1, e2, Go.Ev.w64 (by omega) (by omega)]
        omega
      have e4 : sub l i (i + min 40 (l.length - i)) = (l.drop i).take 40 := by
        unfold sub
        rw [List.drop_take]
        rcases Nat.le_total 40 (l.length - i) with h' | h'
        · rw [Nat.min_eq_left h']; congr 1; omega
        · rw [Nat.min_eq_right h', List.take_of_length_le (by rw [List.length_drop]; omega), List.take_of_length_le (by rw [List.length_drop]; omega)]
      have c1 : decide ((i : Int) < (l.length : Int)) = true := decide_eq_true (by omega)
      have c2 : decide ((0 : Int) ≤ (i : Int) ∧ (i : Int) ≤ (l.length : Int)) = true := decide_eq_true (by omega)
      have c3 : decide ((0 : Int) ≤ (i : Int) ∧ (i : Int) ≤ ((i + min 40 (l.length - i) : Nat) : Int) ∧ ((i + min 40 (l.length - i) : Nat) : Int) ≤ (l.length : Int)) = true := decide_eq_true (by omega)
      have c4 := U.okl_part gk i 40
      have c5 := U.keep_part ((l.drop i).take 40) (by rw [List.length_take]; omega)
      have e5 : IntKind.i64.wrap ((i : Int) + 40) = ((i + 40 : Nat) : Int) := by rw [Go.Ev.w64 (by omega) (by omega)]; omega
      have e6 : U.evens (l.drop i) = (U.evens ((l.drop i).take 40) && U.evens (l.drop (i + 40))) := by
        rw [← U.evens_app, ← List.drop_drop, List.take_append_drop]
      have hv : (B160 l r (i : Int)).val = bif U.evens ((l.drop i).take 40) then some (.inl ((i + 40 : Nat) : Int)) else some (.inr (.ret, Fr l)) := by
        simp only [B160, Tr.val, e3, e5, Int.toNat_natCast, e4, c1, c2, c3, c4, c5, decide_true, Bool.and_self, cond_true]
        cases U.evens ((l.drop i).take 40) <;> rfl
      rw [e6]
      cases hb : U.evens ((l.drop i).take 40) with
      | true =>
        rw [hb] at hv
        simp only [runB, hv, cond_true, Bool.true_and]
        exact run160 l r gk k (i + 40) (by omega) (by omega)
      | false =>
        rw [hb] at hv
        simp only [runB, hv, cond_false, Bool.false_and]
    · have c1 : decide ((i : Int) < (l.length : Int)) = false := decide_eq_false (by omega)
      have hv : (B160 l r (i : Int)).val = some (.inr (.exit 0, Fe l r)) := by
        simp only [B160, Tr.val, c1, cond_false]
      have e : l.drop i = [] := List.drop_of_length_le (by omega)
      rw [e]
      simp only [runB, hv]
      rfl
theorem range109 : RangeOK (evI 2) (E109.lend 0) (rg Tryd.f109 0) := by
  refine RangeOK.fueled fun x tr rr h1 h2 => ?_
  have h1 : p109.ls T109 x = some tr := h1
  unfold LP.ls at h1
  split at h1
  · rename_i a ha
    cases h1
    rw [LP.get_eq ha]
    clear ha
    obtain ⟨⟨l0, z0⟩, ⟨r, z1⟩, ⟨l, z2⟩, ⟨n, z3⟩, z4⟩ := a
    obtain ⟨g1, g2⟩ := pre_val h2
    rw [Bool.and_eq_true] at g1
    obtain ⟨g1, gk⟩ := g1
    have g1 : (n : Int) = 40 := of_decide_eq_true g1
    subst g1
    have gk : U.okl l = true := gk
    have hr := run160 l r gk (l.length + 1) 0 (by omega) (by omega)
    rw [List.drop_zero] at hr
    cases he : U.evens l with
    | true =>
      rw [he] at hr
      have g3 : rr = (.nrm, Y109 l0 r) := by
        have g2 : (Tr.ite (U.evens l) (.ret (.nrm, Y109 l0 r)) (.ret (.ret, Z109 l0)) : Tr (Ex × VS)).val = some rr := g2
        rw [he] at g2; cases g2; rfl
      subst g3
      obtain ⟨r', i1, i2, i3⟩ := iter_val (k0 := 1) (Ei := Ei109 (l.length + 1) l0 l r) (A := match Tryd.f160.body with | some (.seq x _) => x | _ => .skip) (L := lc Tryd.f160 0) (b := 0) (V := V160 l r) (B := B160 l r) (lv := { ls := [0, 1, 2, 4] }) rfl (by kernel_rfl)
        (hB160 (l.length + 1) l0 l r) (x0 := (0 : Int)) (σ0 := { t := { n := 31, m := argsT 0 [.one (.yld 3), .one (.ptr 1 0), .one (.ptr 2 0)] (Tm.full 10) }, h := (X109 l0 l r).h.set 3 (.lrec false none rl109) })
        (congrArg Tr.val (pre160 (l.length + 1) l0 l r)) (n := l.length + 1) rfl hr (.inl rfl)
      exact ⟨l.length + 1, _, range_val (k0 := 1 + 1) (g := 160) (caps := [1, 2]) (fn := Tryd.f160) (c := .seq (match Tryd.f160.body with | some (.seq x _) => x | _ => .skip) (.block 0 (.loop (lc Tryd.f160 0)))) (m := 3) (by kernel_rfl) (by kernel_rfl) (by kernel_rfl) (by kernel_rfl) (by kernel_rfl) i1 i2 i3 (pe := none) (rl' := rl109) rfl rfl, Prod.ext rfl (by kernel_rfl)⟩
    | false =>
      rw [he] at hr
      have g3 : rr = (.ret, Z109 l0) := by
        have g2 : (Tr.ite (U.evens l) (.ret (.nrm, Y109 l0 r)) (.ret (.ret, Z109 l0)) : Tr (Ex × VS)).val = some rr := g2
        rw [he] at g2; cases g2; rfl
      subst g3
      obtain ⟨r', i1, i2, i3⟩ := iter_val (k0 := 1) (Ei := Ei109 (l.length + 1) l0 l r) (A := match Tryd.f160.body with | some (.seq x _) => x | _ => .skip) (L := lc Tryd.f160 0) (b := 0) (V := V160 l r) (B := B160 l r) (lv := { ls := [0, 1, 2, 4] }) rfl (by kernel_rfl)
        (hB160 (l.length + 1) l0 l r) (x0 := (0 : Int)) (σ0 := { t := { n := 31, m := argsT 0 [.one (.yld 3), .one (.ptr 1 0), .one (.ptr 2 0)] (Tm.full 10) }, h := (X109 l0 l r).h.set 3 (.lrec false none rl109) })
        (congrArg Tr.val (pre160 (l.length + 1) l0 l r)) (n := l.length + 1) rfl hr (.inr rfl)
      exact ⟨l.length + 1, _, range_val (k0 := 1 + 1) (g := 160) (caps := [1, 2]) (fn := Tryd.f160) (c := .seq (match Tryd.f160.body with | some (.seq x _) => x | _ => .skip) (.block 0 (.loop (lc Tryd.f160 0)))) (m := 3) (by kernel_rfl) (by kernel_rfl) (by kernel_rfl) (by kernel_rfl) (by kernel_rfl) i1 i2 i3 (pe := some .ret) (rl' := rl109) rfl rfl, Prod.ext rfl (by kernel_rfl)⟩
  · cases h1
def d109 (a : List Line) : Tr (Bool) :=
 let v1 : Int := ((↑(List.length a) : Int))
 Tr.ite true (Tr.ite (true && U.okl a) (Tr.ite (U.evens a) (Tr.ret (decide (v1 ≤ (200 : Int)))) (Tr.ret false)) Tr.fail) Tr.fail
def e109 (r : Bool) : FRes := { rs := Slot.av (AV.one (Leaf.dat Kd.bool r)), upd := [], new := [] }
@[reducible] def a109 : List AK := [AK.d (Kd.sl link)]
@[reducible] def b109 : List BK := []
theorem t109 (a : List Line) : evFn (E109) Tryd.f109 [PM.data Kd.bool] (akAV a109 (a, ())) (bkBs b109 ()) = (d109 a).map e109 := by kernel_rfl
def s109 (C : akT a109 → Bool) (G : akT a109 → Bool) : FSpec := aspec a109 b109 e109 (fun x _ => C x) (fun x _ => G x)
theorem k109 {C : akT a109 → Bool} {G : akT a109 → Bool} (hd : ∀ (a : List Line), C (a, ()) = true → (d109 a).val = some (G (a, ()))) (IO : ItOK Tryd.prog (E109) := by exact itOK_none rfl) (L : ∀ c, Tryd.f109.body = some c → LsOK (evI 2) ((E109).lend 0) c := by exact fun c _ => LsOK_none rfl c) : SpecOK Tryd.prog E0 109 (s109 C G) :=
  aspec_ok (ak := a109) (bl := b109) (e := e109) (c := fun x _ => C x) (g := fun x _ => G x) (E0 := E0) (E := E109) tab AG109 rfl rfl hm Tryd.func109 (by kernel_rfl) [PM.data Kd.bool] (fun X Y H => by obtain ⟨a, _⟩ := X; exact val_of (t109 a) (hd a H)) IO L
theorem IO109 : ItOK Tryd.prog E109 := itOK_of (l := [(160, Tryd.f160)]) rfl (by
  intro p hp
  rw [List.mem_singleton] at hp
  subst hp
  exact ⟨Tryd.func160, by kernel_rfl⟩)
abbrev w109 : FSpec := s109 (fun x => U.okl x.1) fun x => U.evens x.1 && decide ((List.length (α := Line) x.1 : Int) ≤ 200)
theorem wk109 : SpecOK Tryd.prog E0 109 w109 := by
  refine k109 (fun l H => ?_) IO109 (L := ls_ok (lcs := []) (rgs := [rg Tryd.f109 0]) (by kernel_rfl) (by kernel_rfl) trivial range109)
  have H : U.okl l = true := H
  show _ = some (U.evens l && decide ((l.length : Int) ≤ 200))
  simp only [d109, Tr.val, H, Bool.and_self, cond_true]
  cases U.evens l <;> rfl
end Go.Proofs.YtmnbcnhpklejcaaDoor
end
section
set_option linter.unusedVariables false
set_option linter.unusedSimpArgs false
set_option maxRecDepth 20000
set_option maxHeartbeats 4000000
open Go Go.Ev
namespace Go.Proofs.YtmnbcnhpklejcaaDoor
open Go.RowKit
def live52 (key : Nat) : Lv :=
  bif Nat.beq key 6 then { ls := [0, 4, 5, 11, 12, 13], wd := [⟨4, none, .row 32 (.sl celk)⟩, ⟨5, none, .row 48 celk⟩] } else bif Nat.beq key 1006 then { ls := [4] } else
  { ls := [] }
abbrev G52 : List (Nat × FSpec) := [(109, w109), (110, w110)]
theorem AG52 : AllFn Tryd.prog E0 G52 := .cons wk109 (.cons wk110 .nil)
abbrev M52 (ls : Nat → VS → Option (Tr (Ex × VS))) : Env := (E0.withFns G52).loops live52 ls
@[reducible] def p52_0 : LP := { n := 39, sl := [.d (Kd.sl link), .c (Leaf.row ( 0)), .c (Leaf.row ( 1)), .d (Kd.sl link), .d (.int .i64), .d (.int .i64)], bl := [(0, .row 32 (Kd.sl celk)), (1, .row 48 (celk))] }
def B52_0 (x0 : List Line) (x3 : List Line) (x4 : Int) (x5 : Int) (h0 : List (List Cell)) (h1 : List Cell) : Tr (p52_0.T ⊕ (List (List Cell))) :=
 let v1 : Int := (IntKind.wrap IntKind.i64 ((↑(List.length x0) : Int) - (1 : Int)))
 Tr.ite (decide (x5 < x4)) (Tr.ite (inB x5 (List.length x3)) (Tr.ite (decide ((List.length h1 + List.length (rget link x3 x5).fst) * (48 : Nat) ≤ (140737488355328 : Nat))) (Tr.ite (!(rget link x3 x5).snd.fst) (Tr.ite (decide (List.length (h1 ++ (rget link x3 x5).fst) ≤ (1048576 : Nat))) (Tr.ite (decide ((List.length h0 + (1 : Nat)) * (24 : Nat) ≤ (140737488355328 : Nat))) (Tr.ret (Sum.inl ((x0, x3, x4, IntKind.wrap IntKind.i64 (x5 + (1 : Int)), ()), h0 ++ [U.trimR (h1 ++ (rget link x3 x5).fst)], [], ()))) Tr.fail) Tr.fail) (Tr.ite (decide (x5 = v1)) (Tr.ite (decide (List.length (h1 ++ (rget link x3 x5).fst) ≤ (1048576 : Nat))) (Tr.ite (decide ((List.length h0 + (1 : Nat)) * (24 : Nat) ≤ (140737488355328 : Nat))) (Tr.ret (Sum.inl ((x0, x3, x4, IntKind.wrap IntKind.i64 (x5 + (1 : Int)), ()), h0 ++ [U.trimR (h1 ++ (rget link x3 x5).fst)], [], ()))) Tr.fail) Tr.fail) (Tr.ret (Sum.inl ((x0, x3, x4, IntKind.wrap IntKind.i64 (x5 + (1 : Int)), ()), h0, h1 ++ (rget link x3 x5).fst, ()))))) Tr.fail) Tr.fail) (Tr.ret (Sum.inr h0))
def X52_0 (r : (List (List Cell))) : Ex × VS := Prod.mk (Ex.exit ( 0)) { n := 39, v := [Slot.av (AV.one (Leaf.row ( 0)))], h := [( 0, Blk.row ( 32) (Kd.sl celk) r)] }
def b52_0 : p52_0.T → Tr (p52_0.T ⊕ (List (List Cell))) := fun ⟨⟨x0, ⟨x3, ⟨x4, ⟨x5, _⟩⟩⟩⟩, ⟨h0, ⟨h1, _⟩⟩⟩ => B52_0 x0 x3 x4 x5 h0 h1
theorem h52_0 (ls : Nat → VS → Option (Tr (Ex × VS))) (x : p52_0.T) : (evC (evI 2) (lc Tryd.f52 0) (Env.lend (M52 ls) 0) (unV (live52 6) (p52_0.V x))).map (decL 0 (live52 6) (live52 1006)) = (b52_0 x).map (encR p52_0.V X52_0) := by
  obtain ⟨⟨x0, ⟨x3, ⟨x4, ⟨x5, _⟩⟩⟩⟩, ⟨h0, ⟨h1, _⟩⟩⟩ := x; kernel_rfl
theorem c52_0 (x : p52_0.T) : canV 0 (live52 6) (unV (live52 6) (p52_0.V x)) = p52_0.V x := by
  obtain ⟨⟨x0, ⟨x3, ⟨x4, ⟨x5, _⟩⟩⟩⟩, ⟨h0, ⟨h1, _⟩⟩⟩ := x; kernel_rfl
theorem l52_0 {T : p52_0.T → Tr (List (List Cell))} {ls : Nat → VS → Option (Tr (Ex × VS))} (hls : ∀ x, (Env.lend (M52 ls) 0).ls 6 x = p52_0.ls (fun a => (T a).map X52_0) x) (hS : ∀ x r, (T x).val = some r → Rounds b52_0 x r) : LoopOK (evI 2) (Env.lend (M52 ls) 0) (lc Tryd.f52 0) :=
  loopA 6 (live52 6) (live52 1006) p52_0 b52_0 X52_0 T (by kernel_rfl) rfl rfl hls (h52_0 ls) c52_0 hS
end Go.Proofs.YtmnbcnhpklejcaaDoor
end
section
set_option linter.unusedVariables false
set_option linter.unusedSimpArgs false
set_option maxRecDepth 20000
set_option maxHeartbeats 4000000
open Go Go.Ev
namespace U
open Go.Proofs.YtmnbcnhpklejcaaDoor
def joinL : List Ln → List Cl → List (List Cl)
  | [], _ => []
  | y :: l, h => bif !y.2.1 || decide (l.length = 0) then trimR (h ++ y.1) :: joinL l [] else joinL l (h ++ y.1)
def cells : List Ln → Nat
  | [] => 0
  | y :: l => y.1.length + cells l
end U
namespace Go.Proofs.YtmnbcnhpklejcaaDoor
open Go.RowKit
theorem R52 (x0 l : List Line) (hl : l.length ≤ 1048576) (hx : x0.length = l.length) : ∀ (k i : Nat) (h0 : List (List Cell)) (h1 : List Cell), i + k = l.length → h0.length + k ≤ 1048576 → h1.length + U.cells (l.drop i) ≤ 1048576 →
    Rounds b52_0 ((x0, l, (l.length : Int), (i : Int), ()), h0, h1, ()) (h0 ++ U.joinL (l.drop i) h1)
  | 0, i, h0, h1, e, _, _ => by
    have e : i = l.length := by omega
    subst e
    rw [List.drop_length]
    refine .exit ?_
    have c : decide ((l.length : Int) < (l.length : Int)) = false := decide_eq_false (by omega)
    simp only [b52_0, B52_0, Tr.val, c, cond_false, U.joinL, List.append_nil]
  | k + 1, i, h0, h1, e, hb, hc => by
    have hi : i < l.length := by omega
    have er : rget link l (i : Int) = l[i] := by rw [rgetL]; exact getD_el hi
    have hd : l.drop i = l[i] :: l.drop (i + 1) := List.drop_eq_getElem_cons hi
    have w : IntKind.wrap IntKind.i64 ((i : Int) + 1) = ((i + 1 : Nat) : Int) := wrap64_nat (show i ≤ 1048576 by omega)
    have w1 : IntKind.wrap IntKind.i64 ((x0.length : Int) - 1) = (l.length : Int) - 1 := by rw [Go.Ev.w64 (by omega) (by omega)]; omega
    have c1 : decide ((i : Int) < (l.length : Int)) = true := decide_eq_true (by omega)
    have c2 : decide ((i : Int) = (l.length : Int) - 1) = decide ((l.drop (i + 1)).length = 0) := by
      rw [List.length_drop]
      exact decide_eq_decide.2 (by omega)
    rw [hd] at hc ⊢
    generalize l[i] = y at *
    have hc : h1.length + (y.1.length + U.cells (l.drop (i + 1))) ≤ 1048576 := hc
    have c3 : (h1.length + y.1.length) * 48 ≤ 140737488355328 := by omega
    have c4 : (h1 ++ y.1).length ≤ 1048576 := by rw [List.length_append]; omega
    have c5 : (h0.length + 1) * 24 ≤ 140737488355328 := by omega
    have r1 := R52 x0 l hl hx k (i + 1) (h0 ++ [U.trimR (h1 ++ y.1)]) [] (by omega) (by rw [List.length_append, List.length_singleton]; omega) (by show 0 + _ ≤ _; omega)
    have r2 := R52 x0 l hl hx k (i + 1) h0 (h1 ++ y.1) (by omega) (by omega) (by rw [List.length_append]; omega)
    rw [List.append_assoc, List.singleton_append] at r1
    unfold U.joinL
    cases hy : y.2.1 with
    | false =>
      refine .step ?_ r1
      simp only [b52_0, B52_0, Tr.val, inB_nat hi, er, w, c1, c3, c4, c5, hy, decide_true, cond_true, Bool.not_false]
    | true =>
      cases hz : decide ((l.drop (i + 1)).length = 0) with
      | true =>
        refine .step ?_ r1
        simp only [b52_0, B52_0, Tr.val, inB_nat hi, er, w, w1, c1, c2, hz, c3, c4, c5, hy, decide_true, cond_true, cond_false, Bool.not_true]
      | false =>
        refine .step ?_ r2
        simp only [b52_0, B52_0, Tr.val, inB_nat hi, er, w, w1, c1, c2, hz, c3, hy, decide_true, cond_true, cond_false, Bool.not_true]
end Go.Proofs.YtmnbcnhpklejcaaDoor
end
section
set_option linter.unusedVariables false
set_option linter.unusedSimpArgs false
set_option maxRecDepth 20000
set_option maxHeartbeats 4000000
open Go Go.Ev
namespace Go.Proofs.YtmnbcnhpklejcaaDoor
open Go.RowKit
def T52 (x : p52_0.T) : Tr (List (List Cell)) :=
  match x with
  | ⟨⟨x0, l, n, i, _⟩, h0, h1, _⟩ =>
    .ite (decide ((n : Int) = (List.length (α := Line) l : Int) ∧ (i : Int) = 0 ∧ List.length (α := Line) x0 = List.length (α := Line) l ∧ List.length (α := Line) l ≤ 1048576 ∧ List.length (α := List Cell) h0 + List.length (α := Line) l ≤ 1048576 ∧ List.length (α := Cell) h1 + U.cells l ≤ 1048576))
      (.ret (List.append (α := List Cell) h0 (U.joinL l h1))) .fail
abbrev E52 : Env := M52 fun key x => bif Nat.beq key 6 then p52_0.ls (fun a => (T52 a).map X52_0) x else none
theorem L52 : LoopOK (evI 2) (E52.lend 0) (lc Tryd.f52 0) := by
  refine l52_0 (T := T52) (fun x => rfl) ?_
  rintro ⟨⟨x0, l, n, i, z⟩, h0, h1, z1⟩ r hh
  obtain ⟨g1, g2⟩ := pre_val hh
  have g1 : (n : Int) = (l.length : Int) ∧ (i : Int) = 0 ∧ x0.length = l.length ∧ l.length ≤ 1048576 ∧ h0.length + l.length ≤ 1048576 ∧ h1.length + U.cells l ≤ 1048576 := of_decide_eq_true g1
  obtain ⟨rfl, rfl, e1, e2, e3, e4⟩ := g1
  cases g2
  exact R52 x0 l e2 e1 l.length 0 h0 h1 (by omega) e3 e4
def d52 (a : List Line) : Tr (List (List Cell) × Int) :=
 let v1 : Int := ((↑(List.length a) : Int))
 let v2 : Int := ((↑(List.length a) : Int))
 Tr.ite (U.okl a) (Tr.ite (!(U.evens a && decide (v1 ≤ (200 : Int)))) (Tr.ret ([], (1 : Int))) (Tr.ite (decide (v2 = v1 ∧ (0 : Int) = (0 : Int) ∧ List.length a = List.length a ∧ List.length a ≤ (1048576 : Nat) ∧ (0 : Nat) + List.length a ≤ (1048576 : Nat) ∧ (0 : Nat) + U.cells a ≤ (1048576 : Nat))) (Tr.ret (List.append [] (U.joinL a []), (0 : Int))) Tr.fail)) Tr.fail
def e52 (r : List (List Cell) × Int) : FRes := { rs := Slot.tup [AV.one (Leaf.dat (Kd.sl (Kd.sl celk)) r.fst), AV.one (Leaf.dat (.int .i64) r.snd)], upd := [], new := [] }
@[reducible] def a52 : List AK := [AK.d (Kd.sl link)]
@[reducible] def b52 : List BK := []
theorem t52 (a : List Line) : evFn (E52) Tryd.f52 [PM.data (Kd.sl (Kd.sl celk)), PM.data (.int .i64)] (akAV a52 (a, ())) (bkBs b52 ()) = (d52 a).map e52 := by kernel_rfl
def s52 (C : akT a52 → Bool) (G : akT a52 → List (List Cell) × Int) : FSpec := aspec a52 b52 e52 (fun x _ => C x) (fun x _ => G x)
theorem k52 {C : akT a52 → Bool} {G : akT a52 → List (List Cell) × Int} (hd : ∀ (a : List Line), C (a, ()) = true → (d52 a).val = some (G (a, ()))) (IO : ItOK Tryd.prog (E52) := by exact itOK_none rfl) (L : ∀ c, Tryd.f52.body = some c → LsOK (evI 2) ((E52).lend 0) c := by exact fun c _ => LsOK_none rfl c) : SpecOK Tryd.prog E0 52 (s52 C G) :=
  aspec_ok (ak := a52) (bl := b52) (e := e52) (c := fun x _ => C x) (g := fun x _ => G x) (E0 := E0) (E := E52) tab AG52 rfl rfl hm Tryd.func52 (by kernel_rfl) [PM.data (Kd.sl (Kd.sl celk)), PM.data (.int .i64)] (fun X Y H => by obtain ⟨a, _⟩ := X; exact val_of (t52 a) (hd a H)) IO L
def U.may (l : List U.Ln) : Bool := U.evens l && decide ((l.length : Int) ≤ 200)
abbrev w52 : FSpec := s52 (fun x => U.okl x.1 && decide (U.cells x.1 ≤ 1048576)) fun x => bif U.may x.1 then (U.joinL x.1 [], (0 : Int)) else ([], (1 : Int))
theorem wk52 : SpecOK Tryd.prog E0 52 w52 := by
  refine k52 (fun l H => ?_) (L := ls_ok (lcs := [lc Tryd.f52 0]) (rgs := []) (by kernel_rfl) (by kernel_rfl) L52 trivial)
  have H : (U.okl l && decide (U.cells l ≤ 1048576)) = true := H
  rw [Bool.and_eq_true] at H
  obtain ⟨gk, h2⟩ := H
  have h2 : U.cells l ≤ 1048576 := of_decide_eq_true h2
  have h3 : l.length ≤ 1048576 := U.okl_len gk
  show _ = some (bif U.may l then (U.joinL l [], (0 : Int)) else ([], (1 : Int)))
  simp only [d52, Tr.val, gk, h2, h3, Nat.zero_add, and_self, decide_true, cond_true]
  unfold U.may
  cases (U.evens l && decide ((l.length : Int) ≤ 200)) <;> rfl
def d102 (a : List Line) : Tr (Bool) :=
 let v1 : Int := ((bif U.may a then (U.joinL a [], (0 : Int)) else ([], (1 : Int))).snd)
 Tr.ite (U.okl a && decide (U.cells a ≤ (1048576 : Nat))) (Tr.ret (decide (v1 = (0 : Int)))) Tr.fail
def e102 (r : Bool) : FRes := { rs := Slot.av (AV.one (Leaf.dat Kd.bool r)), upd := [], new := [] }
@[reducible] def a102 : List AK := [AK.d (Kd.sl link)]
@[reducible] def b102 : List BK := []
theorem t102 (a : List Line) : evFn (Env.withFns E0 [((52 : Nat), w52)]) Tryd.f102 [PM.data Kd.bool] (akAV a102 (a, ())) (bkBs b102 ()) = (d102 a).map e102 := by kernel_rfl
def s102 (C : akT a102 → Bool) (G : akT a102 → Bool) : FSpec := aspec a102 b102 e102 (fun x _ => C x) (fun x _ => G x)
theorem k102 {C : akT a102 → Bool} {G : akT a102 → Bool} (hd : ∀ (a : List Line), C (a, ()) = true → (d102 a).val = some (G (a, ()))) (IO : ItOK Tryd.prog (Env.withFns E0 [((52 : Nat), w52)]) := by exact itOK_none rfl) (L : ∀ c, Tryd.f102.body = some c → LsOK (evI 2) ((Env.withFns E0 [((52 : Nat), w52)]).lend 0) c := by exact fun c _ => LsOK_none rfl c) : SpecOK Tryd.prog E0 102 (s102 C G) :=
  aspec_ok (ak := a102) (bl := b102) (e := e102) (c := fun x _ => C x) (g := fun x _ => G x) (E0 := E0) (E := Env.withFns E0 [((52 : Nat), w52)]) tab (.cons wk52 .nil) rfl rfl hm Tryd.func102 (by kernel_rfl) [PM.data Kd.bool] (fun X Y H => by obtain ⟨a, _⟩ := X; exact val_of (t102 a) (hd a H)) IO L
abbrev w102 : FSpec := s102 (fun x => U.okl x.1 && decide (U.cells x.1 ≤ 1048576)) fun x => U.may x.1
theorem wk102 : SpecOK Tryd.prog E0 102 w102 := k102 fun l H => by
  have H : (U.okl l && decide (U.cells l ≤ 1048576)) = true := H
  show _ = some (U.may l)
  simp only [d102, Tr.val, H, cond_true]
  cases U.may l <;> rfl
end Go.Proofs.YtmnbcnhpklejcaaDoor
end
section
set_option linter.unusedVariables false
set_option linter.unusedSimpArgs false
set_option maxRecDepth 20000
set_option maxHeartbeats 4000000
open Go Go.Ev
namespace Go.Proofs.YtmnbcnhpklejcaaDoor
open Go.RowKit
def live143 (key : Nat) : Lv :=
  bif Nat.beq key 8 then { ls := [0, 1, 2, 5, 6, 10, 11, 27, 28] } else bif Nat.beq key 1008 then { ls := [0, 1, 2, 10, 11] } else
  bif Nat.beq key 1 then { ls := [0, 1, 2, 10, 11] } else bif Nat.beq key 1001 then { ls := [] } else
  { ls := [] }
def live44 (key : Nat) : Lv :=
  bif Nat.beq key 509 then { ls := [5, 6, 7, 8, 10, 11, 12, 13, 39] } else bif Nat.beq key 1509 then { ls := [10, 11, 12] } else
  { ls := [] }
abbrev G44 : List (Nat × FSpec) := [(102, w102), (103, w103), (104, w104), (105, w105), (106, w106), (107, w107), (108, w108)]
theorem AG44 : AllFn Tryd.prog E0 G44 := .cons wk102 (.cons wk103 (.cons wk104 (.cons wk105 (.cons wk106 (.cons wk107 (.cons wk108 .nil))))))
abbrev lv44 (k : Nat) : Lv := bif Nat.ble 100000 k then live143 (Nat.sub k 100000) else live44 k
noncomputable abbrev M44 (ls : Nat → VS → Option (Tr (Ex × VS))) : Env := ((E0.withFns G44).withIts [(143, Tryd.f143)]).loops lv44 ls
@[reducible] def q44_0 : LP := { n := 74, sl := [.c (Leaf.ptr ( 0) ( 0)), .c (Leaf.ptr ( 1) ( 0)), .c (Leaf.ptr ( 2) ( 0)), .c (Leaf.ptr ( 3) ( 0)), .c (Leaf.ptr ( 4) ( 0)), .c (Leaf.ptr ( 5) ( 0)), .c (Leaf.ptr ( 6) ( 0)), .c (Leaf.ptr ( 7) ( 0)), .c (Leaf.fn ( 143) [8, 9])], bl := [(0, .box [.d (Kd.sl link)]), (1, .box [.d (Kd.str)]), (2, .box [.d (.int .i64)]), (3, .box [.d (.int .i64)]), (4, .box [.d (.int .i64)]), (5, .box [.d (.int .i64)]), (6, .box [.d (.int .i64)]), (7, .box [.d (.int .i64)]), (8, .box [.d (Kd.sl link)]), (9, .box [.d (Kd.bool)])] }
noncomputable def r44_0 : RL := { ps := (rg Tryd.f44 0).ps.toList, asg := (rg Tryd.f44 0).asg, body := (rg Tryd.f44 0).body }
@[reducible] def p44r0_0 : LP := { n := 44, sl := [.c (Leaf.yld ( 10)), .c (Leaf.ptr ( 8) ( 0)), .c (Leaf.ptr ( 9) ( 0)), .d (.int .i64), .d (.int .i64)], bl := [(0, .box [.d (Kd.sl link)]), (1, .box [.d (Kd.str)]), (2, .box [.d (.int .i64)]), (3, .box [.d (.int .i64)]), (4, .box [.d (.int .i64)]), (5, .box [.d (.int .i64)]), (6, .box [.d (.int .i64)]), (7, .box [.d (.int .i64)]), (8, .box [.d (Kd.sl link)]), (9, .box [.d (Kd.bool)]), (10, .lr)] }
@[reducible] def p44r0_1 : LP := { n := 44, sl := [.c (Leaf.yld ( 10)), .c (Leaf.ptr ( 8) ( 0)), .c (Leaf.ptr ( 9) ( 0)), .d (.int .i64), .d (.int .i64), .d (.int .i64), .d (.int .i64), .d (.int .i64), .d (.int .i64)], bl := [(0, .box [.d (Kd.sl link)]), (1, .box [.d (Kd.str)]), (2, .box [.d (.int .i64)]), (3, .box [.d (.int .i64)]), (4, .box [.d (.int .i64)]), (5, .box [.d (.int .i64)]), (6, .box [.d (.int .i64)]), (7, .box [.d (.int .i64)]), (8, .box [.d (Kd.sl link)]), (9, .box [.d (Kd.bool)]), (10, .lr)] }
end Go.Proofs.YtmnbcnhpklejcaaDoor
namespace U
open Go.Proofs.YtmnbcnhpklejcaaDoor
def hit (l : List Ln) (s : ByteArray) (row col side : Int) (r c : Nat) : Bool := decide (orI [cmpI (r : Int) row, cmpI (c : Int) col] = side) && (decide ((0 : Int) < ((((l.getD r dL).1).getD c dC).2.1)) && pre (strOf (sayL ((l.getD r dL).1.drop c))) s)
def atB (back : Bool) (n j : Nat) : Nat := bif back then n - 1 - j else j
def colF (P : Nat → Bool) (back : Bool) (n k : Nat) : Option Nat := ((List.range' k (n - k)).map (atB back n)).find? P
theorem colF_step (P : Nat → Bool) (back : Bool) {n k : Nat} (h : k < n) : colF P back n k = bif P (atB back n k) then some (atB back n k) else colF P back n (k + 1) := by
  unfold colF
  rw [show n - k = (n - (k + 1)) + 1 by omega, List.range'_succ, List.map_cons, List.find?_cons]
  cases P (atB back n k) <;> rfl
theorem colF_end (P : Nat → Bool) (back : Bool) {n k : Nat} (h : n ≤ k) : colF P back n k = none := by
  unfold colF
  rw [show n - k = 0 by omega]
  rfl
def rowsF (P : Nat → Nat → Bool) (m : Nat → Nat) (back : Bool) (n i : Nat) : Option (Nat × Nat) := ((List.range' i (n - i)).map (atB back n)).findSome? fun r => (colF (P r) back (m r) 0).map fun c => (r, c)
theorem rowsF_step (P : Nat → Nat → Bool) (m : Nat → Nat) (back : Bool) {n k : Nat} (h : k < n) : rowsF P m back n k = match colF (P (atB back n k)) back (m (atB back n k)) 0 with | some c => some (atB back n k, c) | none => rowsF P m back n (k + 1) := by
  unfold rowsF
  rw [show n - k = (n - (k + 1)) + 1 by omega, List.range'_succ, List.map_cons, List.findSome?_cons]
  cases colF (P (atB back n k)) back (m (atB back n k)) 0 <;> rfl
theorem rowsF_end (P : Nat → Nat → Bool) (m : Nat → Nat) (back : Bool) {n k : Nat} (h : n ≤ k) : rowsF P m back n k = none := by
  unfold rowsF
  rw [show n - k = 0 by omega]
  rfl
def rowLen (l : List Ln) (r : Nat) : Nat := (l.getD r dL).1.length
end U
namespace Go.Proofs.YtmnbcnhpklejcaaDoor
def Y44 (a b c : Int) : VS := ⟨74, [one (.ptr 0 0), one (.ptr 1 0), one (.ptr 2 0)], [(0, .box [.dat (.int .i64) a]), (1, .box [.dat (.int .i64) b]), (2, .box [.dat (.int .i64) c])]⟩
def T44 (x : q44_0.T) : Tr (Ex × VS) :=
  match x with
  | ⟨_, ⟨l, _⟩, ⟨s, _⟩, ⟨row, _⟩, ⟨col, _⟩, ⟨r1, _⟩, ⟨r2, _⟩, ⟨r3, _⟩, ⟨side, _⟩, ⟨l2, _⟩, ⟨back, _⟩, _⟩ =>
    .ite (U.okl l && Kd.eqb (.sl link) l l2)
      (.ite (U.rowsF (U.hit l s row col side) (U.rowLen l) back (List.length (α := Line) l) 0).isSome
        (.ret (.ret, Y44 (((U.rowsF (U.hit l s row col side) (U.rowLen l) back (List.length (α := Line) l) 0).getD (0, 0)).1 : Int) (((U.rowsF (U.hit l s row col side) (U.rowLen l) back (List.length (α := Line) l) 0).getD (0, 0)).2 : Int) 0))
        (.ret (.nrm, Y44 r1 r2 r3))) .fail
noncomputable abbrev E44 : Env := M44 fun key x => bif Nat.beq key 509 then q44_0.ls T44 x else none
noncomputable abbrev I44 (k : Nat) (L : Nat → VS → Option (Tr (Ex × VS))) (x : q44_0.T) : Env := ((E44.lend 0).told k L).inner 11 (yldR (evI 2 ((E44.lend 0).told k L).round) (unV (lv44 509) (q44_0.V x)).t 10)
noncomputable def B44r0_1 (x3 : Int) (x4 : Int) (x5 : Int) (x6 : Int) (x7 : Int) (x8 : Int) (h0_0 : List Line) (h1_0 : ByteArray) (h2_0 : Int) (h3_0 : Int) (h4_0 : Int) (h5_0 : Int) (h6_0 : Int) (h7_0 : Int) (h8_0 : List Line) (h9_0 : Bool) (rl : RL) : Tr (p44r0_1.T ⊕ (Int × Int × List Line × ByteArray × Int × Int × Int × Int × Int × Int × List Line × Bool × RL ⊕ Int × Int × List Line × ByteArray × Int × Int × Int × Int × Int × Int × List Line × Bool × RL)) :=
 let v1 : Bool := (inB x3 (List.length h0_0))
 let v2 : Int := ((↑(List.length (rget link h0_0 x3).fst) : Int))
 let v3 : Int := (U.orI [U.cmpI x3 h2_0, U.cmpI x8 h3_0])
 let v4 : Int := (IntKind.wrap IntKind.i64 (IntKind.wrap IntKind.i64 (x4 - (1 : Int)) - x8))
 let v5 : List Cell := (sub (rget link h0_0 x3).fst (Int.toNat x8) (List.length (rget link h0_0 x3).fst))
 let v6 : List Int := (U.sayL v5)
 let v7 : Int := (U.orI [U.cmpI x3 h2_0, U.cmpI v4 h3_0])
 let v8 : List Cell := (sub (rget link h0_0 x3).fst (Int.toNat v4) (List.length (rget link h0_0 x3).fst))
 let v9 : List Int := (U.sayL v8)
 Tr.ite (decide (x8 < x7)) (Tr.ite h9_0 (Tr.ite v1 (Tr.ite (decide ((0 : Int) ≤ v4 ∧ v4 ≤ v2)) (Tr.ite true (Tr.ite (decide (v7 = h7_0)) (Tr.ite (inB (0 : Int) (List.length v8)) (Tr.ite (decide ((0 : Int) < (rget celk v8 (0 : Int)).snd.fst)) (Tr.ite (decide (List.length v8 ≤ (1048576 : Nat) ∧ List.length v9 ≤ (140737488355328 : Nat))) (Tr.ite (U.pre (strOf v9) h1_0) (Tr.ret (Sum.inr (Sum.inl (x5, x6, h0_0, h1_0, h2_0, h3_0, x3, v4, (0 : Int), h7_0, h8_0, h9_0, r44_0)))) (Tr.ret (Sum.inl ((x3, x4, x5, x6, x7, IntKind.wrap IntKind.i64 (x8 + (1 : Int)), ()), (h0_0, ()), (h1_0, ()), (h2_0, ()), (h3_0, ()), (h4_0, ()), (h5_0, ()), (h6_0, ()), (h7_0, ()), (h8_0, ()), (h9_0, ()), r44_0, ())))) Tr.fail) (Tr.ret (Sum.inl ((x3, x4, x5, x6, x7, IntKind.wrap IntKind.i64 (x8 + (1 : Int)), ()), (h0_0, ()), (h1_0, ()), (h2_0, ()), (h3_0, ()), (h4_0, ()), (h5_0, ()), (h6_0, ()), (h7_0, ()), (h8_0, ()), (h9_0, ()), r44_0, ())))) Tr.fail) (Tr.ret (Sum.inl ((x3, x4, x5, x6, x7, IntKind.wrap IntKind.i64 (x8 + (1 : Int)), ()), (h0_0, ()), (h1_0, ()), (h2_0, ()), (h3_0, ()), (h4_0, ()), (h5_0, ()), (h6_0, ()), (h7_0, ()), (h8_0, ()), (h9_0, ()), r44_0, ())))) Tr.fail) Tr.fail) Tr.fail) (Tr.ite v1 (Tr.ite (decide ((0 : Int) ≤ x8 ∧ x8 ≤ v2)) (Tr.ite true (Tr.ite (decide (v3 = h7_0)) (Tr.ite (inB (0 : Int) (List.length v5)) (Tr.ite (decide ((0 : Int) < (rget celk v5 (0 : Int)).snd.fst)) (Tr.ite (decide (List.length v5 ≤ (1048576 : Nat) ∧ List.length v6 ≤ (140737488355328 : Nat))) (Tr.ite (U.pre (strOf v6) h1_0) (Tr.ret (Sum.inr (Sum.inl (x5, x6, h0_0, h1_0, h2_0, h3_0, x3, x8, (0 : Int), h7_0, h8_0, h9_0, r44_0)))) (Tr.ret (Sum.inl ((x3, x4, x5, x6, x7, IntKind.wrap IntKind.i64 (x8 + (1 : Int)), ()), (h0_0, ()), (h1_0, ()), (h2_0, ()), (h3_0, ()), (h4_0, ()), (h5_0, ()), (h6_0, ()), (h7_0, ()), (h8_0, ()), (h9_0, ()), r44_0, ())))) Tr.fail) (Tr.ret (Sum.inl ((x3, x4, x5, x6, x7, IntKind.wrap IntKind.i64 (x8 + (1 : Int)), ()), (h0_0, ()), (h1_0, ()), (h2_0, ()), (h3_0, ()), (h4_0, ()), (h5_0, ()), (h6_0, ()), (h7_0, ()), (h8_0, ()), (h9_0, ()), r44_0, ())))) Tr.fail) (Tr.ret (Sum.inl ((x3, x4, x5, x6, x7, IntKind.wrap IntKind.i64 (x8 + (1 : Int)), ()), (h0_0, ()), (h1_0, ()), (h2_0, ()), (h3_0, ()), (h4_0, ()), (h5_0, ()), (h6_0, ()), (h7_0, ()), (h8_0, ()), (h9_0, ()), r44_0, ())))) Tr.fail) Tr.fail) Tr.fail)) (Tr.ret (Sum.inr (Sum.inr (x5, x6, h0_0, h1_0, h2_0, h3_0, h4_0, h5_0, h6_0, h7_0, h8_0, h9_0, r44_0))))
def X44r0_1 : (Int × Int × List Line × ByteArray × Int × Int × Int × Int × Int × Int × List Line × Bool × RL ⊕ Int × Int × List Line × ByteArray × Int × Int × Int × Int × Int × Int × List Line × Bool × RL) → Ex × VS
  | (.inl r) => Prod.mk Ex.ret { n := 44, v := [Slot.av (AV.one (Leaf.yld ( 10))), Slot.av (AV.one (Leaf.ptr ( 8) ( 0))), Slot.av (AV.one (Leaf.ptr ( 9) ( 0))), Slot.av (AV.one (Leaf.dat (.int .i64) r.fst)), Slot.av (AV.one (Leaf.dat (.int .i64) r.snd.fst))], h := [( 0, Blk.box [Leaf.dat (Kd.sl link) r.snd.snd.fst]), ( 1, Blk.box [Leaf.dat Kd.str r.snd.snd.snd.fst]), ( 2, Blk.box [Leaf.dat (.int .i64) r.snd.snd.snd.snd.fst]), ( 3, Blk.box [Leaf.dat (.int .i64) r.snd.snd.snd.snd.snd.fst]), ( 4, Blk.box [Leaf.dat (.int .i64) r.snd.snd.snd.snd.snd.snd.fst]), ( 5, Blk.box [Leaf.dat (.int .i64) r.snd.snd.snd.snd.snd.snd.snd.fst]), ( 6, Blk.box [Leaf.dat (.int .i64) r.snd.snd.snd.snd.snd.snd.snd.snd.fst]), ( 7, Blk.box [Leaf.dat (.int .i64) r.snd.snd.snd.snd.snd.snd.snd.snd.snd.fst]), ( 8, Blk.box [Leaf.dat (Kd.sl link) r.snd.snd.snd.snd.snd.snd.snd.snd.snd.snd.fst]), ( 9, Blk.box [Leaf.dat Kd.bool r.snd.snd.snd.snd.snd.snd.snd.snd.snd.snd.snd.fst]), ( 10, Blk.lrec false (some Code.ret) r.snd.snd.snd.snd.snd.snd.snd.snd.snd.snd.snd.snd)] }
  | (.inr r) => Prod.mk (Ex.exit ( 2)) { n := 44, v := [Slot.av (AV.one (Leaf.yld ( 10))), Slot.av (AV.one (Leaf.ptr ( 8) ( 0))), Slot.av (AV.one (Leaf.ptr ( 9) ( 0))), Slot.av (AV.one (Leaf.dat (.int .i64) r.fst)), Slot.av (AV.one (Leaf.dat (.int .i64) r.snd.fst))], h := [( 0, Blk.box [Leaf.dat (Kd.sl link) r.snd.snd.fst]), ( 1, Blk.box [Leaf.dat Kd.str r.snd.snd.snd.fst]), ( 2, Blk.box [Leaf.dat (.int .i64) r.snd.snd.snd.snd.fst]), ( 3, Blk.box [Leaf.dat (.int .i64) r.snd.snd.snd.snd.snd.fst]), ( 4, Blk.box [Leaf.dat (.int .i64) r.snd.snd.snd.snd.snd.snd.fst]), ( 5, Blk.box [Leaf.dat (.int .i64) r.snd.snd.snd.snd.snd.snd.snd.fst]), ( 6, Blk.box [Leaf.dat (.int .i64) r.snd.snd.snd.snd.snd.snd.snd.snd.fst]), ( 7, Blk.box [Leaf.dat (.int .i64) r.snd.snd.snd.snd.snd.snd.snd.snd.snd.fst]), ( 8, Blk.box [Leaf.dat (Kd.sl link) r.snd.snd.snd.snd.snd.snd.snd.snd.snd.snd.fst]), ( 9, Blk.box [Leaf.dat Kd.bool r.snd.snd.snd.snd.snd.snd.snd.snd.snd.snd.snd.fst]), ( 10, Blk.lrec false none r.snd.snd.snd.snd.snd.snd.snd.snd.snd.snd.snd.snd)] }
noncomputable def b44r0_1 : p44r0_1.T → Tr (p44r0_1.T ⊕ (Int × Int × List Line × ByteArray × Int × Int × Int × Int × Int × Int × List Line × Bool × RL ⊕ Int × Int × List Line × ByteArray × Int × Int × Int × Int × Int × Int × List Line × Bool × RL)) := fun ⟨⟨x3, ⟨x4, ⟨x5, ⟨x6, ⟨x7, ⟨x8, _⟩⟩⟩⟩⟩⟩, ⟨⟨h0_0, _⟩, ⟨⟨h1_0, _⟩, ⟨⟨h2_0, _⟩, ⟨⟨h3_0, _⟩, ⟨⟨h4_0, _⟩, ⟨⟨h5_0, _⟩, ⟨⟨h6_0, _⟩, ⟨⟨h7_0, _⟩, ⟨⟨h8_0, _⟩, ⟨⟨h9_0, _⟩, ⟨rl, _⟩⟩⟩⟩⟩⟩⟩⟩⟩⟩⟩⟩ => B44r0_1 x3 x4 x5 x6 x7 x8 h0_0 h1_0 h2_0 h3_0 h4_0 h5_0 h6_0 h7_0 h8_0 h9_0 rl
noncomputable def z44r0_1 : p44r0_1.T → p44r0_1.T := fun ⟨⟨x3, ⟨x4, ⟨x5, ⟨x6, ⟨x7, ⟨x8, _⟩⟩⟩⟩⟩⟩, ⟨⟨h0_0, _⟩, ⟨⟨h1_0, _⟩, ⟨⟨h2_0, _⟩, ⟨⟨h3_0, _⟩, ⟨⟨h4_0, _⟩, ⟨⟨h5_0, _⟩, ⟨⟨h6_0, _⟩, ⟨⟨h7_0, _⟩, ⟨⟨h8_0, _⟩, ⟨⟨h9_0, _⟩, ⟨rl, _⟩⟩⟩⟩⟩⟩⟩⟩⟩⟩⟩⟩ => ((x3, x4, x5, x6, x7, x8, ()), (h0_0, ()), (h1_0, ()), (h2_0, ()), (h3_0, ()), (h4_0, ()), (h5_0, ()), (h6_0, ()), (h7_0, ()), (h8_0, ()), (h9_0, ()), r44_0, ())
noncomputable def o44r0_1 : p44r0_1.T → Bool := fun ⟨⟨x3, ⟨x4, ⟨x5, ⟨x6, ⟨x7, ⟨x8, _⟩⟩⟩⟩⟩⟩, ⟨⟨h0_0, _⟩, ⟨⟨h1_0, _⟩, ⟨⟨h2_0, _⟩, ⟨⟨h3_0, _⟩, ⟨⟨h4_0, _⟩, ⟨⟨h5_0, _⟩, ⟨⟨h6_0, _⟩, ⟨⟨h7_0, _⟩, ⟨⟨h8_0, _⟩, ⟨⟨h9_0, _⟩, ⟨rl, _⟩⟩⟩⟩⟩⟩⟩⟩⟩⟩⟩⟩ => isRL r44_0 rl
theorem ho44r0_1 (y : p44r0_1.T) (h : o44r0_1 y = true) : y = z44r0_1 y := by
  obtain ⟨⟨x3, ⟨x4, ⟨x5, ⟨x6, ⟨x7, ⟨x8, _⟩⟩⟩⟩⟩⟩, ⟨⟨h0_0, _⟩, ⟨⟨h1_0, _⟩, ⟨⟨h2_0, _⟩, ⟨⟨h3_0, _⟩, ⟨⟨h4_0, _⟩, ⟨⟨h5_0, _⟩, ⟨⟨h6_0, _⟩, ⟨⟨h7_0, _⟩, ⟨⟨h8_0, _⟩, ⟨⟨h9_0, _⟩, ⟨rl, _⟩⟩⟩⟩⟩⟩⟩⟩⟩⟩⟩⟩ := y; have h := isRL_iff.1 h
  subst h
  rfl
theorem h44r0_1 (k : Nat) (L : Nat → VS → Option (Tr (Ex × VS))) (g0_0 : List Line) (g1_0 : ByteArray) (g2_0 : Int) (g3_0 : Int) (g4_0 : Int) (g5_0 : Int) (g6_0 : Int) (g7_0 : Int) (g8_0 : List Line) (g9_0 : Bool) (y : p44r0_1.T) : (evC (evI 1) (lc Tryd.f143 1) (I44 k L ((), (g0_0, ()), (g1_0, ()), (g2_0, ()), (g3_0, ()), (g4_0, ()), (g5_0, ()), (g6_0, ()), (g7_0, ()), (g8_0, ()), (g9_0, ()), ())) (unV (live143 8) (p44r0_1.V (z44r0_1 y)))).map (decL 11 (live143 8) (live143 1008)) = ((b44r0_1) y).map (encR (fun a => p44r0_1.V (z44r0_1 a)) X44r0_1) := by
  obtain ⟨⟨x3, ⟨x4, ⟨x5, ⟨x6, ⟨x7, ⟨x8, _⟩⟩⟩⟩⟩⟩, ⟨⟨h0_0, _⟩, ⟨⟨h1_0, _⟩, ⟨⟨h2_0, _⟩, ⟨⟨h3_0, _⟩, ⟨⟨h4_0, _⟩, ⟨⟨h5_0, _⟩, ⟨⟨h6_0, _⟩, ⟨⟨h7_0, _⟩, ⟨⟨h8_0, _⟩, ⟨⟨h9_0, _⟩, ⟨rl, _⟩⟩⟩⟩⟩⟩⟩⟩⟩⟩⟩⟩ := y; kernel_rfl
theorem c44r0_1 (y : p44r0_1.T) : canV 11 (live143 8) (unV (live143 8) (p44r0_1.V (z44r0_1 y))) = p44r0_1.V (z44r0_1 y) := by
  obtain ⟨⟨x3, ⟨x4, ⟨x5, ⟨x6, ⟨x7, ⟨x8, _⟩⟩⟩⟩⟩⟩, ⟨⟨h0_0, _⟩, ⟨⟨h1_0, _⟩, ⟨⟨h2_0, _⟩, ⟨⟨h3_0, _⟩, ⟨⟨h4_0, _⟩, ⟨⟨h5_0, _⟩, ⟨⟨h6_0, _⟩, ⟨⟨h7_0, _⟩, ⟨⟨h8_0, _⟩, ⟨⟨h9_0, _⟩, ⟨rl, _⟩⟩⟩⟩⟩⟩⟩⟩⟩⟩⟩⟩ := y; kernel_rfl
theorem l44r0_1 {T : p44r0_1.T → Tr (Int × Int × List Line × ByteArray × Int × Int × Int × Int × Int × Int × List Line × Bool × RL ⊕ Int × Int × List Line × ByteArray × Int × Int × Int × Int × Int × Int × List Line × Bool × RL)} (k : Nat) (L : Nat → VS → Option (Tr (Ex × VS))) (g0_0 : List Line) (g1_0 : ByteArray) (g2_0 : Int) (g3_0 : Int) (g4_0 : Int) (g5_0 : Int) (g6_0 : Int) (g7_0 : Int) (g8_0 : List Line) (g9_0 : Bool) (hls : ∀ x, L 8 x = p44r0_1.ls (fun a => .ite (o44r0_1 a) ((T a).map X44r0_1) .fail) x) (hS : ∀ x r, (T x).val = some r → Rounds (b44r0_1) x r) : LoopOK (evI 1) (I44 k L ((), (g0_0, ()), (g1_0, ()), (g2_0, ()), (g3_0, ()), (g4_0, ()), (g5_0, ()), (g6_0, ()), (g7_0, ()), (g8_0, ()), (g9_0, ()), ())) (lc Tryd.f143 1) :=
  loopB 8 (live143 8) (live143 1008) p44r0_1 id z44r0_1 o44r0_1 ho44r0_1 (b44r0_1) X44r0_1 T (by kernel_rfl) rfl rfl hls (h44r0_1 k L g0_0 g1_0 g2_0 g3_0 g4_0 g5_0 g6_0 g7_0 g8_0 g9_0) c44r0_1 hS
noncomputable def T44r0_1 (x : p44r0_1.T) : Tr (Int × Int × List Line × ByteArray × Int × Int × Int × Int × Int × Int × List Line × Bool × RL ⊕ Int × Int × List Line × ByteArray × Int × Int × Int × Int × Int × Int × List Line × Bool × RL) :=
  match x with
  | ⟨⟨x3, x4, x5, x6, x7, x8, _⟩, ⟨⟨l, _⟩, ⟨s, _⟩, ⟨row, _⟩, ⟨col, _⟩, ⟨r1, _⟩, ⟨r2, _⟩, ⟨r3, _⟩, ⟨side, _⟩, ⟨l2, _⟩, ⟨back, _⟩, rl, _⟩⟩ =>
    .ite (decide (0 ≤ (x3 : Int) ∧ (x3 : Int) < (List.length (α := Line) l : Int) ∧ (x4 : Int) = (U.rowLen l (Int.toNat x3) : Int) ∧ (x7 : Int) = (x4 : Int) ∧ 0 ≤ (x8 : Int)) && U.okl l)
      (.ite (U.colF (U.hit l s row col side (Int.toNat x3)) back (Int.toNat x4) (Int.toNat x8)).isSome
        (.ret (.inl (x5, x6, l, s, row, col, x3, ((U.colF (U.hit l s row col side (Int.toNat x3)) back (Int.toNat x4) (Int.toNat x8)).getD 0 : Nat), (0 : Int), side, l2, back, r44_0)))
        (.ret (.inr (x5, x6, l, s, row, col, r1, r2, r3, side, l2, back, r44_0)))) .fail
theorem R44r0_1 (l : List Line) (s : ByteArray) (row col side : Int) (back : Bool) (r n : Nat) (hr : r < l.length) (hn : U.rowLen l r = n) (gk : U.okl l = true) (x5 x6 r1 r2 r3 : Int) (l2 : List Line) : ∀ (d k : Nat) (rl : RL), d + k = n →
    Rounds b44r0_1 (((r : Int), (n : Int), x5, x6, (n : Int), (k : Int), ()), (l, ()), (s, ()), (row, ()), (col, ()), (r1, ()), (r2, ()), (r3, ()), (side, ()), (l2, ()), (back, ()), rl, ())
      (match U.colF (U.hit l s row col side r) back n k with | some c => .inl (x5, x6, l, s, row, col, (r : Int), (c : Int), (0 : Int), side, l2, back, r44_0) | none => .inr (x5, x6, l, s, row, col, r1, r2, r3, side, l2, back, r44_0))
  | 0, k, rl, e => by
    rw [U.colF_end _ _ (by omega)]
    refine .exit ?_
    simp only [b44r0_1, B44r0_1, Tr.val, show ¬ ((k : Int) < (n : Int)) by omega, decide_false, cond_false]
  | d + 1, k, rl, e => by
    have hk : k < n := by omega
    rw [U.colF_step _ _ hk]
    have hcl := U.okc_len (U.okl_at gk hr)
    have hcl : (l.getD r U.dL).1.length ≤ 1048576 := hcl
    have hn' : (l.getD r U.dL).1.length = n := hn
    have er : rget link l (r : Int) = l.getD r U.dL := rgetL l r
    have w : IntKind.wrap IntKind.i64 ((k : Int) + 1) = ((k + 1 : Nat) : Int) := wrap64_nat (show k ≤ 1048576 by omega)
    have w2 : IntKind.wrap IntKind.i64 (IntKind.wrap IntKind.i64 ((n : Int) - 1) - (k : Int)) = ((n - 1 - k : Nat) : Int) := by
      rw [Go.Ev.w64 (n := (n : Int) - 1) (by omega) (by omega), Go.Ev.w64 (by omega) (by omega)]; omega
    have lt : decide ((k : Int) < (n : Int)) = true := decide_eq_true (by omega)
    have key : ∀ c : Nat, c < n → sub (l.getD r U.dL).1 c (l.getD r U.dL).1.length = (l.getD r U.dL).1.drop c ∧ decide ((0 : Int) ≤ (c : Int) ∧ (c : Int) ≤ ((l.getD r U.dL).1.length : Int)) = true ∧ inB (0 : Int) ((l.getD r U.dL).1.drop c).length = true ∧
        rget celk ((l.getD r U.dL).1.drop c) (0 : Int) = (l.getD r U.dL).1.getD c U.dC ∧ decide (((l.getD r U.dL).1.drop c).length ≤ 1048576 ∧ (U.sayL ((l.getD r U.dL).1.drop c)).length ≤ 140737488355328) = true := by
      intro c hc
      refine ⟨by unfold sub; rw [List.take_length], decide_eq_true (by omega), ?_, ?_, decide_eq_true (U.okc_say (U.okl_at gk hr) c)⟩
      · rw [List.length_drop, hn']
        exact inB_nat (show 0 < n - c by omega)
      · rw [show (0 : Int) = ((0 : Nat) : Int) from rfl, rgetC]
        simp [List.getD_eq_getElem?_getD]
    have hb : U.atB back n k < n := by unfold U.atB; cases back <;> simp <;> omega
    have ih := R44r0_1 l s row col side back r n hr hn gk x5 x6 r1 r2 r3 l2 d (k + 1) r44_0 (by omega)
    have hv : (b44r0_1 (((r : Int), (n : Int), x5, x6, (n : Int), (k : Int), ()), (l, ()), (s, ()), (row, ()), (col, ()), (r1, ()), (r2, ()), (r3, ()), (side, ()), (l2, ()), (back, ()), rl, ())).val =
        bif U.hit l s row col side r (U.atB back n k) then some (.inr (.inl (x5, x6, l, s, row, col, (r : Int), ((U.atB back n k : Nat) : Int), (0 : Int), side, l2, back, r44_0)))
        else some (.inl (((r : Int), (n : Int), x5, x6, (n : Int), ((k + 1 : Nat) : Int), ()), (l, ()), (s, ()), (row, ()), (col, ()), (r1, ()), (r2, ()), (r3, ()), (side, ()), (l2, ()), (back, ()), r44_0, ())) := by
      cases back with
      | false =>
        obtain ⟨k1, k2, k3, k4, k5⟩ := key k hk
        simp only [b44r0_1, B44r0_1, Tr.val, er, w, lt, inB_nat hr, Int.toNat_natCast, k1, k2, k3, k4, k5, cond_true, cond_false, U.atB, U.hit]
        by_cases p1 : U.orI [U.cmpI (r : Int) row, U.cmpI (k : Int) col] = side
        · by_cases p2 : (0 : Int) < ((l.getD r U.dL).1.getD k U.dC).2.1
          · simp only [p1, p2, decide_true, Bool.true_and, cond_true]
          · simp only [p1, p2, decide_true, decide_false, Bool.true_and, Bool.false_and, cond_true, cond_false]
        · simp only [p1, decide_false, Bool.false_and, cond_false]
      | true =>
        obtain ⟨k1, k2, k3, k4, k5⟩ := key (n - 1 - k) (by omega)
        simp only [b44r0_1, B44r0_1, Tr.val, er, w, w2, lt, inB_nat hr, Int.toNat_natCast, k1, k2, k3, k4, k5, cond_true, cond_false, U.atB, U.hit]
        by_cases p1 : U.orI [U.cmpI (r : Int) row, U.cmpI ((n - 1 - k : Nat) : Int) col] = side
        · by_cases p2 : (0 : Int) < ((l.getD r U.dL).1.getD (n - 1 - k) U.dC).2.1
          · simp only [p1, p2, decide_true, Bool.true_and, cond_true]
          · simp only [p1, p2, decide_true, decide_false, Bool.true_and, Bool.false_and, cond_true, cond_false]
        · simp only [p1, decide_false, Bool.false_and, cond_false]
    cases hh : U.hit l s row col side r (U.atB back n k) with
    | true =>
      rw [hh] at hv
      exact .exit hv
    | false =>
      rw [hh] at hv
      exact .step hv ih
theorem K44r0_1 (k : Nat) (L : Nat → VS → Option (Tr (Ex × VS))) (x : q44_0.T) (h8 : ∀ y, L 8 y = p44r0_1.ls (fun a => .ite (o44r0_1 a) ((T44r0_1 a).map X44r0_1) .fail) y) : LoopOK (evI 1) (I44 k L x) (lc Tryd.f143 1) := by
  obtain ⟨⟨_⟩, ⟨g0, _⟩, ⟨g1, _⟩, ⟨g2, _⟩, ⟨g3, _⟩, ⟨g4, _⟩, ⟨g5, _⟩, ⟨g6, _⟩, ⟨g7, _⟩, ⟨g8, _⟩, ⟨g9, _⟩, _⟩ := x
  refine l44r0_1 (T := T44r0_1) k L g0 g1 g2 g3 g4 g5 g6 g7 g8 g9 h8 ?_
  rintro ⟨⟨x3, x4, x5, x6, x7, x8, z⟩, ⟨⟨l, z0⟩, ⟨s, z1⟩, ⟨row, z2⟩, ⟨col, z3⟩, ⟨r1, z4⟩, ⟨r2, z5⟩, ⟨r3, z6⟩, ⟨side, z7⟩, ⟨l2, z8⟩, ⟨back, z9⟩, rl, z10⟩⟩ r hh
  obtain ⟨e1, e2⟩ := pre_val hh
  rw [Bool.and_eq_true] at e1
  obtain ⟨e1, gk⟩ := e1
  have e1 : 0 ≤ (x3 : Int) ∧ (x3 : Int) < (List.length (α := Line) l : Int) ∧ (x4 : Int) = (U.rowLen l (Int.toNat x3) : Int) ∧ (x7 : Int) = (x4 : Int) ∧ 0 ≤ (x8 : Int) := of_decide_eq_true e1
  obtain ⟨h1, h2, h3, h4, h5⟩ := e1
  obtain ⟨r', rfl⟩ := Int.eq_ofNat_of_zero_le h1
  obtain ⟨k', rfl⟩ := Int.eq_ofNat_of_zero_le h5
  have h2 : r' < l.length := Int.ofNat_lt.1 h2
  subst h4
  have h3 : x7 = ((U.rowLen l r' : Nat) : Int) := h3
  subst h3
  by_cases hk : k' ≤ U.rowLen l r'
  · have := R44r0_1 l s row col side back r' (U.rowLen l r') h2 rfl gk x5 x6 r1 r2 r3 l2 (U.rowLen l r' - k') k' rl (by omega)
    have e2 : (Tr.ite (U.colF (U.hit l s row col side r') back (U.rowLen l r') k').isSome
        (.ret (.inl (x5, x6, l, s, row, col, (r' : Int), (((U.colF (U.hit l s row col side r') back (U.rowLen l r') k').getD 0 : Nat) : Int), (0 : Int), side, l2, back, r44_0)))
        (.ret (.inr (x5, x6, l, s, row, col, r1, r2, r3, side, l2, back, r44_0)))).val = some r := e2
    revert this e2
    cases U.colF (U.hit l s row col side r') back (U.rowLen l r') k' with
    | some c => intro this e2; cases e2; exact this
    | none => intro this e2; cases e2; exact this
  · have e2 : (Tr.ite (U.colF (U.hit l s row col side r') back (U.rowLen l r') k').isSome
        (.ret (.inl (x5, x6, l, s, row, col, (r' : Int), (((U.colF (U.hit l s row col side r') back (U.rowLen l r') k').getD 0 : Nat) : Int), (0 : Int), side, l2, back, r44_0)))
        (.ret (.inr (x5, x6, l, s, row, col, r1, r2, r3, side, l2, back, r44_0)))).val = some r := e2
    rw [U.colF_end _ _ (by omega)] at e2
    cases e2
    refine .exit ?_
    simp only [b44r0_1, B44r0_1, Tr.val, show ¬ ((k' : Int) < ((U.rowLen l r' : Nat) : Int)) by omega, decide_false, cond_false]
noncomputable def V44 (L : Nat → VS → Option (Tr (Ex × VS))) (key : Nat) (y : VS) : Option (Tr (Ex × VS)) := bif Nat.beq key 8 then p44r0_1.ls (fun a => .ite (o44r0_1 a) ((T44r0_1 a).map X44r0_1) .fail) y else L key y
noncomputable abbrev J44 (k : Nat) (L : Nat → VS → Option (Tr (Ex × VS))) (x : q44_0.T) : Env := I44 0 (V44 L) x
noncomputable def B44r0_0 (x3 : Int) (x4 : Int) (h0_0 : List Line) (h1_0 : ByteArray) (h2_0 : Int) (h3_0 : Int) (h4_0 : Int) (h5_0 : Int) (h6_0 : Int) (h7_0 : Int) (h8_0 : List Line) (h9_0 : Bool) (rl : RL) : Tr (p44r0_0.T ⊕ (List Line × ByteArray × Int × Int × Int × Int × Int × Int × List Line × Bool × RL ⊕ List Line × ByteArray × Int × Int × Int × Int × Int × Int × List Line × Bool × RL)) :=
 let v1 : Int := ((↑(List.length h0_0) : Int))
 let v2 : Int := ((↑(U.rowLen h0_0 (Int.toNat x4)) : Int))
 let v3 : Int := ((↑(List.length (rget link h8_0 x4).fst) : Int))
 let v4 : Int := (IntKind.wrap IntKind.i64 (IntKind.wrap IntKind.i64 ((↑(List.length h8_0) : Int) - (1 : Int)) - x4))
 let v5 : Int := ((↑(U.rowLen h0_0 (Int.toNat v4)) : Int))
 let v6 : Int := ((↑(List.length (rget link h8_0 v4).fst) : Int))
 Tr.ite (decide (x4 < x3)) (Tr.ite h9_0 (Tr.ite (inB v4 (List.length h8_0)) (Tr.ite (o44r0_1 ((v4, v6, x3, x4, v6, (0 : Int), ()), (h0_0, ()), (h1_0, ()), (h2_0, ()), (h3_0, ()), (h4_0, ()), (h5_0, ()), (h6_0, ()), (h7_0, ()), (h8_0, ()), (h9_0, ()), r44_0, ())) (Tr.ite (decide ((0 : Int) ≤ v4 ∧ v4 < v1 ∧ v6 = v5 ∧ v6 = v6 ∧ (0 : Int) ≤ (0 : Int)) && U.okl h0_0) (Tr.ite (Option.isSome (U.colF (U.hit h0_0 h1_0 h2_0 h3_0 h7_0 (Int.toNat v4)) h9_0 (Int.toNat v6) (0 : Nat))) (Tr.ret (Sum.inr (Sum.inl (h0_0, h1_0, h2_0, h3_0, v4, (↑(Option.getD (U.colF (U.hit h0_0 h1_0 h2_0 h3_0 h7_0 (Int.toNat v4)) h9_0 (Int.toNat v6) (0 : Nat)) (0 : Nat)) : Int), (0 : Int), h7_0, h8_0, h9_0, r44_0)))) (Tr.ret (Sum.inl ((x3, IntKind.wrap IntKind.i64 (x4 + (1 : Int)), ()), (h0_0, ()), (h1_0, ()), (h2_0, ()), (h3_0, ()), (h4_0, ()), (h5_0, ()), (h6_0, ()), (h7_0, ()), (h8_0, ()), (h9_0, ()), r44_0, ())))) Tr.fail) Tr.fail) Tr.fail) (Tr.ite (inB x4 (List.length h8_0)) (Tr.ite (o44r0_1 ((x4, v3, x3, x4, v3, (0 : Int), ()), (h0_0, ()), (h1_0, ()), (h2_0, ()), (h3_0, ()), (h4_0, ()), (h5_0, ()), (h6_0, ()), (h7_0, ()), (h8_0, ()), (h9_0, ()), r44_0, ())) (Tr.ite (decide ((0 : Int) ≤ x4 ∧ x4 < v1 ∧ v3 = v2 ∧ v3 = v3 ∧ (0 : Int) ≤ (0 : Int)) && U.okl h0_0) (Tr.ite (Option.isSome (U.colF (U.hit h0_0 h1_0 h2_0 h3_0 h7_0 (Int.toNat x4)) h9_0 (Int.toNat v3) (0 : Nat))) (Tr.ret (Sum.inr (Sum.inl (h0_0, h1_0, h2_0, h3_0, x4, (↑(Option.getD (U.colF (U.hit h0_0 h1_0 h2_0 h3_0 h7_0 (Int.toNat x4)) h9_0 (Int.toNat v3) (0 : Nat)) (0 : Nat)) : Int), (0 : Int), h7_0, h8_0, h9_0, r44_0)))) (Tr.ret (Sum.inl ((x3, IntKind.wrap IntKind.i64 (x4 + (1 : Int)), ()), (h0_0, ()), (h1_0, ()), (h2_0, ()), (h3_0, ()), (h4_0, ()), (h5_0, ()), (h6_0, ()), (h7_0, ()), (h8_0, ()), (h9_0, ()), r44_0, ())))) Tr.fail) Tr.fail) Tr.fail)) (Tr.ret (Sum.inr (Sum.inr (h0_0, h1_0, h2_0, h3_0, h4_0, h5_0, h6_0, h7_0, h8_0, h9_0, r44_0))))
def X44r0_0 : (List Line × ByteArray × Int × Int × Int × Int × Int × Int × List Line × Bool × RL ⊕ List Line × ByteArray × Int × Int × Int × Int × Int × Int × List Line × Bool × RL) → Ex × VS
  | (.inl r) => Prod.mk Ex.ret { n := 44, v := [], h := [( 0, Blk.box [Leaf.dat (Kd.sl link) r.fst]), ( 1, Blk.box [Leaf.dat Kd.str r.snd.fst]), ( 2, Blk.box [Leaf.dat (.int .i64) r.snd.snd.fst]), ( 3, Blk.box [Leaf.dat (.int .i64) r.snd.snd.snd.fst]), ( 4, Blk.box [Leaf.dat (.int .i64) r.snd.snd.snd.snd.fst]), ( 5, Blk.box [Leaf.dat (.int .i64) r.snd.snd.snd.snd.snd.fst]), ( 6, Blk.box [Leaf.dat (.int .i64) r.snd.snd.snd.snd.snd.snd.fst]), ( 7, Blk.box [Leaf.dat (.int .i64) r.snd.snd.snd.snd.snd.snd.snd.fst]), ( 8, Blk.box [Leaf.dat (Kd.sl link) r.snd.snd.snd.snd.snd.snd.snd.snd.fst]), ( 9, Blk.box [Leaf.dat Kd.bool r.snd.snd.snd.snd.snd.snd.snd.snd.snd.fst]), ( 10, Blk.lrec false (some Code.ret) r.snd.snd.snd.snd.snd.snd.snd.snd.snd.snd)] }
  | (.inr r) => Prod.mk (Ex.exit ( 0)) { n := 44, v := [], h := [( 0, Blk.box [Leaf.dat (Kd.sl link) r.fst]), ( 1, Blk.box [Leaf.dat Kd.str r.snd.fst]), ( 2, Blk.box [Leaf.dat (.int .i64) r.snd.snd.fst]), ( 3, Blk.box [Leaf.dat (.int .i64) r.snd.snd.snd.fst]), ( 4, Blk.box [Leaf.dat (.int .i64) r.snd.snd.snd.snd.fst]), ( 5, Blk.box [Leaf.dat (.int .i64) r.snd.snd.snd.snd.snd.fst]), ( 6, Blk.box [Leaf.dat (.int .i64) r.snd.snd.snd.snd.snd.snd.fst]), ( 7, Blk.box [Leaf.dat (.int .i64) r.snd.snd.snd.snd.snd.snd.snd.fst]), ( 8, Blk.box [Leaf.dat (Kd.sl link) r.snd.snd.snd.snd.snd.snd.snd.snd.fst]), ( 9, Blk.box [Leaf.dat Kd.bool r.snd.snd.snd.snd.snd.snd.snd.snd.snd.fst]), ( 10, Blk.lrec false none r.snd.snd.snd.snd.snd.snd.snd.snd.snd.snd)] }
noncomputable def b44r0_0 : p44r0_0.T → Tr (p44r0_0.T ⊕ (List Line × ByteArray × Int × Int × Int × Int × Int × Int × List Line × Bool × RL ⊕ List Line × ByteArray × Int × Int × Int × Int × Int × Int × List Line × Bool × RL)) := fun ⟨⟨x3, ⟨x4, _⟩⟩, ⟨⟨h0_0, _⟩, ⟨⟨h1_0, _⟩, ⟨⟨h2_0, _⟩, ⟨⟨h3_0, _⟩, ⟨⟨h4_0, _⟩, ⟨⟨h5_0, _⟩, ⟨⟨h6_0, _⟩, ⟨⟨h7_0, _⟩, ⟨⟨h8_0, _⟩, ⟨⟨h9_0, _⟩, ⟨rl, _⟩⟩⟩⟩⟩⟩⟩⟩⟩⟩⟩⟩ => B44r0_0 x3 x4 h0_0 h1_0 h2_0 h3_0 h4_0 h5_0 h6_0 h7_0 h8_0 h9_0 rl
noncomputable def z44r0_0 : p44r0_0.T → p44r0_0.T := fun ⟨⟨x3, ⟨x4, _⟩⟩, ⟨⟨h0_0, _⟩, ⟨⟨h1_0, _⟩, ⟨⟨h2_0, _⟩, ⟨⟨h3_0, _⟩, ⟨⟨h4_0, _⟩, ⟨⟨h5_0, _⟩, ⟨⟨h6_0, _⟩, ⟨⟨h7_0, _⟩, ⟨⟨h8_0, _⟩, ⟨⟨h9_0, _⟩, ⟨rl, _⟩⟩⟩⟩⟩⟩⟩⟩⟩⟩⟩⟩ => ((x3, x4, ()), (h0_0, ()), (h1_0, ()), (h2_0, ()), (h3_0, ()), (h4_0, ()), (h5_0, ()), (h6_0, ()), (h7_0, ()), (h8_0, ()), (h9_0, ()), r44_0, ())
noncomputable def o44r0_0 : p44r0_0.T → Bool := fun ⟨⟨x3, ⟨x4, _⟩⟩, ⟨⟨h0_0, _⟩, ⟨⟨h1_0, _⟩, ⟨⟨h2_0, _⟩, ⟨⟨h3_0, _⟩, ⟨⟨h4_0, _⟩, ⟨⟨h5_0, _⟩, ⟨⟨h6_0, _⟩, ⟨⟨h7_0, _⟩, ⟨⟨h8_0, _⟩, ⟨⟨h9_0, _⟩, ⟨rl, _⟩⟩⟩⟩⟩⟩⟩⟩⟩⟩⟩⟩ => isRL r44_0 rl
theorem ho44r0_0 (y : p44r0_0.T) (h : o44r0_0 y = true) : y = z44r0_0 y := by
  obtain ⟨⟨x3, ⟨x4, _⟩⟩, ⟨⟨h0_0, _⟩, ⟨⟨h1_0, _⟩, ⟨⟨h2_0, _⟩, ⟨⟨h3_0, _⟩, ⟨⟨h4_0, _⟩, ⟨⟨h5_0, _⟩, ⟨⟨h6_0, _⟩, ⟨⟨h7_0, _⟩, ⟨⟨h8_0, _⟩, ⟨⟨h9_0, _⟩, ⟨rl, _⟩⟩⟩⟩⟩⟩⟩⟩⟩⟩⟩⟩ := y; have h := isRL_iff.1 h
  subst h
  rfl
theorem h44r0_0 (k : Nat) (L : Nat → VS → Option (Tr (Ex × VS))) (g0_0 : List Line) (g1_0 : ByteArray) (g2_0 : Int) (g3_0 : Int) (g4_0 : Int) (g5_0 : Int) (g6_0 : Int) (g7_0 : Int) (g8_0 : List Line) (g9_0 : Bool) (y : p44r0_0.T) : (evC (evI 1) (lc Tryd.f143 0) (J44 k L ((), (g0_0, ()), (g1_0, ()), (g2_0, ()), (g3_0, ()), (g4_0, ()), (g5_0, ()), (g6_0, ()), (g7_0, ()), (g8_0, ()), (g9_0, ()), ())) (unV (live143 1) (p44r0_0.V (z44r0_0 y)))).map (decL 11 (live143 1) (live143 1001)) = ((b44r0_0) y).map (encR (fun a => p44r0_0.V (z44r0_0 a)) X44r0_0) := by
  obtain ⟨⟨x3, ⟨x4, _⟩⟩, ⟨⟨h0_0, _⟩, ⟨⟨h1_0, _⟩, ⟨⟨h2_0, _⟩, ⟨⟨h3_0, _⟩, ⟨⟨h4_0, _⟩, ⟨⟨h5_0, _⟩, ⟨⟨h6_0, _⟩, ⟨⟨h7_0, _⟩, ⟨⟨h8_0, _⟩, ⟨⟨h9_0, _⟩, ⟨rl, _⟩⟩⟩⟩⟩⟩⟩⟩⟩⟩⟩⟩ := y; kernel_rfl
theorem c44r0_0 (y : p44r0_0.T) : canV 11 (live143 1) (unV (live143 1) (p44r0_0.V (z44r0_0 y))) = p44r0_0.V (z44r0_0 y) := by
  obtain ⟨⟨x3, ⟨x4, _⟩⟩, ⟨⟨h0_0, _⟩, ⟨⟨h1_0, _⟩, ⟨⟨h2_0, _⟩, ⟨⟨h3_0, _⟩, ⟨⟨h4_0, _⟩, ⟨⟨h5_0, _⟩, ⟨⟨h6_0, _⟩, ⟨⟨h7_0, _⟩, ⟨⟨h8_0, _⟩, ⟨⟨h9_0, _⟩, ⟨rl, _⟩⟩⟩⟩⟩⟩⟩⟩⟩⟩⟩⟩ := y; kernel_rfl
theorem l44r0_0 {T : p44r0_0.T → Tr (List Line × ByteArray × Int × Int × Int × Int × Int × Int × List Line × Bool × RL ⊕ List Line × ByteArray × Int × Int × Int × Int × Int × Int × List Line × Bool × RL)} (k : Nat) (L : Nat → VS → Option (Tr (Ex × VS))) (g0_0 : List Line) (g1_0 : ByteArray) (g2_0 : Int) (g3_0 : Int) (g4_0 : Int) (g5_0 : Int) (g6_0 : Int) (g7_0 : Int) (g8_0 : List Line) (g9_0 : Bool) (hls : ∀ x, L 1 x = p44r0_0.ls (fun a => .ite (o44r0_0 a) ((T a).map X44r0_0) .fail) x) (hS : ∀ x r, (T x).val = some r → Rounds (b44r0_0) x r) : LoopOK (evI 1) (J44 k L ((), (g0_0, ()), (g1_0, ()), (g2_0, ()), (g3_0, ()), (g4_0, ()), (g5_0, ()), (g6_0, ()), (g7_0, ()), (g8_0, ()), (g9_0, ()), ())) (lc Tryd.f143 0) :=
  loopB 1 (live143 1) (live143 1001) p44r0_0 id z44r0_0 o44r0_0 ho44r0_0 (b44r0_0) X44r0_0 T (by kernel_rfl) rfl rfl hls (h44r0_0 k L g0_0 g1_0 g2_0 g3_0 g4_0 g5_0 g6_0 g7_0 g8_0 g9_0) c44r0_0 hS
abbrev R44T := (List Line × ByteArray × Int × Int × Int × Int × Int × Int × List Line × Bool × RL ⊕ List Line × ByteArray × Int × Int × Int × Int × Int × Int × List Line × Bool × RL)
noncomputable def T44r0_0 (x : p44r0_0.T) : Tr R44T :=
  match x with
  | ⟨⟨x3, x4, _⟩, ⟨⟨l, _⟩, ⟨s, _⟩, ⟨row, _⟩, ⟨col, _⟩, ⟨r1, _⟩, ⟨r2, _⟩, ⟨r3, _⟩, ⟨side, _⟩, ⟨l2, _⟩, ⟨back, _⟩, rl, _⟩⟩ =>
    .ite (decide (0 ≤ (x4 : Int) ∧ (x3 : Int) = (List.length (α := Line) l : Int)) && (U.okl l && Kd.eqb (.sl link) l l2))
      (.ite (U.rowsF (U.hit l s row col side) (U.rowLen l) back (List.length (α := Line) l) (Int.toNat x4)).isSome
        (.ret (.inl (l, s, row, col, (((U.rowsF (U.hit l s row col side) (U.rowLen l) back (List.length (α := Line) l) (Int.toNat x4)).getD (0, 0)).1 : Int), (((U.rowsF (U.hit l s row col side) (U.rowLen l) back (List.length (α := Line) l) (Int.toNat x4)).getD (0, 0)).2 : Int), (0 : Int), side, l2, back, r44_0)))
        (.ret (.inr (l, s, row, col, r1, r2, r3, side, l2, back, r44_0)))) .fail
theorem R44r0_0 (l : List Line) (s : ByteArray) (row col side : Int) (back : Bool) (gk : U.okl l = true) (r1 r2 r3 : Int) : ∀ (d k : Nat) (rl : RL), d + k = l.length →
    Rounds b44r0_0 (((l.length : Int), (k : Int), ()), (l, ()), (s, ()), (row, ()), (col, ()), (r1, ()), (r2, ()), (r3, ()), (side, ()), (l, ()), (back, ()), rl, ())
      (match U.rowsF (U.hit l s row col side) (U.rowLen l) back l.length k with | some p => (.inl (l, s, row, col, (p.1 : Int), (p.2 : Int), (0 : Int), side, l, back, r44_0) : R44T) | none => .inr (l, s, row, col, r1, r2, r3, side, l, back, r44_0))
  | 0, k, rl, e => by
    rw [U.rowsF_end _ _ _ (by omega)]
    refine .exit ?_
    simp only [b44r0_0, B44r0_0, Tr.val, show ¬ ((k : Int) < (l.length : Int)) by omega, decide_false, cond_false]
  | d + 1, k, rl, e => by
    have hk : k < l.length := by omega
    rw [U.rowsF_step _ _ _ hk]
    have hl := U.okl_len gk
    have w : IntKind.wrap IntKind.i64 ((k : Int) + 1) = ((k + 1 : Nat) : Int) := wrap64_nat (show k ≤ 1048576 by omega)
    have w2 : IntKind.wrap IntKind.i64 (IntKind.wrap IntKind.i64 ((l.length : Int) - 1) - (k : Int)) = ((l.length - 1 - k : Nat) : Int) := by
      rw [Go.Ev.w64 (n := (l.length : Int) - 1) (by omega) (by omega), Go.Ev.w64 (by omega) (by omega)]; omega
    have lt : decide ((k : Int) < (l.length : Int)) = true := decide_eq_true (by omega)
    have hb : U.atB back l.length k < l.length := by unfold U.atB; cases back <;> simp <;> omega
    have ih := R44r0_0 l s row col side back gk r1 r2 r3 d (k + 1) r44_0 (by omega)
    have key : ∀ c : Nat, c < l.length → rget link l (c : Int) = l.getD c U.dL ∧ inB (c : Int) l.length = true ∧ decide ((0 : Int) ≤ (c : Int) ∧ (c : Int) < (l.length : Int)) = true :=
      fun c hc => ⟨rgetL l c, inB_nat hc, decide_eq_true (by omega)⟩
    have hv : (b44r0_0 (((l.length : Int), (k : Int), ()), (l, ()), (s, ()), (row, ()), (col, ()), (r1, ()), (r2, ()), (r3, ()), (side, ()), (l, ()), (back, ()), rl, ())).val =
        match U.colF (U.hit l s row col side (U.atB back l.length k)) back (U.rowLen l (U.atB back l.length k)) 0 with
        | some c => some (.inr (.inl (l, s, row, col, ((U.atB back l.length k : Nat) : Int), (c : Int), (0 : Int), side, l, back, r44_0)))
        | none => some (.inl (((l.length : Int), ((k + 1 : Nat) : Int), ()), (l, ()), (s, ()), (row, ()), (col, ()), (r1, ()), (r2, ()), (r3, ()), (side, ()), (l, ()), (back, ()), r44_0, ())) := by
      cases back with
      | false =>
        obtain ⟨k1, k2, k3⟩ := key k hk
        have k4 : ((l.getD k U.dL).1.length : Int) = ((U.rowLen l k : Nat) : Int) := rfl
        simp only [b44r0_0, B44r0_0, Tr.val, w, lt, Int.toNat_natCast, k1, k2, k4, gk, Bool.and_true, cond_true, cond_false, U.atB, o44r0_1, isRL_self, Int.natCast_nonneg, hk, Int.ofNat_lt, and_self, decide_true, Int.le_refl]
        cases U.colF (U.hit l s row col side k) false (U.rowLen l k) 0 <;> rfl
      | true =>
        obtain ⟨k1, k2, k3⟩ := key (l.length - 1 - k) (by omega)
        have k4 : ((l.getD (l.length - 1 - k) U.dL).1.length : Int) = ((U.rowLen l (l.length - 1 - k) : Nat) : Int) := rfl
        have k5 : l.length - 1 - k < l.length := by omega
        simp only [b44r0_0, B44r0_0, Tr.val, w, w2, lt, Int.toNat_natCast, k1, k2, k4, gk, Bool.and_true, cond_true, cond_false, U.atB, o44r0_1, isRL_self, Int.natCast_nonneg, hk, k5, Int.ofNat_lt, and_self, decide_true, Int.le_refl]
        cases U.colF (U.hit l s row col side (l.length - 1 - k)) true (U.rowLen l (l.length - 1 - k)) 0 <;> rfl
    revert hv
    cases U.colF (U.hit l s row col side (U.atB back l.length k)) back (U.rowLen l (U.atB back l.length k)) 0 with
    | some c => exact fun hv => .exit hv
    | none => exact fun hv => .step hv ih
theorem K44r0_0 (k : Nat) (L : Nat → VS → Option (Tr (Ex × VS))) (x : q44_0.T) (h1 : ∀ y, L 1 y = p44r0_0.ls (fun a => .ite (o44r0_0 a) ((T44r0_0 a).map X44r0_0) .fail) y) : LoopOK (evI 1) (J44 k L x) (lc Tryd.f143 0) := by
  obtain ⟨⟨_⟩, ⟨g0, _⟩, ⟨g1, _⟩, ⟨g2, _⟩, ⟨g3, _⟩, ⟨g4, _⟩, ⟨g5, _⟩, ⟨g6, _⟩, ⟨g7, _⟩, ⟨g8, _⟩, ⟨g9, _⟩, _⟩ := x
  refine l44r0_0 (T := T44r0_0) k L g0 g1 g2 g3 g4 g5 g6 g7 g8 g9 h1 ?_
  rintro ⟨⟨x3, x4, z⟩, ⟨⟨l, z0⟩, ⟨s, z1⟩, ⟨row, z2⟩, ⟨col, z3⟩, ⟨r1, z4⟩, ⟨r2, z5⟩, ⟨r3, z6⟩, ⟨side, z7⟩, ⟨l2, z8⟩, ⟨back, z9⟩, rl, z10⟩⟩ r hh
  obtain ⟨e1, e2⟩ := pre_val hh
  simp only [Bool.and_eq_true] at e1
  obtain ⟨e1, gk, e3⟩ := e1
  have e1 : 0 ≤ (x4 : Int) ∧ (x3 : Int) = (List.length (α := Line) l : Int) := of_decide_eq_true e1
  obtain ⟨h1, h2⟩ := e1
  obtain ⟨k', rfl⟩ := Int.eq_ofNat_of_zero_le h1
  have e3 := eqb_iff e3
  subst e3
  subst h2
  have e2 : (Tr.ite (U.rowsF (U.hit l s row col side) (U.rowLen l) back l.length k').isSome
        (.ret (.inl (l, s, row, col, (((U.rowsF (U.hit l s row col side) (U.rowLen l) back l.length k').getD (0, 0)).1 : Int), (((U.rowsF (U.hit l s row col side) (U.rowLen l) back l.length k').getD (0, 0)).2 : Int), (0 : Int), side, l, back, r44_0)))
        (.ret (.inr (l, s, row, col, r1, r2, r3, side, l, back, r44_0))) : Tr R44T).val = some r := e2
  by_cases hk : k' ≤ l.length
  · have := R44r0_0 l s row col side back gk r1 r2 r3 (l.length - k') k' rl (by omega)
    revert this e2
    cases U.rowsF (U.hit l s row col side) (U.rowLen l) back l.length k' with
    | some c => intro e2 this; cases e2; exact this
    | none => intro e2 this; cases e2; exact this
  · rw [U.rowsF_end _ _ _ (by omega)] at e2
    cases e2
    refine .exit ?_
    simp only [b44r0_0, B44r0_0, Tr.val, show ¬ ((k' : Int) < (l.length : Int)) by omega, decide_false, cond_false]
noncomputable abbrev W44 (key : Nat) (y : VS) : Option (Tr (Ex × VS)) := bif Nat.beq key 1 then p44r0_0.ls (fun a => .ite (o44r0_0 a) ((T44r0_0 a).map X44r0_0) .fail) y else none
theorem run44 (l : List Line) (s : ByteArray) (row col side : Int) (back : Bool) (r1 r2 r3 : Int) :
    ((evI 2 (((E44.lend 0).told 0 (V44 W44)).inner (Nat.succ 10) (yldR (evI 2 ((E44.lend 0).told 0 (V44 W44)).round) (unV ((E44.lend 0).live (Nat.add 500 (loopKey (rg Tryd.f44 0).body))) (q44_0.V ((), (l, ()), (s, ()), (row, ()), (col, ()), (r1, ()), (r2, ()), (r3, ()), (side, ()), (l, ()), (back, ()), ()))).t 10)) (bodyOf Tryd.f143) (itSt ((E44.lend 0).told 0 (V44 W44)) (rg Tryd.f44 0).f (unV ((E44.lend 0).live (Nat.add 500 (loopKey (rg Tryd.f44 0).body))) (q44_0.V ((), (l, ()), (s, ()), (row, ()), (col, ()), (r1, ()), (r2, ()), (r3, ()), (side, ()), (l, ()), (back, ()), ()))) Tryd.f143 10 { ps := (rg Tryd.f44 0).ps.toList, asg := (rg Tryd.f44 0).asg, body := (rg Tryd.f44 0).body })).map fun r => (r.1, canV (Nat.succ 10) { ls := [] } r.2))
    = (Tr.ite (o44r0_0 (((l.length : Int), (0 : Int), ()), (l, ()), (s, ()), (row, ()), (col, ()), (r1, ()), (r2, ()), (r3, ()), (side, ()), (l, ()), (back, ()), r44_0, ())) (T44r0_0 (((l.length : Int), (0 : Int), ()), (l, ()), (s, ()), (row, ()), (col, ()), (r1, ()), (r2, ()), (r3, ()), (side, ()), (l, ()), (back, ()), r44_0, ())) .fail).map fun r => match X44r0_0 r with | (.exit _, v) => (.nrm, v) | (e, v) => (e, v) := by
  kernel_rfl
theorem env44 (l : List Line) (s : ByteArray) (row col side : Int) (back : Bool) (r1 r2 r3 : Int) : ((E44.lend 0).told 0 (V44 W44)).inner (Nat.succ (len (unV ((E44.lend 0).live (Nat.add 500 (loopKey (rg Tryd.f44 0).body))) (q44_0.V ((), (l, ()), (s, ()), (row, ()), (col, ()), (r1, ()), (r2, ()), (r3, ()), (side, ()), (l, ()), (back, ()), ()))).h)) (yldR (evI 2 ((E44.lend 0).told 0 (V44 W44)).round) (unV ((E44.lend 0).live (Nat.add 500 (loopKey (rg Tryd.f44 0).body))) (q44_0.V ((), (l, ()), (s, ()), (row, ()), (col, ()), (r1, ()), (r2, ()), (r3, ()), (side, ()), (l, ()), (back, ()), ()))).t (len (unV ((E44.lend 0).live (Nat.add 500 (loopKey (rg Tryd.f44 0).body))) (q44_0.V ((), (l, ()), (s, ()), (row, ()), (col, ()), (r1, ()), (r2, ()), (r3, ()), (side, ()), (l, ()), (back, ()), ()))).h)) = J44 0 W44 ((), (l, ()), (s, ()), (row, ()), (col, ()), (r1, ()), (r2, ()), (r3, ()), (side, ()), (l, ()), (back, ()), ()) := by kernel_rfl
theorem iter44 (l : List Line) (s : ByteArray) (row col side : Int) (back : Bool) (r1 r2 r3 : Int) : IterOK (evI 2) (evI 1) ((E44.lend 0).told 0 (V44 W44)) (rg Tryd.f44 0).f (unV ((E44.lend 0).live (Nat.add 500 (loopKey (rg Tryd.f44 0).body))) (q44_0.V ((), (l, ()), (s, ()), (row, ()), (col, ()), (r1, ()), (r2, ()), (r3, ()), (side, ()), (l, ()), (back, ()), ()))) :=
  iterOK_of (gf := 143) (caps := [8, 9]) (fn := Tryd.f143) (lcs := [lc Tryd.f143 0, lc Tryd.f143 1]) (by kernel_rfl) (by kernel_rfl) rfl (by kernel_rfl) (by kernel_rfl)
    (by rw [env44]; exact ⟨K44r0_0 0 W44 _ fun y => rfl, K44r0_1 0 (V44 W44) _ fun y => rfl⟩)
theorem range44 : RangeOK (evI 2) (E44.lend 0) (rg Tryd.f44 0) := by
  intro x tr rr h1 h2
  have h1 : q44_0.ls T44 x = some tr := h1
  unfold LP.ls at h1
  split at h1
  · rename_i a ha
    cases h1
    rw [LP.get_eq ha]
    clear ha
    obtain ⟨⟨_⟩, ⟨l, z0⟩, ⟨s, z1⟩, ⟨row, z2⟩, ⟨col, z3⟩, ⟨r1, z4⟩, ⟨r2, z5⟩, ⟨r3, z6⟩, ⟨side, z7⟩, ⟨l2, z8⟩, ⟨back, z9⟩, z10⟩ := a
    obtain ⟨g1, g2⟩ := pre_val h2
    rw [Bool.and_eq_true] at g1
    obtain ⟨gk, g3⟩ := g1
    have g3 := eqb_iff g3
    subst g3
    have gk : U.okl l = true := gk
    have hi := congrArg Tr.val (run44 l s row col side back r1 r2 r3)
    have t0 : (Tr.ite (o44r0_0 (((l.length : Int), (0 : Int), ()), (l, ()), (s, ()), (row, ()), (col, ()), (r1, ()), (r2, ()), (r3, ()), (side, ()), (l, ()), (back, ()), r44_0, ())) (T44r0_0 (((l.length : Int), (0 : Int), ()), (l, ()), (s, ()), (row, ()), (col, ()), (r1, ()), (r2, ()), (r3, ()), (side, ()), (l, ()), (back, ()), r44_0, ())) .fail).val =
        some (match U.rowsF (U.hit l s row col side) (U.rowLen l) back l.length 0 with | some p => (.inl (l, s, row, col, (p.1 : Int), (p.2 : Int), (0 : Int), side, l, back, r44_0) : R44T) | none => .inr (l, s, row, col, r1, r2, r3, side, l, back, r44_0)) := by
      simp only [o44r0_0, isRL_self, T44r0_0, Tr.val, gk, eqb_self, Int.toNat_zero, Bool.and_self, cond_true, Int.le_refl, and_self, decide_true]
      cases U.rowsF (U.hit l s row col side) (U.rowLen l) back l.length 0 <;> rfl
    have hi := hi.trans ((Tr.map_val _ _).trans (congrArg (Option.map _) t0))
    clear t0
    refine ⟨0, V44 W44, ?_⟩
    cases hf : U.rowsF (U.hit l s row col side) (U.rowLen l) back l.length 0 with
    | some p =>
      rw [hf] at hi
      have g4 : rr = (.ret, Y44 (p.1 : Int) (p.2 : Int) 0) := by
        have g2 : (Tr.ite (U.rowsF (U.hit l s row col side) (U.rowLen l) back l.length 0).isSome (.ret (.ret, Y44 (((U.rowsF (U.hit l s row col side) (U.rowLen l) back l.length 0).getD (0, 0)).1 : Int) (((U.rowsF (U.hit l s row col side) (U.rowLen l) back l.length 0).getD (0, 0)).2 : Int) 0)) (.ret (.nrm, Y44 r1 r2 r3)) : Tr (Ex × VS)).val = some rr := g2
        rw [hf] at g2; cases g2; rfl
      subst g4
      exact ⟨_, iter44 l s row col side back r1 r2 r3,
        range_run (k0 := 2) (g := 143) (caps := [8, 9]) (fn := Tryd.f143) (c := bodyOf Tryd.f143) (m := 10) (by kernel_rfl) (by kernel_rfl) rfl (by kernel_rfl) (by kernel_rfl) hi (.inr rfl) (pe := some .ret) (rl' := r44_0) rfl rfl, Prod.ext rfl (by kernel_rfl)⟩
    | none =>
      rw [hf] at hi
      have g4 : rr = (.nrm, Y44 r1 r2 r3) := by
        have g2 : (Tr.ite (U.rowsF (U.hit l s row col side) (U.rowLen l) back l.length 0).isSome (.ret (.ret, Y44 (((U.rowsF (U.hit l s row col side) (U.rowLen l) back l.length 0).getD (0, 0)).1 : Int) (((U.rowsF (U.hit l s row col side) (U.rowLen l) back l.length 0).getD (0, 0)).2 : Int) 0)) (.ret (.nrm, Y44 r1 r2 r3)) : Tr (Ex × VS)).val = some rr := g2
        rw [hf] at g2; cases g2; rfl
      subst g4
      exact ⟨_, iter44 l s row col side back r1 r2 r3,
        range_run (k0 := 2) (g := 143) (caps := [8, 9]) (fn := Tryd.f143) (c := bodyOf Tryd.f143) (m := 10) (by kernel_rfl) (by kernel_rfl) rfl (by kernel_rfl) (by kernel_rfl) hi (.inl rfl) (pe := none) (rl' := r44_0) rfl rfl, Prod.ext rfl (by kernel_rfl)⟩
  · cases h1
def d44 (a : List Line) (b : ByteArray) (c : Int) (y : Int) (f : Bool) : Tr (Int × Int × Int) :=
 let v1 : Bool := (U.okl a && Kd.eqb (Kd.sl link) a a)
 let v2 : Nat × Nat := (Option.getD (U.rowsF (U.hit a b c y (1 : Int)) (U.rowLen a) f (List.length a) (0 : Nat)) ((0 : Nat), (0 : Nat)))
 let v3 : Nat × Nat := (Option.getD (U.rowsF (U.hit a b c y (-1 : Int)) (U.rowLen a) f (List.length a) (0 : Nat)) ((0 : Nat), (0 : Nat)))
 Tr.ite (U.okl a && decide (U.cells a ≤ (1048576 : Nat))) (Tr.ite (!U.may a) (Tr.ret ((0 : Int), (0 : Int), (1 : Int))) (Tr.ite (!U.there a c y) (Tr.ret ((0 : Int), (0 : Int), (1 : Int))) (Tr.ite (decide (b = { data := #[] })) (Tr.ret ((0 : Int), (0 : Int), (1 : Int))) (Tr.ite (decide ((64 : Int) < (↑(ByteArray.size b) : Int))) (Tr.ret ((0 : Int), (0 : Int), (1 : Int))) (Tr.ite f (Tr.ite v1 (Tr.ite (Option.isSome (U.rowsF (U.hit a b c y (-1 : Int)) (U.rowLen a) f (List.length a) (0 : Nat))) (Tr.ret ((↑v3.fst : Int), (↑v3.snd : Int), (0 : Int))) (Tr.ret ((0 : Int), (0 : Int), (5 : Int)))) Tr.fail) (Tr.ite v1 (Tr.ite (Option.isSome (U.rowsF (U.hit a b c y (1 : Int)) (U.rowLen a) f (List.length a) (0 : Nat))) (Tr.ret ((↑v2.fst : Int), (↑v2.snd : Int), (0 : Int))) (Tr.ret ((0 : Int), (0 : Int), (5 : Int)))) Tr.fail)))))) Tr.fail
def e44 (r : Int × Int × Int) : FRes := { rs := Slot.tup [AV.one (Leaf.dat (.int .i64) r.fst), AV.one (Leaf.dat (.int .i64) r.snd.fst), AV.one (Leaf.dat (.int .i64) r.snd.snd)], upd := [], new := [] }
@[reducible] def a44 : List AK := [AK.d (Kd.sl link), AK.d Kd.str, AK.d (.int .i64), AK.d (.int .i64), AK.d Kd.bool]
@[reducible] def b44 : List BK := []
theorem t44 (a : List Line) (b : ByteArray) (c : Int) (y : Int) (f : Bool) : evFn (E44) Tryd.f44 [PM.data (.int .i64), PM.data (.int .i64), PM.data (.int .i64)] (akAV a44 (a, b, c, y, f, ())) (bkBs b44 ()) = (d44 a b c y f).map e44 := by kernel_rfl
def s44 (C : akT a44 → Bool) (G : akT a44 → Int × Int × Int) : FSpec := aspec a44 b44 e44 (fun x _ => C x) (fun x _ => G x)
theorem k44 {C : akT a44 → Bool} {G : akT a44 → Int × Int × Int} (hd : ∀ (a : List Line) (b : ByteArray) (c : Int) (y : Int) (f : Bool), C (a, b, c, y, f, ()) = true → (d44 a b c y f).val = some (G (a, b, c, y, f, ()))) (IO : ItOK Tryd.prog (E44) := by exact itOK_none rfl) (L : ∀ c, Tryd.f44.body = some c → LsOK (evI 2) ((E44).lend 0) c := by exact fun c _ => LsOK_none rfl c) : SpecOK Tryd.prog E0 44 (s44 C G) :=
  aspec_ok (ak := a44) (bl := b44) (e := e44) (c := fun x _ => C x) (g := fun x _ => G x) (E0 := E0) (E := E44) tab AG44 rfl rfl hm Tryd.func44 (by kernel_rfl) [PM.data (.int .i64), PM.data (.int .i64), PM.data (.int .i64)] (fun X Y H => by obtain ⟨a, ⟨b, ⟨c, ⟨y, ⟨f, _⟩⟩⟩⟩⟩ := X; exact val_of (t44 a b c y f) (hd a b c y f H)) IO L
theorem IO44 : ItOK Tryd.prog E44 := itOK_of (l := [(143, Tryd.f143)]) rfl (by
  intro p hp
  rw [List.mem_singleton] at hp
  subst hp
  exact ⟨Tryd.func143, by kernel_rfl⟩)
end Go.Proofs.YtmnbcnhpklejcaaDoor
namespace U
open Go.Proofs.YtmnbcnhpklejcaaDoor
def finds (l : List Ln) (s : ByteArray) (row col : Int) (back : Bool) : Option (Nat × Nat) := rowsF (hit l s row col (bif back then -1 else 1)) (rowLen l) back l.length 0
def findR (l : List Ln) (s : ByteArray) (row col : Int) (back : Bool) : Int × Int × Int :=
  bif !U.may l || (!there l row col || (decide (s = (⟨#[]⟩ : ByteArray)) || decide ((64 : Int) < (s.size : Int)))) then (0, 0, 1) else match finds l s row col back with | some p => ((p.1 : Int), (p.2 : Int), 0) | none => (0, 0, 5)
end U
namespace Go.Proofs.YtmnbcnhpklejcaaDoor
abbrev w44 : FSpec := s44 (fun x => U.okl x.1 && decide (U.cells x.1 ≤ 1048576)) fun x => U.findR x.1 x.2.1 x.2.2.1 x.2.2.2.1 x.2.2.2.2.1
theorem wk44 : SpecOK Tryd.prog E0 44 w44 := by
  refine k44 (fun l s row col back H => ?_) IO44 (L := ls_ok (lcs := []) (rgs := [rg Tryd.f44 0]) (by kernel_rfl) (by kernel_rfl) trivial range44)
  have H : (U.okl l && decide (U.cells l ≤ 1048576)) = true := H
  have gk : U.okl l = true := by rw [Bool.and_eq_true] at H; exact H.1
  have ge : (U.okl l && Kd.eqb (Kd.sl link) l l) = true := by rw [gk, eqb_self]; rfl
  show _ = some (U.findR l s row col back)
  simp only [d44, Tr.val, H, ge, cond_true]
  unfold U.findR U.finds
  cases U.may l
  · rfl
  cases U.there l row col
  · rfl
  by_cases h1 : s = (⟨#[]⟩ : ByteArray)
  · simp only [h1, decide_true, Bool.not_true, Bool.true_or, Bool.or_true, cond_true, cond_false]
  by_cases h2 : (64 : Int) < (s.size : Int)
  · simp only [h1, h2, decide_true, decide_false, Bool.not_true, Bool.false_or, Bool.or_true, cond_true, cond_false]
  simp only [h1, h2, decide_false, Bool.not_true, Bool.false_or, cond_false]
  cases back
  · simp only [cond_false]
    cases U.rowsF (U.hit l s row col 1) (U.rowLen l) false l.length 0 <;> rfl
  · simp only [cond_true]
    cases U.rowsF (U.hit l s row col (-1)) (U.rowLen l) true l.length 0 <;> rfl
def d47 : Tr (Bool) :=
 Tr.ite true (Tr.ite true (Tr.ite true (Tr.ret true) (Tr.ret false)) (Tr.ret false)) Tr.fail
def e47 (r : Bool) : FRes := { rs := Slot.av (AV.one (Leaf.dat Kd.bool r)), upd := [], new := [] }
@[reducible] def a47 : List AK := []
@[reducible] def b47 : List BK := []
theorem t47 : evFn (Env.withFns E0 [((44 : Nat), w44)]) Tryd.f47 [PM.data Kd.bool] (akAV a47 ()) (bkBs b47 ()) = (d47).map e47 := by kernel_rfl
def s47' (G : akT a47 → Bool) : FSpec := aspec0 a47 b47 e47 (fun x _ => G x)
theorem k47' {G : akT a47 → Bool} (hd : (d47).val = some (G ())) (IO : ItOK Tryd.prog (Env.withFns E0 [((44 : Nat), w44)]) := by exact itOK_none rfl) (L : ∀ c, Tryd.f47.body = some c → LsOK (evI 2) ((Env.withFns E0 [((44 : Nat), w44)]).lend 0) c := by exact fun c _ => LsOK_none rfl c) : SpecOK Tryd.prog E0 47 (s47' G) :=
  aspec0_ok (ak := a47) (bl := b47) (e := e47) (g := fun x _ => G x) (E0 := E0) (E := Env.withFns E0 [((44 : Nat), w44)]) tab (.cons wk44 .nil) rfl rfl hm Tryd.func47 (by kernel_rfl) [PM.data Kd.bool] (fun X Y => by exact val_of (t47) (hd)) IO L
abbrev w47 : FSpec := s47' fun _ => true
theorem wk47 : SpecOK Tryd.prog E0 47 w47 := k47' (by kernel_rfl)
end Go.Proofs.YtmnbcnhpklejcaaDoor
end
section
set_option linter.unusedVariables false
set_option linter.unusedSimpArgs false
set_option maxRecDepth 20000
set_option maxHeartbeats 4000000
open Go Go.Ev
namespace U
open Go.Proofs.YtmnbcnhpklejcaaDoor
theorem mayR_odd (y : Ln) : mayR y = !odd y.1 := by
  unfold mayR odd
  rw [Bool.not_not]
  by_cases h1 : 1 ≤ y.1.length
  · by_cases h2 : y.1.length ≤ 80
    · simp [h1, h2, show ¬ ((y.1.length : Int) < 1) by omega, show ¬ ((80 : Int) < (y.1.length : Int)) by omega]
    · simp [h1, h2, show ¬ ((y.1.length : Int) < 1) by omega, show ((80 : Int) < (y.1.length : Int)) by omega]
  · simp [h1, show ((y.1.length : Int) < 1) by omega]
theorem may_evens (l : List Ln) : mayL l = evens l := by
  unfold mayL evens
  rw [allN_list (q := mayR)]
  induction l with
  | nil => rfl
  | cons y l ih => rw [List.all_cons, List.any_cons, Bool.not_or, ih, mayR_odd]
theorem may_mayL (l : List Ln) : U.may l = (mayL l && decide ((l.length : Int) ≤ 200)) := by
  rw [may_evens]; rfl
theorem cells_few (l : List Ln) : ∀ n, cells (few l n) ≤ 82 * n := by
  intro n
  unfold few
  induction n generalizing l with
  | zero => simp [cells]
  | succ n ih =>
    cases l with
    | nil => simp [cells]
    | cons y l =>
      have h2 := ih l
      rw [List.take_succ_cons, List.map_cons]
      unfold cells
      have h3 : (cutL y.1).length ≤ 82 := by unfold cutL; rw [List.length_map, List.length_take]; omega
      have h4 : (cutL y.1, y.2.1, ()).1.length ≤ 82 := h3
      omega
end U
end
section
set_option linter.unusedVariables false
set_option linter.unusedSimpArgs false
set_option maxRecDepth 20000
set_option maxHeartbeats 4000000
open Go Go.Ev
namespace U
open Go.Proofs.YtmnbcnhpklejcaaDoor
def lt2 (x y : Nat × Nat) : Prop := x.1 < y.1 ∨ x.1 = y.1 ∧ x.2 < y.2
theorem behind_lt (i j a b : Nat) : behind (i : Int) (j : Int) (a : Int) (b : Int) = true ↔ lt2 (a, b) (i, j) := by
  unfold behind lt2
  simp only [Bool.or_eq_true, Bool.and_eq_true, decide_eq_true_eq]
  omega
end U
end
section
set_option linter.unusedVariables false
set_option linter.unusedSimpArgs false
set_option maxRecDepth 20000
set_option maxHeartbeats 4000000
open Go Go.Ev
namespace U
theorem bytesL_len (b : ByteArray) : (bytesL b).length = b.size := by simp [bytesL]
end U
end
section
set_option linter.unusedVariables false
set_option linter.unusedSimpArgs false
set_option maxRecDepth 20000
set_option maxHeartbeats 4000000
open Go Go.Ev
namespace Go.Ev
theorem Rounds.mapA {α β ρ τ : Type} {B : τ → Tr (τ ⊕ ρ)} (xs : List α) (st : Nat → List β → τ) (g : α → β) (fin : List β → ρ) (N : Nat)
    (hs : ∀ i s (h : i < xs.length), s.length + (xs.length - i) ≤ N → (B (st i s)).val = some (.inl (st (i + 1) (s ++ [g xs[i]])))) (he : ∀ s, (B (st xs.length s)).val = some (.inr (fin s))) (s0 : List β) (h0 : s0.length + xs.length ≤ N) :
    Rounds B (st 0 s0) (fin (s0 ++ xs.map g)) := by
  have := Rounds.fold0 (B := B) xs st (fun s c => s ++ [g c]) fin (fun i s => s.length + (xs.length - i) ≤ N) s0 (by omega) (fun i s hi hv => ⟨hs i s hi hv, by simp only [List.length_append, List.length_singleton]; omega⟩) (fun s _ => he s)
  have e : ∀ (l : List α) (a : List β), l.foldl (fun s c => s ++ [g c]) a = a ++ l.map g := by
    intro l
    induction l with
    | nil => intro a; simp
    | cons x l ih => intro a; rw [List.foldl_cons, ih]; simp
  rwa [e] at this
end Go.Ev
end
section
set_option linter.unusedVariables false
set_option linter.unusedSimpArgs false
set_option maxRecDepth 20000
set_option maxHeartbeats 4000000
open Go Go.Ev
namespace Go.Proofs.YtmnbcnhpklejcaaDoor
open Go.RowKit
def w176 : FSpec := { ps := [.data (.int .i64)], g := fun args bs => match args with
  | [.one (.dat (.int .i64) n)] => match bs with
    | [] => some { c := some (decide (1 ≤ (n : Int) ∧ (n : Int) ≤ 140737488355328)), rs := .av (.one (.room 0)), new := [.row 5 (.int .u8) []] }
    | _ => none
  | _ => none }
theorem wk176 : SpecOK Tryd.prog E0 176 w176 := by
  intro F O args bs r hr
  unfold w176 at hr
  simp only at hr
  split at hr
  · rename_i n
    split at hr
    · cases hr
      intro hc w K A vs H hv
      have hc : 1 ≤ (n : Int) ∧ (n : Int) ≤ 140737488355328 := by
        cases hd : decide (1 ≤ (n : Int) ∧ (n : Int) ≤ 140737488355328) with
        | true => exact of_decide_eq_true hd
        | false => exact absurd (by rw [hd]) hc
      obtain ⟨m, rfl⟩ := Int.eq_ofNat_of_zero_le (a := n) (Int.le_trans (by decide) hc.1)
      have hc : (1 : Int) ≤ (m : Int) ∧ (m : Int) ≤ 140737488355328 := hc
      cases hv with
      | cons h0 h1 =>
        cases h1
        rename_i v
        have h0 : [v] = [Value.int .i64 (m : Int)] := h0
        cases h0
        have hu : Tryd.prog.underlying 130 = some (.slice 5) := by kernel_rfl
        obtain ⟨cs, hrun, hle, hmax⟩ := Lib.run_makeNoZero (P := Tryd.prog) w #[3] 130 5 hu m (by omega)
        have hg : w.grownBy (w.drew.drew.alloc (.cells cs 5)) none := have g := World.grownBy_alloc (w.drew.drew) (.cells cs 5) none; ⟨g.os, g.tape, g.output, g.size, g.block⟩
        have hm : cs.size ≤ maxLen := hmax (by unfold maxLen; omega)
        have hnew : (w.drew.drew.alloc (.cells cs 5)).heap[w.heap.size]? = some (.cells cs 5 (0, 0)) := World.alloc_heap_new w.drew.drew _
        obtain ⟨K', A', H', x, s⟩ := new_row (e := 5) (k := .int .u8) (xs := []) (l := []) (v := .slice (some ⟨w.heap.size, 0, none⟩) 0 cs.size) (key := 0) (w' := w.drew.drew.alloc (.cells cs 5)) H rfl hg
          ⟨rfl, .inr ⟨w.heap.size, cs.size, cs, (0, 0), rfl, by omega, hnew, .inl rfl, by simp, hm, by show cs.size = cs.size * 1; omega, by simp⟩⟩ rfl (by decide)
          (fun g hg => by
            have hg : (if cs.size = 0 then none else some w.heap.size) = some g := hg
            split at hg
            · cases hg
            · cases hg; exact Nat.le_refl _)
        obtain ⟨hh, hhd, _⟩ := s
        obtain ⟨l, _, _, hm2, _⟩ := H'.blk 0 _ (show (Heap.sets (zipN 0 []) [(0, Blk.row 5 (.int .u8) [])]).get 0 = some (Blk.row 5 (.int .u8) []) from rfl)
        have e0 : ¬ cs.size = 0 := by omega
        have em : A'.m 0 = w.heap.size := by
          rw [← hhd] at hm2
          unfold ownB at hm2
          simp only [e0, if_false] at hm2
          rcases hm2 with h | h
          · cases h
          · exact (Option.some.inj h).symm
        refine .inl ⟨.slice (some ⟨w.heap.size, 0, none⟩) m cs.size, w.drew.drew.alloc (.cells cs 5), ?_, K', A', H', x, ?_, rfl⟩
        · rw [run_callFunc_extern Tryd.func176 (by kernel_rfl) (by kernel_rfl) (by kernel_rfl) (e := Extern.BytealgMakeNoZero.makeNoZero #[3] #[130]) (by kernel_rfl)]
          rw [show ([Value.int .i64 (m : Int)].toArray : Array Value) = #[.int .i64 m] from rfl, hrun]
          rfl
        · exact ⟨hh, m, cs.size, by rw [em]; exact hhd.symm, by rw [em], hle, by omega⟩
    · cases hr
  · cases hr
def d168 (b : Int) (h0_u : Bool) : Tr (Bool × List Int) :=
 let v1 : Int := (IntKind.wrap IntKind.i64 ((0 : Int) + b))
 Tr.ite (decide ((1 : Int) ≤ v1 ∧ v1 ≤ (140737488355328 : Int))) (Tr.ret (h0_u, putAt [] (0 : Nat) (List.take (0 : Nat) []))) Tr.fail
def e168 (r : Bool × List Int) : FRes := { rs := Slot.tup [], upd := [Blk.tb ( 132) r.fst [Leaf.srow ( 1)]], new := [Blk.row ( 5) (Kd.int IntKind.u8) r.snd] }
@[reducible] def a168 : List AK := [AK.c (Leaf.ptr (0 : Nat) (0 : Nat)), AK.d (.int .i64)]
@[reducible] def b168 : List BK := bldZ
theorem t168 (b : Int) (h0_u : Bool) : evFn (Env.withFns E0 [((176 : Nat), w176)]) Tryd.f168 [] (akAV a168 (b, ())) (bkBs b168 ((h0_u, ()), ())) = (d168 b h0_u).map e168 := by kernel_rfl
def s168 (C : akT a168 → bksT b168 → Bool) (G : akT a168 → bksT b168 → Bool × List Int) : FSpec := aspec a168 b168 e168 (C) (G)
theorem k168 {C : akT a168 → bksT b168 → Bool} {G : akT a168 → bksT b168 → Bool × List Int} (hd : ∀ (b : Int) (h0_u : Bool), C (b, ()) ((h0_u, ()), ()) = true → (d168 b h0_u).val = some (G (b, ()) ((h0_u, ()), ()))) (IO : ItOK Tryd.prog (Env.withFns E0 [((176 : Nat), w176)]) := by exact itOK_none rfl) (L : ∀ c, Tryd.f168.body = some c → LsOK (evI 2) ((Env.withFns E0 [((176 : Nat), w176)]).lend 1) c := by exact fun c _ => LsOK_none rfl c) : SpecOK Tryd.prog E0 168 (s168 C G) :=
  aspec_ok (ak := a168) (bl := b168) (e := e168) (c := C) (g := G) (E0 := E0) (E := Env.withFns E0 [((176 : Nat), w176)]) tab (.cons wk176 .nil) rfl rfl hm Tryd.func168 (by kernel_rfl) [] (fun X Y H => by obtain ⟨b, _⟩ := X; obtain ⟨⟨h0_u, _⟩, _⟩ := Y; exact val_of (t168 b h0_u) (hd b h0_u H)) IO L
abbrev w168 : FSpec := s168 (fun x _ => decide (1 ≤ (x.1 : Int) ∧ (x.1 : Int) ≤ 140737488355328)) fun _ y => (y.1.1, [])
theorem wk168 : SpecOK Tryd.prog E0 168 w168 := k168 fun n u H => by
  have H : 1 ≤ (n : Int) ∧ (n : Int) ≤ 140737488355328 := of_decide_eq_true H
  have e : IntKind.i64.wrap (0 + n) = n := by rw [Go.Ev.w64 (by omega) (by omega)]; omega
  simp only [d168, Tr.val, e, H.1, H.2, and_self, decide_true, cond_true]
  rfl
def d153 (b : Int) (h0_u : Bool) : Tr (Bool × List Int ⊕ Bool) :=
 Tr.ite (decide (b < (0 : Int))) Tr.fail (Tr.ite (decide ((0 : Int) < b)) (Tr.ite (decide ((1 : Int) ≤ b ∧ b ≤ (140737488355328 : Int))) (Tr.ret (Sum.inl (true, []))) Tr.fail) (Tr.ret (Sum.inr true)))
def e153 : Bool × List Int ⊕ Bool → FRes
  | (.inl r) => { rs := Slot.tup [], upd := [Blk.tb ( 132) r.fst [Leaf.srow ( 1)]], new := [Blk.row ( 5) (Kd.int IntKind.u8) r.snd] }
  | (.inr r) => { rs := Slot.tup [], upd := [Blk.tb ( 132) r [Leaf.nils]], new := [] }
@[reducible] def a153 : List AK := [AK.c (Leaf.ptr (0 : Nat) (0 : Nat)), AK.d (.int .i64)]
@[reducible] def b153 : List BK := bldZ
theorem t153 (b : Int) (h0_u : Bool) : evFn (Env.withFns E0 [((149 : Nat), Z.w149), ((168 : Nat), w168)]) Tryd.f153 [] (akAV a153 (b, ())) (bkBs b153 ((h0_u, ()), ())) = (d153 b h0_u).map e153 := by kernel_rfl
def s153 (C : akT a153 → bksT b153 → Bool) (G : akT a153 → bksT b153 → Bool × List Int ⊕ Bool) : FSpec := aspec a153 b153 e153 (C) (G)
theorem k153 {C : akT a153 → bksT b153 → Bool} {G : akT a153 → bksT b153 → Bool × List Int ⊕ Bool} (hd : ∀ (b : Int) (h0_u : Bool), C (b, ()) ((h0_u, ()), ()) = true → (d153 b h0_u).val = some (G (b, ()) ((h0_u, ()), ()))) (IO : ItOK Tryd.prog (Env.withFns E0 [((149 : Nat), Z.w149), ((168 : Nat), w168)]) := by exact itOK_none rfl) (L : ∀ c, Tryd.f153.body = some c → LsOK (evI 2) ((Env.withFns E0 [((149 : Nat), Z.w149), ((168 : Nat), w168)]).lend 1) c := by exact fun c _ => LsOK_none rfl c) : SpecOK Tryd.prog E0 153 (s153 C G) :=
  aspec_ok (ak := a153) (bl := b153) (e := e153) (c := C) (g := G) (E0 := E0) (E := Env.withFns E0 [((149 : Nat), Z.w149), ((168 : Nat), w168)]) tab (.cons Z.wk149 (.cons wk168 .nil)) rfl rfl hm Tryd.func153 (by kernel_rfl) [] (fun X Y H => by obtain ⟨b, _⟩ := X; obtain ⟨⟨h0_u, _⟩, _⟩ := Y; exact val_of (t153 b h0_u) (hd b h0_u H)) IO L
abbrev w153 : FSpec := s153 (fun x _ => decide (1 ≤ (x.1 : Int) ∧ (x.1 : Int) ≤ 140737488355328)) fun _ _ => .inl (true, [])
theorem wk153 : SpecOK Tryd.prog E0 153 w153 := k153 fun n u H => by
  have H : 1 ≤ (n : Int) ∧ (n : Int) ≤ 140737488355328 := of_decide_eq_true H
  have h1 : ¬ n < 0 := by omega
  have h2 : 0 < n := by omega
  simp only [d153, Tr.val, h1, h2, H.1, H.2, and_self, decide_true, decide_false, cond_true, cond_false]
def live127 (key : Nat) : Lv :=
  bif Nat.beq key 22 then { ls := [1, 8, 63, 64, 65] } else bif Nat.beq key 1022 then { ls := [8] } else
  bif Nat.beq key 12 then { ls := [0, 1, 5, 39, 40, 41] } else bif Nat.beq key 1012 then { ls := [0, 1, 5] } else
  bif Nat.beq key 9997 then { ls := [132] } else
  { ls := [] }
abbrev G127 : List (Nat × FSpec) := [(153, w153), (112, w112), (114, w114)]
theorem AG127 : AllFn Tryd.prog E0 G127 := .cons wk153 (.cons wk112 (.cons wk114 .nil))
abbrev M127 (ls : Nat → VS → Option (Tr (Ex × VS))) : Env := (E0.withFns G127).loops live127 ls
@[reducible] def p127_0 : LP := { n := 75, sl := [.d (Kd.sl Kd.str), .d (Kd.str), .d (.int .i64), .d (Kd.sl Kd.str), .d (.int .i64), .d (.int .i64)], bl := [] }
def B127_0 (x0 : List ByteArray) (x1 : ByteArray) (x2 : Int) (x3 : List ByteArray) (x4 : Int) (x5 : Int) : Tr (p127_0.T ⊕ (List ByteArray × ByteArray × Int)) :=
 let v1 : Int := ((↑(ByteArray.size (rget Kd.str x3 x5)) : Int))
 let v2 : Int := (IntKind.wrap IntKind.i64 ((9223372036854775807 : Int) - x2))
 Tr.ite (decide (x5 < x4)) (Tr.ite (inB x5 (List.length x3)) (Tr.ite (decide (v2 < v1)) Tr.fail (Tr.ret (Sum.inl ((x0, x1, IntKind.wrap IntKind.i64 (x2 + v1), x3, x4, IntKind.wrap IntKind.i64 (x5 + (1 : Int)), ()), ())))) Tr.fail) (Tr.ret (Sum.inr (x0, x1, x2)))
def X127_0 (r : (List ByteArray × ByteArray × Int)) : Ex × VS := Prod.mk (Ex.exit ( 1)) { n := 75, v := [Slot.av (AV.one (Leaf.dat (Kd.sl Kd.str) r.fst)), Slot.av (AV.one (Leaf.dat Kd.str r.snd.fst)), Slot.av (AV.one (Leaf.dat (.int .i64) r.snd.snd))], h := [] }
def b127_0 : p127_0.T → Tr (p127_0.T ⊕ (List ByteArray × ByteArray × Int)) := fun ⟨⟨x0, ⟨x1, ⟨x2, ⟨x3, ⟨x4, ⟨x5, _⟩⟩⟩⟩⟩⟩, _⟩ => B127_0 x0 x1 x2 x3 x4 x5
theorem h127_0 (ls : Nat → VS → Option (Tr (Ex × VS))) (x : p127_0.T) : (evC (evI 2) (lc Tryd.f127 0) (Env.lend (M127 ls) 0) (unV (live127 12) (p127_0.V x))).map (decL 0 (live127 12) (live127 1012)) = (b127_0 x).map (encR p127_0.V X127_0) := by
  obtain ⟨⟨x0, ⟨x1, ⟨x2, ⟨x3, ⟨x4, ⟨x5, _⟩⟩⟩⟩⟩⟩, _⟩ := x; kernel_rfl
theorem c127_0 (x : p127_0.T) : canV 0 (live127 12) (unV (live127 12) (p127_0.V x)) = p127_0.V x := by
  obtain ⟨⟨x0, ⟨x1, ⟨x2, ⟨x3, ⟨x4, ⟨x5, _⟩⟩⟩⟩⟩⟩, _⟩ := x; kernel_rfl
theorem l127_0 {T : p127_0.T → Tr (List ByteArray × ByteArray × Int)} {ls : Nat → VS → Option (Tr (Ex × VS))} (hls : ∀ x, (Env.lend (M127 ls) 0).ls 12 x = p127_0.ls (fun a => (T a).map X127_0) x) (hS : ∀ x r, (T x).val = some r → Rounds b127_0 x r) : LoopOK (evI 2) (Env.lend (M127 ls) 0) (lc Tryd.f127 0) :=
  loopA 12 (live127 12) (live127 1012) p127_0 b127_0 X127_0 T (by kernel_rfl) rfl rfl hls (h127_0 ls) c127_0 hS
end Go.Proofs.YtmnbcnhpklejcaaDoor
namespace U
def sumS (l : List ByteArray) : Nat := (l.map ByteArray.size).sum
def joinI (sep : ByteArray) : List ByteArray → List Int
  | [] => []
  | x :: r => bytesL x ++ r.flatMap fun y => bytesL sep ++ bytesL y
end U
namespace Go.Proofs.YtmnbcnhpklejcaaDoor
def T127_0 (x : p127_0.T) : Tr (List ByteArray × ByteArray × Int) :=
  match x with
  | ⟨⟨x0, x1, n, l, m, i, _⟩, _⟩ => .ite (decide (0 ≤ (n : Int) ∧ (m : Int) = (List.length (α := ByteArray) l : Int) ∧ (i : Int) = 0 ∧ List.length (α := ByteArray) l ≤ 1048576 ∧ (n : Int) + (U.sumS l : Int) ≤ 140737488355328)) (.ret (x0, x1, n + (U.sumS l : Int))) .fail
abbrev N127 (ls : Nat → VS → Option (Tr (Ex × VS))) : Env := M127 fun key x => bif Nat.beq key 12 then p127_0.ls (fun a => (T127_0 a).map X127_0) x else ls key x
theorem R127_0 (x0 l : List ByteArray) (x1 : ByteArray) (hl : l.length ≤ 1048576) : ∀ (k i n : Nat), i + k = l.length → n + U.sumS (l.drop i) ≤ 140737488355328 →
    Rounds b127_0 ((x0, x1, (n : Int), l, (l.length : Int), (i : Int), ()), ()) (x0, x1, ((n + U.sumS (l.drop i) : Nat) : Int))
  | 0, i, n, e, _ => by
    have e : i = l.length := by omega
    subst e
    rw [List.drop_length]
    refine .exit ?_
    simp [b127_0, B127_0, Tr.val, U.sumS]
  | k + 1, i, n, e, hb => by
    have hi : i < l.length := by omega
    have e1 : rget .str l (i : Int) = l[i] := by rw [rget_nat]; exact getD_el hi
    have hs : U.sumS (l.drop i) = l[i].size + U.sumS (l.drop (i + 1)) := by rw [List.drop_eq_getElem_cons hi]; rfl
    rw [hs] at hb ⊢
    have c1 : decide ((i : Int) < (l.length : Int)) = true := decide_eq_true (by omega)
    have e2 : IntKind.i64.wrap ((9223372036854775807 : Int) - (n : Int)) = 9223372036854775807 - (n : Int) := Go.Ev.w64 (by omega) (by omega)
    have c2 : decide ((9223372036854775807 : Int) - (n : Int) < (l[i].size : Int)) = false := decide_eq_false (by omega)
    have e3 : IntKind.i64.wrap ((n : Int) + (l[i].size : Int)) = ((n + l[i].size : Nat) : Int) := by rw [Go.Ev.w64 (by omega) (by omega)]; omega
    have ih := R127_0 x0 l x1 hl k (i + 1) (n + l[i].size) (by omega) (by omega)
    rw [Nat.add_assoc] at ih
    refine .step ?_ ih
    simp only [b127_0, B127_0, Tr.val, e1, e2, e3, c1, c2, inB_nat hi, cond_true, cond_false, wrap64_nat (show i ≤ 1048576 by omega)]
theorem L127_0 {ls : Nat → VS → Option (Tr (Ex × VS))} : LoopOK (evI 2) ((N127 ls).lend 0) (lc Tryd.f127 0) := by
  refine l127_0 (T := T127_0) (fun x => rfl) ?_
  rintro ⟨⟨x0, x1, n, l, m, i, z⟩, z1⟩ r hh
  obtain ⟨g1, g2⟩ := pre_val hh
  have g1 : 0 ≤ (n : Int) ∧ (m : Int) = (l.length : Int) ∧ (i : Int) = 0 ∧ l.length ≤ 1048576 ∧ (n : Int) + (U.sumS l : Int) ≤ 140737488355328 := of_decide_eq_true g1
  obtain ⟨h1, rfl, rfl, h2, h3⟩ := g1
  obtain ⟨q, rfl⟩ := Int.eq_ofNat_of_zero_le h1
  cases g2
  have h3 : (q : Int) + (U.sumS l : Int) ≤ 140737488355328 := h3
  have := R127_0 x0 l x1 h2 l.length 0 q (by omega) (by rw [List.drop_zero]; omega)
  rw [List.drop_zero] at this
  exact this
@[reducible] def p127_1 : LP := { n := 75, sl := [.d (Kd.str), .c (Leaf.ptr ( 0) ( 0)), .d (Kd.sl Kd.str), .d (.int .i64), .d (.int .i64)], bl := [(0, .tb 132 [.c (Leaf.srow ( 1))]), (1, .row 5 (Kd.int IntKind.u8))] }
def B127_1 (x0 : ByteArray) (x2 : List ByteArray) (x3 : Int) (x4 : Int) (h0_u : Bool) (h1 : List Int) : Tr (p127_1.T ⊕ (Bool × List Int)) :=
 Tr.ite (decide (x4 < x3)) (Tr.ite (inB x4 (List.length x2)) (Tr.ite (decide (List.length h1 + ByteArray.size x0 ≤ (140737488355328 : Nat))) (Tr.ite (decide (List.length (List.append h1 (bytesL x0)) + ByteArray.size (rget Kd.str x2 x4) ≤ (140737488355328 : Nat))) (Tr.ret (Sum.inl ((x0, x2, x3, IntKind.wrap IntKind.i64 (x4 + (1 : Int)), ()), (true, ()), List.append (List.append h1 (bytesL x0)) (bytesL (rget Kd.str x2 x4)), ()))) Tr.fail) Tr.fail) Tr.fail) (Tr.ret (Sum.inr (h0_u, h1)))
def X127_1 (r : (Bool × List Int)) : Ex × VS := Prod.mk (Ex.exit ( 3)) { n := 75, v := [Slot.av (AV.one (Leaf.ptr ( 0) ( 0)))], h := [( 0, Blk.tb ( 132) r.fst [Leaf.srow ( 1)]), ( 1, Blk.row ( 5) (Kd.int IntKind.u8) r.snd)] }
def b127_1 : p127_1.T → Tr (p127_1.T ⊕ (Bool × List Int)) := fun ⟨⟨x0, ⟨x2, ⟨x3, ⟨x4, _⟩⟩⟩⟩, ⟨⟨h0_u, _⟩, ⟨h1, _⟩⟩⟩ => B127_1 x0 x2 x3 x4 h0_u h1
theorem h127_1 (ls : Nat → VS → Option (Tr (Ex × VS))) (x : p127_1.T) : (evC (evI 2) (lc Tryd.f127 1) (Env.lend (N127 ls) 0) (unV (live127 22) (p127_1.V x))).map (decL 0 (live127 22) (live127 1022)) = (b127_1 x).map (encR p127_1.V X127_1) := by
  obtain ⟨⟨x0, ⟨x2, ⟨x3, ⟨x4, _⟩⟩⟩⟩, ⟨⟨h0_u, _⟩, ⟨h1, _⟩⟩⟩ := x; kernel_rfl
theorem c127_1 (x : p127_1.T) : canV 0 (live127 22) (unV (live127 22) (p127_1.V x)) = p127_1.V x := by
  obtain ⟨⟨x0, ⟨x2, ⟨x3, ⟨x4, _⟩⟩⟩⟩, ⟨⟨h0_u, _⟩, ⟨h1, _⟩⟩⟩ := x; kernel_rfl
theorem l127_1 {T : p127_1.T → Tr (Bool × List Int)} {ls : Nat → VS → Option (Tr (Ex × VS))} (hls : ∀ x, (Env.lend (N127 ls) 0).ls 22 x = p127_1.ls (fun a => (T a).map X127_1) x) (hS : ∀ x r, (T x).val = some r → Rounds b127_1 x r) : LoopOK (evI 2) (Env.lend (N127 ls) 0) (lc Tryd.f127 1) :=
  loopA 22 (live127 22) (live127 1022) p127_1 b127_1 X127_1 T (by kernel_rfl) rfl rfl hls (h127_1 ls) c127_1 hS
theorem sumS_cons (y : ByteArray) (l : List ByteArray) : U.sumS (y :: l) = y.size + U.sumS l := rfl
def T127_1 (x : p127_1.T) : Tr (Bool × List Int) :=
  match x with
  | ⟨⟨sep, l, n, i, _⟩, ⟨u, _⟩, bs, _⟩ => .ite (decide ((n : Int) = (List.length (α := ByteArray) l : Int) ∧ (i : Int) = 0 ∧ List.length (α := ByteArray) l ≤ 1048576 ∧ List.length (α := Int) bs + (U.sumS l + List.length (α := ByteArray) l * ByteArray.size sep) ≤ 140737488355328))
      (.ret ((u || !decide (List.length (α := ByteArray) l = 0)), List.append (α := Int) bs (List.flatMap (fun y => bytesL sep ++ bytesL y) l))) .fail
abbrev E127 : Env := N127 fun key x => bif Nat.beq key 22 then p127_1.ls (fun a => (T127_1 a).map X127_1) x else none
theorem R127_1 (l : List ByteArray) (sep : ByteArray) (hl : l.length ≤ 1048576) : ∀ (k i : Nat) (u : Bool) (bs : List Int), i + k = l.length → bs.length + (U.sumS (l.drop i) + k * sep.size) ≤ 140737488355328 →
    Rounds b127_1 ((sep, l, (l.length : Int), (i : Int), ()), (u, ()), bs, ()) ((u || !decide (k = 0)), bs ++ (l.drop i).flatMap fun y => bytesL sep ++ bytesL y)
  | 0, i, u, bs, e, _ => by
    have e : i = l.length := by omega
    subst e
    rw [List.drop_length]
    refine .exit ?_
    have c : decide ((l.length : Int) < (l.length : Int)) = false := decide_eq_false (by omega)
    simp only [b127_1, B127_1, Tr.val, c, cond_false]
    simp
  | k + 1, i, u, bs, e, hb => by
    have hi : i < l.length := by omega
    have e1 : rget .str l (i : Int) = l[i] := by rw [rget_nat]; exact getD_el hi
    rw [List.drop_eq_getElem_cons hi] at hb ⊢
    rw [sumS_cons] at hb
    rw [Nat.add_mul] at hb
    have c1 : decide ((i : Int) < (l.length : Int)) = true := decide_eq_true (by omega)
    have e2 : (List.append bs (bytesL sep)).length = bs.length + sep.size := by rw [← U.bytesL_len sep]; exact List.length_append
    have c2 : decide (bs.length + sep.size ≤ 140737488355328) = true := decide_eq_true (by omega)
    have c3 : decide (bs.length + sep.size + l[i].size ≤ 140737488355328) = true := decide_eq_true (by omega)
    have ih := R127_1 l sep hl k (i + 1) true (bs ++ (bytesL sep ++ bytesL l[i])) (by omega) (by rw [List.length_append, List.length_append, U.bytesL_len, U.bytesL_len]; omega)
    rw [List.append_assoc, ← List.flatMap_cons (f := fun y => bytesL sep ++ bytesL y), Bool.true_or] at ih
    rw [show (u || !decide (k + 1 = 0)) = true by simp]
    refine .step ?_ ih
    simp only [b127_1, B127_1, Tr.val, e1, e2, c1, c2, c3, inB_nat hi, cond_true, wrap64_nat (show i ≤ 1048576 by omega)]
    rw [← List.append_assoc bs]
    rfl
theorem L127_1 : LoopOK (evI 2) (E127.lend 0) (lc Tryd.f127 1) := by
  refine l127_1 (T := T127_1) (fun x => rfl) ?_
  rintro ⟨⟨sep, l, n, i, z⟩, ⟨u, z1⟩, bs, z2⟩ r hh
  obtain ⟨g1, g2⟩ := pre_val hh
  have g1 : (n : Int) = (l.length : Int) ∧ (i : Int) = 0 ∧ l.length ≤ 1048576 ∧ bs.length + (U.sumS l + l.length * sep.size) ≤ 140737488355328 := of_decide_eq_true g1
  obtain ⟨rfl, rfl, h2, h3⟩ := g1
  cases g2
  have := R127_1 l sep h2 l.length 0 u bs (by omega) (by rw [List.drop_zero]; exact h3)
  rw [List.drop_zero] at this
  exact this
def d127 (a : List ByteArray) (b : ByteArray) : Tr (ByteArray) :=
 let v1 : Int := ((↑(List.length a) : Int))
 let v2 : Int := ((↑(List.length a) : Int))
 let v3 : Bool := (inB (0 : Int) (List.length a))
 let v4 : List ByteArray := (sub a (1 : Nat) (List.length a))
 let v5 : List Int := (List.append [] (bytesL (rget Kd.str a (0 : Int))))
 let v6 : Int := ((↑(List.length v4) : Int))
 let v7 : Int := ((↑(List.length v4) : Int))
 let v8 : Int := (IntKind.wrap IntKind.i64 (v2 - (1 : Int)))
 let v9 : Int := (IntKind.wrap IntKind.i64 (Int.tdiv (9223372036854775807 : Int) v8))
 let v10 : Int := (IntKind.wrap IntKind.i64 ((0 : Int) + IntKind.wrap IntKind.i64 ((↑(ByteArray.size b) : Int) * v8)))
 Tr.ite (decide (v2 = (0 : Int))) (Tr.ret { data := #[] }) (Tr.ite (decide (v2 = (1 : Int))) (Tr.ite v3 (Tr.ret (rget Kd.str a (0 : Int))) Tr.fail) (Tr.ite (decide ((0 : Int) < (↑(ByteArray.size b) : Int))) (Tr.ite (!decide (v8 = (0 : Int))) (Tr.ite (decide (v9 ≤ (↑(ByteArray.size b) : Int))) Tr.fail (Tr.ite (decide ((0 : Int) ≤ v10 ∧ v2 = v1 ∧ (0 : Int) = (0 : Int) ∧ List.length a ≤ (1048576 : Nat) ∧ v10 + (↑(U.sumS a) : Int) ≤ (140737488355328 : Int))) (Tr.ite (decide ((1 : Int) ≤ v10 + (↑(U.sumS a) : Int) ∧ v10 + (↑(U.sumS a) : Int) ≤ (140737488355328 : Int))) (Tr.ite v3 (Tr.ite (decide ((0 : Nat) + ByteArray.size (rget Kd.str a (0 : Int)) ≤ (140737488355328 : Nat))) (Tr.ite (decide ((0 : Int) ≤ (1 : Int) ∧ (1 : Int) ≤ v2)) (Tr.ite (decide (v7 = v6 ∧ (0 : Int) = (0 : Int) ∧ List.length v4 ≤ (1048576 : Nat) ∧ List.length v5 + (U.sumS v4 + List.length v4 * ByteArray.size b) ≤ (140737488355328 : Nat))) (Tr.ret (strOf (List.append v5 (List.flatMap (fun (y : ByteArray) => bytesL b ++ bytesL y) v4)))) Tr.fail) Tr.fail) Tr.fail) Tr.fail) Tr.fail) Tr.fail)) Tr.fail) (Tr.ite (decide ((0 : Int) ≤ (0 : Int) ∧ v2 = v1 ∧ (0 : Int) = (0 : Int) ∧ List.length a ≤ (1048576 : Nat) ∧ (0 : Int) + (↑(U.sumS a) : Int) ≤ (140737488355328 : Int))) (Tr.ite (decide ((1 : Int) ≤ (0 : Int) + (↑(U.sumS a) : Int) ∧ (0 : Int) + (↑(U.sumS a) : Int) ≤ (140737488355328 : Int))) (Tr.ite v3 (Tr.ite (decide ((0 : Nat) + ByteArray.size (rget Kd.str a (0 : Int)) ≤ (140737488355328 : Nat))) (Tr.ite (decide ((0 : Int) ≤ (1 : Int) ∧ (1 : Int) ≤ v2)) (Tr.ite (decide (v7 = v6 ∧ (0 : Int) = (0 : Int) ∧ List.length v4 ≤ (1048576 : Nat) ∧ List.length v5 + (U.sumS v4 + List.length v4 * ByteArray.size b) ≤ (140737488355328 : Nat))) (Tr.ret (strOf (List.append v5 (List.flatMap (fun (y : ByteArray) => bytesL b ++ bytesL y) v4)))) Tr.fail) Tr.fail) Tr.fail) Tr.fail) Tr.fail) Tr.fail)))
def e127 (r : ByteArray) : FRes := { rs := Slot.av (AV.one (Leaf.dat Kd.str r)), upd := [], new := [] }
@[reducible] def a127 : List AK := [AK.d (Kd.sl Kd.str), AK.d Kd.str]
@[reducible] def b127 : List BK := []
theorem t127 (a : List ByteArray) (b : ByteArray) : evFn (E127) Tryd.f127 [PM.data Kd.str] (akAV a127 (a, b, ())) (bkBs b127 ()) = (d127 a b).map e127 := by kernel_rfl
def s127 (C : akT a127 → Bool) (G : akT a127 → ByteArray) : FSpec := aspec a127 b127 e127 (fun x _ => C x) (fun x _ => G x)
theorem k127 {C : akT a127 → Bool} {G : akT a127 → ByteArray} (hd : ∀ (a : List ByteArray) (b : ByteArray), C (a, b, ()) = true → (d127 a b).val = some (G (a, b, ()))) (IO : ItOK Tryd.prog (E127) := by exact itOK_none rfl) (L : ∀ c, Tryd.f127.body = some c → LsOK (evI 2) ((E127).lend 0) c := by exact fun c _ => LsOK_none rfl c) : SpecOK Tryd.prog E0 127 (s127 C G) :=
  aspec_ok (ak := a127) (bl := b127) (e := e127) (c := fun x _ => C x) (g := fun x _ => G x) (E0 := E0) (E := E127) tab AG127 rfl rfl hm Tryd.func127 (by kernel_rfl) [PM.data Kd.str] (fun X Y H => by obtain ⟨a, ⟨b, _⟩⟩ := X; exact val_of (t127 a b) (hd a b H)) IO L
abbrev w127 : FSpec := s127 (fun x => decide (1 ≤ ByteArray.size x.2.1 ∧ ByteArray.size x.2.1 ≤ 1048576 ∧ List.length (α := ByteArray) x.1 ≤ 1048576 ∧ U.sumS x.1 + List.length (α := ByteArray) x.1 * ByteArray.size x.2.1 ≤ 140737488355328)) fun x => strOf (U.joinI x.2.1 x.1)
theorem wk127 : SpecOK Tryd.prog E0 127 w127 := by
  refine k127 (fun l sep H => ?_) (L := ls_ok (lcs := [lc Tryd.f127 0, lc Tryd.f127 1]) (rgs := []) (by kernel_rfl) (by kernel_rfl) ⟨L127_0, L127_1⟩ trivial)
  have H : 1 ≤ sep.size ∧ sep.size ≤ 1048576 ∧ l.length ≤ 1048576 ∧ U.sumS l + l.length * sep.size ≤ 140737488355328 := of_decide_eq_true H
  obtain ⟨h1, h2, h3, h4⟩ := H
  show _ = some (strOf (U.joinI sep l))
  match l, h3, h4 with
  | [], _, _ => rfl
  | [x], _, _ =>
    show some x = some (strOf (bytesL x ++ []))
    rw [List.append_nil, U.strOf_bytes]
  | x :: y :: r, h3, h4 =>
    generalize hl : y :: r = r' at *
    have hr : 1 ≤ r'.length := by rw [← hl]; simp
    rw [List.length_cons] at h3
    rw [sumS_cons, List.length_cons, Nat.add_mul, Nat.one_mul] at h4
    have k0 : ((x :: r').length : Int) = ((r'.length + 1 : Nat) : Int) := rfl
    have k1 : IntKind.i64.wrap (((r'.length + 1 : Nat) : Int) - 1) = ((r'.length : Nat) : Int) := by rw [Go.Ev.w64 (by omega) (by omega)]; omega
    have k2 : decide (((r'.length + 1 : Nat) : Int) = 0) = false := decide_eq_false (by omega)
    have k3 : decide (((r'.length + 1 : Nat) : Int) = 1) = false := decide_eq_false (by omega)
    have k4 : decide ((0 : Int) < (sep.size : Int)) = true := decide_eq_true (by omega)
    have k5 : decide (((r'.length : Nat) : Int) = 0) = false := decide_eq_false (by omega)
    have q0 : Int.tdiv 9223372036854775807 ((r'.length : Nat) : Int) = 9223372036854775807 / ((r'.length : Nat) : Int) := Int.tdiv_eq_ediv_of_nonneg (by decide)
    have q1 : 1048577 ≤ (9223372036854775807 : Int) / ((r'.length : Nat) : Int) := Int.le_ediv_of_mul_le (by omega) (by omega)
    have q2 : (9223372036854775807 : Int) / ((r'.length : Nat) : Int) ≤ 9223372036854775807 := Int.ediv_le_self _ (by decide)
    have k6 : decide (IntKind.i64.wrap (Int.tdiv 9223372036854775807 ((r'.length : Nat) : Int)) ≤ (sep.size : Int)) = false := by
      rw [q0, Go.Ev.w64 (by omega) q2]
      exact decide_eq_false (by omega)
    have k7 : (sep.size : Int) * ((r'.length : Nat) : Int) = ((r'.length * sep.size : Nat) : Int) := by rw [Nat.mul_comm]; exact (Int.natCast_mul _ _).symm
    generalize hp : r'.length * sep.size = p at *
    have k8 : IntKind.i64.wrap ((0 : Int) + IntKind.i64.wrap ((p : Nat) : Int)) = ((p : Nat) : Int) := by
      rw [Go.Ev.w64 (n := ((p : Nat) : Int)) (by omega) (by omega), Int.zero_add, Go.Ev.w64 (by omega) (by omega)]
    have hp1 : 1 ≤ p := by rw [← hp]; exact Nat.mul_le_mul hr h1
    have e1 : rget .str (x :: r') (0 : Int) = x := rfl
    have e2 : sub (x :: r') 1 (r'.length + 1) = r' := by
      unfold sub
      rw [List.take_of_length_le (by simp)]
      rfl
    have e3 : (List.append ([] : List Int) (bytesL x)).length = x.size := U.bytesL_len x
    have e4 : inB (0 : Int) (r'.length + 1) = true := inB_nat (i := 0) (by omega)
    have c1 : decide ((0 : Int) ≤ ((p : Nat) : Int) ∧ ((r'.length + 1 : Nat) : Int) = ((r'.length + 1 : Nat) : Int) ∧ (0 : Int) = 0 ∧ r'.length + 1 ≤ 1048576 ∧ ((p : Nat) : Int) + ((x.size + U.sumS r' : Nat) : Int) ≤ 140737488355328) = true := decide_eq_true (by omega)
    have c2 : decide ((1 : Int) ≤ ((p : Nat) : Int) + ((x.size + U.sumS r' : Nat) : Int) ∧ ((p : Nat) : Int) + ((x.size + U.sumS r' : Nat) : Int) ≤ 140737488355328) = true := decide_eq_true (by omega)
    have c3 : decide (0 + x.size ≤ 140737488355328) = true := decide_eq_true (by omega)
    have c4 : decide ((0 : Int) ≤ 1 ∧ (1 : Int) ≤ ((r'.length + 1 : Nat) : Int)) = true := decide_eq_true (by omega)
    have c5 : decide (((r'.length : Nat) : Int) = ((r'.length : Nat) : Int) ∧ (0 : Int) = 0 ∧ r'.length ≤ 1048576 ∧ x.size + (U.sumS r' + p) ≤ 140737488355328) = true := decide_eq_true (by omega)
    simp only [d127, Tr.val, List.length_cons, sumS_cons, k1, k2, k3, k4, k5, k6, k7, k8, e1, e2, e3, e4, hp, c1, c2, c3, c4, c5, Bool.not_false, cond_true, cond_false]
    have a1 : (0 : Int) ≤ ((p : Nat) : Int) := by omega
    have a2 : r'.length + 1 ≤ 1048576 := by omega
    have a3 : ((p : Nat) : Int) + ((x.size + U.sumS r' : Nat) : Int) ≤ 140737488355328 := by omega
    have a4 : r'.length ≤ 1048576 := by omega
    have a5 : x.size + (U.sumS r' + p) ≤ 140737488355328 := by omega
    simp only [a1, a2, a3, a4, a5, and_self, decide_true, cond_true]
    rfl
end Go.Proofs.YtmnbcnhpklejcaaDoor
namespace U
def bareN (s : ByteArray) (c : Int) : Nat → Nat
  | 0 => 0
  | n + 1 => bif decide (bt s (n : Int) = c) then bareN s c n else n + 1
theorem bareN_le (s : ByteArray) (c : Int) : ∀ n, bareN s c n ≤ n
  | 0 => Nat.le_refl _
  | n + 1 => by
    unfold bareN
    have := bareN_le s c n
    cases decide (bt s (n : Int) = c)
    · exact Nat.le_refl _
    · exact Nat.le_succ_of_le this
def bareS (s : ByteArray) : ByteArray := s.extract 0 (bareN s 32 s.size)
theorem bt_extract (s : ByteArray) {i n : Nat} (h : i < n) (hn : n ≤ s.size) : bt (s.extract 0 n) (i : Int) = bt s (i : Int) := by
  unfold bt
  simp only [Int.toNat_natCast]
  congr 2
  rw [ByteArray.data_extract]
  simp [Array.getD_eq_getD_getElem?, Array.getElem?_extract]
  rw [if_pos (by
    have : s.data.size = s.size := rfl
    omega)]
theorem extract_extract (s : ByteArray) {i n : Nat} (h : i ≤ n) : (s.extract 0 n).extract 0 i = s.extract 0 i := by
  rw [ByteArray.extract_extract]
  simp only [Nat.zero_add]
  rw [Nat.min_eq_left h]
end U
namespace Go.Proofs.YtmnbcnhpklejcaaDoor
def live164 (key : Nat) : Lv :=
  bif Nat.beq key 1 then { ls := [0, 1] } else bif Nat.beq key 1001 then { ls := [0] } else
  { ls := [] }
abbrev M164 (ls : Nat → VS → Option (Tr (Ex × VS))) : Env := E0.loops live164 ls
@[reducible] def p164_0 : LP := { n := 23, sl := [.d (Kd.str), .d (Kd.int IntKind.u8)], bl := [] }
def B164_0 (x0 : ByteArray) (x1 : Int) : Tr (p164_0.T ⊕ (ByteArray)) :=
 let v1 : Int := (IntKind.wrap IntKind.i64 ((↑(ByteArray.size x0) : Int) - (1 : Int)))
 let v2 : Int := (bt x0 v1)
 Tr.ite (decide ((0 : Int) < (↑(ByteArray.size x0) : Int))) (Tr.ite (inB v1 (ByteArray.size x0)) (Tr.ite (decide (v2 = x1)) (Tr.ite (decide ((0 : Int) ≤ v1 ∧ v1 ≤ (↑(ByteArray.size x0) : Int))) (Tr.ret (Sum.inl ((ByteArray.extract x0 (0 : Nat) (Int.toNat v1), x1, ()), ()))) Tr.fail) (Tr.ret (Sum.inr x0))) Tr.fail) (Tr.ret (Sum.inr x0))
def X164_0 (r : (ByteArray)) : Ex × VS := Prod.mk (Ex.exit ( 0)) { n := 23, v := [Slot.av (AV.one (Leaf.dat Kd.str r))], h := [] }
def b164_0 : p164_0.T → Tr (p164_0.T ⊕ (ByteArray)) := fun ⟨⟨x0, ⟨x1, _⟩⟩, _⟩ => B164_0 x0 x1
theorem h164_0 (ls : Nat → VS → Option (Tr (Ex × VS))) (x : p164_0.T) : (evC (evI 2) (lc Tryd.f164 0) (Env.lend (M164 ls) 0) (unV (live164 1) (p164_0.V x))).map (decL 0 (live164 1) (live164 1001)) = (b164_0 x).map (encR p164_0.V X164_0) := by
  obtain ⟨⟨x0, ⟨x1, _⟩⟩, _⟩ := x; kernel_rfl
theorem c164_0 (x : p164_0.T) : canV 0 (live164 1) (unV (live164 1) (p164_0.V x)) = p164_0.V x := by
  obtain ⟨⟨x0, ⟨x1, _⟩⟩, _⟩ := x; kernel_rfl
theorem l164_0 {T : p164_0.T → Tr (ByteArray)} {ls : Nat → VS → Option (Tr (Ex × VS))} (hls : ∀ x, (Env.lend (M164 ls) 0).ls 1 x = p164_0.ls (fun a => (T a).map X164_0) x) (hS : ∀ x r, (T x).val = some r → Rounds b164_0 x r) : LoopOK (evI 2) (Env.lend (M164 ls) 0) (lc Tryd.f164 0) :=
  loopA 1 (live164 1) (live164 1001) p164_0 b164_0 X164_0 T (by kernel_rfl) rfl rfl hls (h164_0 ls) c164_0 hS
def T164 (x : p164_0.T) : Tr ByteArray :=
  match x with
  | ⟨⟨s, c, _⟩, _⟩ => .ite (decide (ByteArray.size s ≤ 140737488355328)) (.ret (ByteArray.extract s 0 (U.bareN s c (ByteArray.size s)))) .fail
abbrev E164 : Env := M164 fun key x => bif Nat.beq key 1 then p164_0.ls (fun a => (T164 a).map X164_0) x else none
theorem R164 (s : ByteArray) (c : Int) (hs : s.size ≤ 140737488355328) : ∀ n, n ≤ s.size → Rounds b164_0 ((s.extract 0 n, c, ()), ()) (s.extract 0 (U.bareN s c n))
  | 0, _ => by
    refine .exit ?_
    have e : (s.extract 0 0).size = 0 := by rw [ByteArray.size_extract]; omega
    simp only [b164_0, B164_0, Tr.val, e, show ¬ ((0 : Int) < ((0 : Nat) : Int)) by decide, decide_false, cond_false]
    rfl
  | n + 1, h => by
    have e : (s.extract 0 (n + 1)).size = n + 1 := by rw [ByteArray.size_extract]; omega
    have e1 : IntKind.i64.wrap (((n + 1 : Nat) : Int) - 1) = (n : Int) := by rw [Go.Ev.w64 (by omega) (by omega)]; omega
    have e2 := U.bt_extract s (show n < n + 1 by omega) h
    have e3 := U.extract_extract s (show n ≤ n + 1 by omega)
    have c1 : decide ((0 : Int) < ((n + 1 : Nat) : Int)) = true := decide_eq_true (by omega)
    have c2 : inB (n : Int) (n + 1) = true := inB_nat (by omega)
    have c3 : decide ((0 : Int) ≤ (n : Int) ∧ (n : Int) ≤ ((n + 1 : Nat) : Int)) = true := decide_eq_true (by omega)
    have hv : (b164_0 ((s.extract 0 (n + 1), c, ()), ())).val = bif decide (bt s (n : Int) = c) then some (.inl ((s.extract 0 n, c, ()), ())) else some (.inr (s.extract 0 (n + 1))) := by
      simp only [b164_0, B164_0, Tr.val, e, e1, e2, e3, c1, c2, c3, Int.toNat_natCast, cond_true]
    unfold U.bareN
    cases hb : decide (bt s (n : Int) = c) with
    | true => rw [hb] at hv; exact .step hv (R164 s c hs n (by omega))
    | false => rw [hb] at hv; exact .exit hv
theorem L164 : LoopOK (evI 2) (E164.lend 0) (lc Tryd.f164 0) := by
  refine l164_0 (T := T164) (fun x => rfl) ?_
  rintro ⟨⟨s, c, z⟩, z1⟩ r hh
  obtain ⟨g1, g2⟩ := pre_val hh
  have g1 : s.size ≤ 140737488355328 := of_decide_eq_true g1
  cases g2
  have := R164 s c g1 s.size (Nat.le_refl _)
  rw [show s.extract 0 s.size = s from ByteArray.extract_zero_size] at this
  exact this
def d164 (a : ByteArray) (b : Int) : Tr (ByteArray) :=
 Tr.ite (decide (ByteArray.size a ≤ (140737488355328 : Nat))) (Tr.ret (ByteArray.extract a (0 : Nat) (U.bareN a b (ByteArray.size a)))) Tr.fail
def e164 (r : ByteArray) : FRes := { rs := Slot.av (AV.one (Leaf.dat Kd.str r)), upd := [], new := [] }
@[reducible] def a164 : List AK := [AK.d Kd.str, AK.d (Kd.int IntKind.u8)]
@[reducible] def b164 : List BK := []
theorem t164 (a : ByteArray) (b : Int) : evFn (E164) Tryd.f164 [PM.data Kd.str] (akAV a164 (a, b, ())) (bkBs b164 ()) = (d164 a b).map e164 := by kernel_rfl
def s164 (C : akT a164 → Bool) (G : akT a164 → ByteArray) : FSpec := aspec a164 b164 e164 (fun x _ => C x) (fun x _ => G x)
theorem k164 {C : akT a164 → Bool} {G : akT a164 → ByteArray} (hd : ∀ (a : ByteArray) (b : Int), C (a, b, ()) = true → (d164 a b).val = some (G (a, b, ()))) (IO : ItOK Tryd.prog (E164) := by exact itOK_none rfl) (L : ∀ c, Tryd.f164.body = some c → LsOK (evI 2) ((E164).lend 0) c := by exact fun c _ => LsOK_none rfl c) : SpecOK Tryd.prog E0 164 (s164 C G) :=
  aspec_ok (ak := a164) (bl := b164) (e := e164) (c := fun x _ => C x) (g := fun x _ => G x) (E0 := E0) (E := E164) tab .nil rfl rfl hm Tryd.func164 (by kernel_rfl) [PM.data Kd.str] (fun X Y H => by obtain ⟨a, ⟨b, _⟩⟩ := X; exact val_of (t164 a b) (hd a b H)) IO L
abbrev w164 : FSpec := s164 (fun x => decide (ByteArray.size x.1 ≤ 140737488355328)) fun x => ByteArray.extract x.1 0 (U.bareN x.1 x.2.1 (ByteArray.size x.1))
theorem wk164 : SpecOK Tryd.prog E0 164 w164 := by
  refine k164 (fun s c H => ?_) (L := ls_ok (lcs := [lc Tryd.f164 0]) (rgs := []) (by kernel_rfl) (by kernel_rfl) L164 trivial)
  have H : s.size ≤ 140737488355328 := of_decide_eq_true H
  simp only [d164, Tr.val, H, decide_true, cond_true]
def d152 (a : ByteArray) (b : ByteArray) : Tr (ByteArray) :=
 let v1 : Int := (bt b (0 : Int))
 let v2 : Bool := (inB (0 : Int) (ByteArray.size b))
 Tr.ite (decide (a = { data := #[] })) (Tr.ret a) (Tr.ite (decide (b = { data := #[] })) (Tr.ret a) (Tr.ite (decide ((↑(ByteArray.size b) : Int) = (1 : Int))) (Tr.ite v2 (Tr.ite (decide (v1 < (128 : Int))) (Tr.ite v2 (Tr.ite (decide (ByteArray.size a ≤ (140737488355328 : Nat))) (Tr.ret (ByteArray.extract a (0 : Nat) (U.bareN a v1 (ByteArray.size a)))) Tr.fail) Tr.fail) Tr.fail) Tr.fail) Tr.fail))
def e152 (r : ByteArray) : FRes := { rs := Slot.av (AV.one (Leaf.dat Kd.str r)), upd := [], new := [] }
@[reducible] def a152 : List AK := [AK.d Kd.str, AK.d Kd.str]
@[reducible] def b152 : List BK := []
theorem t152 (a : ByteArray) (b : ByteArray) : evFn (Env.withFns E0 [((164 : Nat), w164)]) Tryd.f152 [PM.data Kd.str] (akAV a152 (a, b, ())) (bkBs b152 ()) = (d152 a b).map e152 := by kernel_rfl
def s152 (C : akT a152 → Bool) (G : akT a152 → ByteArray) : FSpec := aspec a152 b152 e152 (fun x _ => C x) (fun x _ => G x)
theorem k152 {C : akT a152 → Bool} {G : akT a152 → ByteArray} (hd : ∀ (a : ByteArray) (b : ByteArray), C (a, b, ()) = true → (d152 a b).val = some (G (a, b, ()))) (IO : ItOK Tryd.prog (Env.withFns E0 [((164 : Nat), w164)]) := by exact itOK_none rfl) (L : ∀ c, Tryd.f152.body = some c → LsOK (evI 2) ((Env.withFns E0 [((164 : Nat), w164)]).lend 0) c := by exact fun c _ => LsOK_none rfl c) : SpecOK Tryd.prog E0 152 (s152 C G) :=
  aspec_ok (ak := a152) (bl := b152) (e := e152) (c := fun x _ => C x) (g := fun x _ => G x) (E0 := E0) (E := Env.withFns E0 [((164 : Nat), w164)]) tab (.cons wk164 .nil) rfl rfl hm Tryd.func152 (by kernel_rfl) [PM.data Kd.str] (fun X Y H => by obtain ⟨a, ⟨b, _⟩⟩ := X; exact val_of (t152 a b) (hd a b H)) IO L
end Go.Proofs.YtmnbcnhpklejcaaDoor
namespace Go.Proofs.YtmnbcnhpklejcaaDoor
abbrev w152 : FSpec := s152 (fun x => decide (ByteArray.size x.1 ≤ 140737488355328) && decide (x.2.1 = (⟨#[32]⟩ : ByteArray))) fun x => U.bareS x.1
theorem wk152 : SpecOK Tryd.prog E0 152 w152 := k152 fun s c H => by
  have H : (decide (s.size ≤ 140737488355328) && decide (c = (⟨#[32]⟩ : ByteArray))) = true := H
  rw [Bool.and_eq_true] at H
  have h1 : s.size ≤ 140737488355328 := of_decide_eq_true H.1
  have h2 : c = (⟨#[32]⟩ : ByteArray) := of_decide_eq_true H.2
  subst h2
  show _ = some (U.bareS s)
  have e1 : ((⟨#[32]⟩ : ByteArray) = (⟨#[]⟩ : ByteArray)) ↔ False := ⟨fun h => (by cases h), False.elim⟩
  have e2 : ((⟨#[32]⟩ : ByteArray).size : Int) = 1 := rfl
  have e3 : inB (0 : Int) (⟨#[32]⟩ : ByteArray).size = true := rfl
  have e4 : bt (⟨#[32]⟩ : ByteArray) 0 = 32 := rfl
  by_cases h0 : s = (⟨#[]⟩ : ByteArray)
  · subst h0; rfl
  · simp only [d152, Tr.val, h0, e1, e2, e3, e4, h1, decide_true, decide_false, cond_true, cond_false, show ((32 : Int) < 128) by decide]
    rfl
def d126 (a : ByteArray) : Tr (ByteArray) :=
 Tr.ite (decide (ByteArray.size a ≤ (140737488355328 : Nat)) && true) (Tr.ret (U.bareS a)) Tr.fail
def e126 (r : ByteArray) : FRes := { rs := Slot.av (AV.one (Leaf.dat Kd.str r)), upd := [], new := [] }
@[reducible] def a126 : List AK := [AK.d Kd.str]
@[reducible] def b126 : List BK := []
theorem t126 (a : ByteArray) : evFn (Env.withFns E0 [((152 : Nat), w152)]) Tryd.f126 [PM.data Kd.str] (akAV a126 (a, ())) (bkBs b126 ()) = (d126 a).map e126 := by kernel_rfl
def s126 (C : akT a126 → Bool) (G : akT a126 → ByteArray) : FSpec := aspec a126 b126 e126 (fun x _ => C x) (fun x _ => G x)
theorem k126 {C : akT a126 → Bool} {G : akT a126 → ByteArray} (hd : ∀ (a : ByteArray), C (a, ()) = true → (d126 a).val = some (G (a, ()))) (IO : ItOK Tryd.prog (Env.withFns E0 [((152 : Nat), w152)]) := by exact itOK_none rfl) (L : ∀ c, Tryd.f126.body = some c → LsOK (evI 2) ((Env.withFns E0 [((152 : Nat), w152)]).lend 0) c := by exact fun c _ => LsOK_none rfl c) : SpecOK Tryd.prog E0 126 (s126 C G) :=
  aspec_ok (ak := a126) (bl := b126) (e := e126) (c := fun x _ => C x) (g := fun x _ => G x) (E0 := E0) (E := Env.withFns E0 [((152 : Nat), w152)]) tab (.cons wk152 .nil) rfl rfl hm Tryd.func126 (by kernel_rfl) [PM.data Kd.str] (fun X Y H => by obtain ⟨a, _⟩ := X; exact val_of (t126 a) (hd a H)) IO L
abbrev w126 : FSpec := s126 (fun x => decide (ByteArray.size x.1 ≤ 140737488355328)) fun x => U.bareS x.1
theorem wk126 : SpecOK Tryd.prog E0 126 w126 := k126 fun s H => by
  have H : s.size ≤ 140737488355328 := of_decide_eq_true H
  simp only [d126, Tr.val, H, decide_true, Bool.and_self, cond_true]
def live129 (key : Nat) : Lv :=
  bif Nat.beq key 2 then { ls := [0, 3] } else bif Nat.beq key 1002 then { ls := [0, 3] } else
  { ls := [] }
abbrev M129 (ls : Nat → VS → Option (Tr (Ex × VS))) : Env := E0.loops live129 ls
@[reducible] def p129_0 : LP := { n := 20, sl := [.d (Kd.str), .d (.int .i64)], bl := [] }
def B129_0 (x0 : ByteArray) (x1 : Int) : Tr (p129_0.T ⊕ (ByteArray × Int)) :=
 let v1 : Int := (IntKind.wrap IntKind.i64 (x1 - (1 : Int)))
 let v2 : Int := (bt x0 v1)
 Tr.ite (decide ((0 : Int) < x1)) (Tr.ite (inB v1 (ByteArray.size x0)) (Tr.ite (decide (v2 = (32 : Int))) (Tr.ret (Sum.inl ((x0, v1, ()), ()))) (Tr.ret (Sum.inr (x0, x1)))) Tr.fail) (Tr.ret (Sum.inr (x0, x1)))
def X129_0 (r : (ByteArray × Int)) : Ex × VS := Prod.mk (Ex.exit ( 0)) { n := 20, v := [Slot.av (AV.one (Leaf.dat Kd.str r.fst)), Slot.av (AV.one (Leaf.dat (.int .i64) r.snd))], h := [] }
def b129_0 : p129_0.T → Tr (p129_0.T ⊕ (ByteArray × Int)) := fun ⟨⟨x0, ⟨x1, _⟩⟩, _⟩ => B129_0 x0 x1
theorem h129_0 (ls : Nat → VS → Option (Tr (Ex × VS))) (x : p129_0.T) : (evC (evI 2) (lc Tryd.f129 0) (Env.lend (M129 ls) 0) (unV (live129 2) (p129_0.V x))).map (decL 0 (live129 2) (live129 1002)) = (b129_0 x).map (encR p129_0.V X129_0) := by
  obtain ⟨⟨x0, ⟨x1, _⟩⟩, _⟩ := x; kernel_rfl
theorem c129_0 (x : p129_0.T) : canV 0 (live129 2) (unV (live129 2) (p129_0.V x)) = p129_0.V x := by
  obtain ⟨⟨x0, ⟨x1, _⟩⟩, _⟩ := x; kernel_rfl
theorem l129_0 {T : p129_0.T → Tr (ByteArray × Int)} {ls : Nat → VS → Option (Tr (Ex × VS))} (hls : ∀ x, (Env.lend (M129 ls) 0).ls 2 x = p129_0.ls (fun a => (T a).map X129_0) x) (hS : ∀ x r, (T x).val = some r → Rounds b129_0 x r) : LoopOK (evI 2) (Env.lend (M129 ls) 0) (lc Tryd.f129 0) :=
  loopA 2 (live129 2) (live129 1002) p129_0 b129_0 X129_0 T (by kernel_rfl) rfl rfl hls (h129_0 ls) c129_0 hS
def T129 (x : p129_0.T) : Tr (ByteArray × Int) :=
  match x with
  | ⟨⟨s, n, _⟩, _⟩ => .ite (decide ((n : Int) = (ByteArray.size s : Int) ∧ ByteArray.size s ≤ 140737488355328)) (.ret (s, (U.bareN s 32 (ByteArray.size s) : Int))) .fail
abbrev E129 : Env := M129 fun key x => bif Nat.beq key 2 then p129_0.ls (fun a => (T129 a).map X129_0) x else none
theorem R129 (s : ByteArray) (hs : s.size ≤ 140737488355328) : ∀ n, n ≤ s.size → Rounds b129_0 ((s, (n : Int), ()), ()) (s, (U.bareN s 32 n : Int))
  | 0, _ => .exit rfl
  | n + 1, h => by
    have e1 : IntKind.i64.wrap (((n + 1 : Nat) : Int) - 1) = (n : Int) := by rw [Go.Ev.w64 (by omega) (by omega)]; omega
    have c1 : decide ((0 : Int) < ((n + 1 : Nat) : Int)) = true := decide_eq_true (by omega)
    have c2 : inB (n : Int) s.size = true := inB_nat (by omega)
    have hv : (b129_0 ((s, ((n + 1 : Nat) : Int), ()), ())).val = bif decide (bt s (n : Int) = 32) then some (.inl ((s, (n : Int), ()), ())) else some (.inr (s, ((n + 1 : Nat) : Int))) := by
      simp only [b129_0, B129_0, Tr.val, e1, c1, c2, cond_true]
    unfold U.bareN
    cases hb : decide (bt s (n : Int) = 32) with
    | true => rw [hb] at hv; exact .step hv (R129 s hs n (by omega))
    | false => rw [hb] at hv; exact .exit hv
theorem L129 : LoopOK (evI 2) (E129.lend 0) (lc Tryd.f129 0) := by
  refine l129_0 (T := T129) (fun x => rfl) ?_
  rintro ⟨⟨s, n, z⟩, z1⟩ r hh
  obtain ⟨g1, g2⟩ := pre_val hh
  have g1 : (n : Int) = (s.size : Int) ∧ s.size ≤ 140737488355328 := of_decide_eq_true g1
  obtain ⟨rfl, g3⟩ := g1
  cases g2
  exact R129 s g3 s.size (Nat.le_refl _)
def d129 (a : ByteArray) : Tr (ByteArray) :=
 let v1 : Int := ((↑(U.bareN a (32 : Int) (ByteArray.size a)) : Int))
 Tr.ite (decide ((↑(ByteArray.size a) : Int) = (↑(ByteArray.size a) : Int) ∧ ByteArray.size a ≤ (140737488355328 : Nat))) (Tr.ite (decide ((0 : Int) ≤ v1 ∧ v1 ≤ (↑(ByteArray.size a) : Int))) (Tr.ret (ByteArray.extract a (0 : Nat) (Int.toNat v1))) Tr.fail) Tr.fail
def e129 (r : ByteArray) : FRes := { rs := Slot.av (AV.one (Leaf.dat Kd.str r)), upd := [], new := [] }
@[reducible] def a129 : List AK := [AK.d Kd.str]
@[reducible] def b129 : List BK := []
theorem t129 (a : ByteArray) : evFn (E129) Tryd.f129 [PM.data Kd.str] (akAV a129 (a, ())) (bkBs b129 ()) = (d129 a).map e129 := by kernel_rfl
def s129 (C : akT a129 → Bool) (G : akT a129 → ByteArray) : FSpec := aspec a129 b129 e129 (fun x _ => C x) (fun x _ => G x)
theorem k129 {C : akT a129 → Bool} {G : akT a129 → ByteArray} (hd : ∀ (a : ByteArray), C (a, ()) = true → (d129 a).val = some (G (a, ()))) (IO : ItOK Tryd.prog (E129) := by exact itOK_none rfl) (L : ∀ c, Tryd.f129.body = some c → LsOK (evI 2) ((E129).lend 0) c := by exact fun c _ => LsOK_none rfl c) : SpecOK Tryd.prog E0 129 (s129 C G) :=
  aspec_ok (ak := a129) (bl := b129) (e := e129) (c := fun x _ => C x) (g := fun x _ => G x) (E0 := E0) (E := E129) tab .nil rfl rfl hm Tryd.func129 (by kernel_rfl) [PM.data Kd.str] (fun X Y H => by obtain ⟨a, _⟩ := X; exact val_of (t129 a) (hd a H)) IO L
abbrev w129 : FSpec := s129 (fun x => decide (ByteArray.size x.1 ≤ 140737488355328)) fun x => U.bareS x.1
theorem wk129 : SpecOK Tryd.prog E0 129 w129 := by
  refine k129 (fun s H => ?_) (L := ls_ok (lcs := [lc Tryd.f129 0]) (rgs := []) (by kernel_rfl) (by kernel_rfl) L129 trivial)
  have H : s.size ≤ 140737488355328 := of_decide_eq_true H
  have c := U.bareN_le s 32 s.size
  have c1 : decide ((0 : Int) ≤ (U.bareN s 32 s.size : Int) ∧ (U.bareN s 32 s.size : Int) ≤ (s.size : Int)) = true := decide_eq_true (by omega)
  show _ = some (U.bareS s)
  simp only [d129, Tr.val, H, c1, and_self, decide_true, Int.toNat_natCast, cond_true]
  rfl
def d130 (a : Int) (b : Int) : Tr (Int) :=
 Tr.ite (decide (a < b)) (Tr.ret a) (Tr.ret b)
def e130 (r : Int) : FRes := { rs := Slot.av (AV.one (Leaf.dat (.int .i64) r)), upd := [], new := [] }
@[reducible] def a130 : List AK := [AK.d (.int .i64), AK.d (.int .i64)]
@[reducible] def b130 : List BK := []
theorem t130 (a : Int) (b : Int) : evFn (E0) Tryd.f130 [PM.data (.int .i64)] (akAV a130 (a, b, ())) (bkBs b130 ()) = (d130 a b).map e130 := by kernel_rfl
def s130' (G : akT a130 → Int) : FSpec := aspec0 a130 b130 e130 (fun x _ => G x)
theorem k130' {G : akT a130 → Int} (hd : ∀ (a : Int) (b : Int), (d130 a b).val = some (G (a, b, ()))) (IO : ItOK Tryd.prog (E0) := by exact itOK_none rfl) (L : ∀ c, Tryd.f130.body = some c → LsOK (evI 2) ((E0).lend 0) c := by exact fun c _ => LsOK_none rfl c) : SpecOK Tryd.prog E0 130 (s130' G) :=
  aspec0_ok (ak := a130) (bl := b130) (e := e130) (g := fun x _ => G x) (E0 := E0) (E := E0) tab .nil rfl rfl hm Tryd.func130 (by kernel_rfl) [PM.data (.int .i64)] (fun X Y => by obtain ⟨a, ⟨b, _⟩⟩ := X; exact val_of (t130 a b) (hd a b)) IO L
abbrev w130 : FSpec := s130' fun x => minI x.1 x.2.1
theorem wk130 : SpecOK Tryd.prog E0 130 w130 := k130' fun a b => by
  show _ = some (minI a b)
  simp only [d130, Tr.val]
  unfold minI
  by_cases h : a < b
  · simp only [h, decide_true, cond_true]
    split <;> (congr 1 <;> omega)
  · simp only [h, decide_false, cond_false]
    split <;> (congr 1 <;> omega)
end Go.Proofs.YtmnbcnhpklejcaaDoor
namespace U
def wordC (c : Cl) : Bool := decide (c.2.1 = 0) || (!decide (c.1 = (⟨#[]⟩ : ByteArray)) && !decide (c.1 = (⟨#[32]⟩ : ByteArray)))
end U
namespace Go.Proofs.YtmnbcnhpklejcaaDoor
def d128 (a1 : ByteArray) (a2 : Int) (a31 : Int) (a32 : Int) (a33 : Int) : Tr (Bool) :=
 Tr.ite (decide (a2 = (0 : Int))) (Tr.ret true) (Tr.ite (!decide (a1 = { data := #[] })) (Tr.ret !decide (a1 = { data := #[OfNat.ofNat (32 : Nat)] })) (Tr.ret false))
def e128 (r : Bool) : FRes := { rs := Slot.av (AV.one (Leaf.dat Kd.bool r)), upd := [], new := [] }
@[reducible] def a128 : List AK := [AK.d celk]
@[reducible] def b128 : List BK := []
theorem t128 (a1 : ByteArray) (a2 : Int) (a31 : Int) (a32 : Int) (a33 : Int) : evFn (E0) Tryd.f128 [PM.data Kd.bool] (akAV a128 ((a1, a2, (a31, a32, a33, ()), ()), ())) (bkBs b128 ()) = (d128 a1 a2 a31 a32 a33).map e128 := by kernel_rfl
def s128' (G : akT a128 → Bool) : FSpec := aspec0 a128 b128 e128 (fun x _ => G x)
theorem k128' {G : akT a128 → Bool} (hd : ∀ (a1 : ByteArray) (a2 : Int) (a31 : Int) (a32 : Int) (a33 : Int), (d128 a1 a2 a31 a32 a33).val = some (G ((a1, a2, (a31, a32, a33, ()), ()), ()))) (IO : ItOK Tryd.prog (E0) := by exact itOK_none rfl) (L : ∀ c, Tryd.f128.body = some c → LsOK (evI 2) ((E0).lend 0) c := by exact fun c _ => LsOK_none rfl c) : SpecOK Tryd.prog E0 128 (s128' G) :=
  aspec0_ok (ak := a128) (bl := b128) (e := e128) (g := fun x _ => G x) (E0 := E0) (E := E0) tab .nil rfl rfl hm Tryd.func128 (by kernel_rfl) [PM.data Kd.bool] (fun X Y => by obtain ⟨⟨a1, ⟨a2, ⟨⟨a31, ⟨a32, ⟨a33, _⟩⟩⟩, _⟩⟩⟩, _⟩ := X; exact val_of (t128 a1 a2 a31 a32 a33) (hd a1 a2 a31 a32 a33)) IO L
theorem word_eq (a : ByteArray) (b : Int) (c : Int × Int × Int × Unit) : (Tr.ite (decide (b = (0 : Int))) (Tr.ret true) (Tr.ite (!decide (a = { data := #[] })) (Tr.ret !decide (a = { data := #[OfNat.ofNat (32 : Nat)] })) (Tr.ret false)) : Tr Bool).val = some (U.wordC (a, b, c, ())) := by
  unfold U.wordC
  simp only [Tr.val]
  show _ = some (decide (b = 0) || (!decide (a = (⟨#[]⟩ : ByteArray)) && !decide (a = (⟨#[32]⟩ : ByteArray))))
  cases decide (b = 0)
  · cases decide (a = (⟨#[]⟩ : ByteArray)) <;> rfl
  · rfl
abbrev w128 : FSpec := s128' fun x => U.wordC x.1
theorem wk128 : SpecOK Tryd.prog E0 128 w128 := k128' fun a b c d e => word_eq a b (c, d, e, ())
def d76 (a1 : ByteArray) (a2 : Int) (a31 : Int) (a32 : Int) (a33 : Int) : Tr (Bool) :=
 Tr.ite (decide (a2 = (0 : Int))) (Tr.ret true) (Tr.ite (!decide (a1 = { data := #[] })) (Tr.ret !decide (a1 = { data := #[OfNat.ofNat (32 : Nat)] })) (Tr.ret false))
def e76 (r : Bool) : FRes := { rs := Slot.av (AV.one (Leaf.dat Kd.bool r)), upd := [], new := [] }
@[reducible] def a76 : List AK := [AK.d celk]
@[reducible] def b76 : List BK := []
theorem t76 (a1 : ByteArray) (a2 : Int) (a31 : Int) (a32 : Int) (a33 : Int) : evFn (E0) Tryd.f76 [PM.data Kd.bool] (akAV a76 ((a1, a2, (a31, a32, a33, ()), ()), ())) (bkBs b76 ()) = (d76 a1 a2 a31 a32 a33).map e76 := by kernel_rfl
def s76' (G : akT a76 → Bool) : FSpec := aspec0 a76 b76 e76 (fun x _ => G x)
theorem k76' {G : akT a76 → Bool} (hd : ∀ (a1 : ByteArray) (a2 : Int) (a31 : Int) (a32 : Int) (a33 : Int), (d76 a1 a2 a31 a32 a33).val = some (G ((a1, a2, (a31, a32, a33, ()), ()), ()))) (IO : ItOK Tryd.prog (E0) := by exact itOK_none rfl) (L : ∀ c, Tryd.f76.body = some c → LsOK (evI 2) ((E0).lend 0) c := by exact fun c _ => LsOK_none rfl c) : SpecOK Tryd.prog E0 76 (s76' G) :=
  aspec0_ok (ak := a76) (bl := b76) (e := e76) (g := fun x _ => G x) (E0 := E0) (E := E0) tab .nil rfl rfl hm Tryd.func76 (by kernel_rfl) [PM.data Kd.bool] (fun X Y => by obtain ⟨⟨a1, ⟨a2, ⟨⟨a31, ⟨a32, ⟨a33, _⟩⟩⟩, _⟩⟩⟩, _⟩ := X; exact val_of (t76 a1 a2 a31 a32 a33) (hd a1 a2 a31 a32 a33)) IO L
abbrev w76 : FSpec := s76' fun x => U.wordC x.1
theorem wk76 : SpecOK Tryd.prog E0 76 w76 := k76' fun a b c d e => word_eq a b (c, d, e, ())
end Go.Proofs.YtmnbcnhpklejcaaDoor
end
section
set_option linter.unusedVariables false
set_option linter.unusedSimpArgs false
set_option maxRecDepth 20000
set_option maxHeartbeats 4000000
open Go Go.Ev
namespace U
open Go.Proofs.YtmnbcnhpklejcaaDoor
def wl (l : List Cl) : Nat → Nat
  | 0 => 0
  | n + 1 => bif wordC (l.getD n dC) then wl l n else n + 1
def wr (l : List Cl) : Nat → Nat → Nat
  | 0, i => i
  | k + 1, i => bif decide (i + 1 < l.length) && wordC (l.getD (i + 1) dC) then wr l k (i + 1) else i
theorem wl_is (l : List Cl) : ∀ n, wl l n ≤ n ∧ (0 < wl l n → wordC (l.getD (wl l n - 1) dC) = false) ∧ ∀ j, wl l n ≤ j → j < n → wordC (l.getD j dC) = true
  | 0 => ⟨Nat.le_refl _, fun h => absurd h (by simp [wl]), fun j _ h => by omega⟩
  | n + 1 => by
    unfold wl
    cases hb : wordC (l.getD n dC) with
    | true =>
      obtain ⟨h1, h2, h3⟩ := wl_is l n
      simp only [cond_true]
      refine ⟨by omega, h2, fun j h4 h5 => ?_⟩
      by_cases e : j = n
      · rw [e]; exact hb
      · exact h3 j h4 (by omega)
    | false =>
      simp only [cond_false]
      exact ⟨Nat.le_refl _, fun _ => by rw [Nat.add_sub_cancel]; exact hb, fun j h4 h5 => by omega⟩
theorem wr_is (l : List Cl) : ∀ k i, i < l.length → l.length ≤ i + 1 + k → i ≤ wr l k i ∧ wr l k i < l.length ∧ (wr l k i + 1 < l.length → wordC (l.getD (wr l k i + 1) dC) = false) ∧ ∀ j, i < j → j ≤ wr l k i → wordC (l.getD j dC) = true
  | 0, i, h, hk => ⟨Nat.le_refl _, h, fun h2 => by simp only [wr] at h2; omega, fun j h1 h2 => by simp only [wr] at h2; omega⟩
  | k + 1, i, h, hk => by
    unfold wr
    cases hb : (decide (i + 1 < l.length) && wordC (l.getD (i + 1) dC)) with
    | true =>
      rw [Bool.and_eq_true] at hb
      have h0 : i + 1 < l.length := of_decide_eq_true hb.1
      obtain ⟨h1, h2, h3, h4⟩ := wr_is l k (i + 1) h0 (by omega)
      simp only [cond_true]
      refine ⟨by omega, h2, h3, fun j h5 h6 => ?_⟩
      by_cases e : j = i + 1
      · rw [e]; exact hb.2
      · exact h4 j (by omega) h6
    | false =>
      simp only [cond_false]
      refine ⟨Nat.le_refl _, h, fun h2 => ?_, fun j h5 h6 => by omega⟩
      rw [decide_eq_true h2, Bool.true_and] at hb
      exact hb
end U
namespace Go.Proofs.YtmnbcnhpklejcaaDoor
open Go.RowKit
def live75 (key : Nat) : Lv :=
  bif Nat.beq key 20065 then { ls := [9999, 9, 10, 11] } else bif Nat.beq key 40065 then { ls := [] } else
  bif Nat.beq key 25009 then { ls := [9999, 9, 10, 11, 65] } else bif Nat.beq key 45009 then { ls := [53, 54, 55, 56, 57, 58, 59, 60, 61, 62, 63, 64, 65] } else
  bif Nat.beq key 9 then { ls := [9, 10, 11] } else bif Nat.beq key 1009 then { ls := [10, 11] } else
  bif Nat.beq key 20050 then { ls := [9999, 9, 10, 11] } else bif Nat.beq key 40050 then { ls := [] } else
  bif Nat.beq key 7 then { ls := [9, 10, 11] } else bif Nat.beq key 1007 then { ls := [9, 10, 11] } else
  { ls := [] }
abbrev G75 : List (Nat × FSpec) := [(102, w102), (103, w103), (128, w128)]
theorem AG75 : AllFn Tryd.prog E0 G75 := .cons wk102 (.cons wk103 (.cons wk128 .nil))
abbrev M75 (ls : Nat → VS → Option (Tr (Ex × VS))) : Env := (E0.withFns G75).loops live75 ls
@[reducible] def p75_0 : LP := { n := 70, sl := [.d (Kd.sl celk), .d (.int .i64), .d (.int .i64)], bl := [] }
def B75_0 (x0 : List Cell) (x1 : Int) (x2 : Int) : Tr (p75_0.T ⊕ (List Cell × Int × Int)) :=
 let v1 : Int := (IntKind.wrap IntKind.i64 (x1 - (1 : Int)))
 Tr.ite (decide ((0 : Int) < x1)) (Tr.ite (inB v1 (List.length x0)) (Tr.ite (U.wordC (rget celk x0 v1)) (Tr.ret (Sum.inl ((x0, v1, x2, ()), ()))) (Tr.ret (Sum.inr (x0, x1, x2)))) Tr.fail) (Tr.ret (Sum.inr (x0, x1, x2)))
def X75_0 (r : (List Cell × Int × Int)) : Ex × VS := Prod.mk (Ex.exit ( 1)) { n := 70, v := [Slot.av (AV.one (Leaf.dat (Kd.sl celk) r.fst)), Slot.av (AV.one (Leaf.dat (.int .i64) r.snd.fst)), Slot.av (AV.one (Leaf.dat (.int .i64) r.snd.snd))], h := [] }
def b75_0 : p75_0.T → Tr (p75_0.T ⊕ (List Cell × Int × Int)) := fun ⟨⟨x0, ⟨x1, ⟨x2, _⟩⟩⟩, _⟩ => B75_0 x0 x1 x2
theorem h75_0 (ls : Nat → VS → Option (Tr (Ex × VS))) (x : p75_0.T) : (evC (evI 2) (lc Tryd.f75 0) (Env.lend (M75 ls) 0) (unV (live75 7) (p75_0.V x))).map (decL 0 (live75 7) (live75 1007)) = (b75_0 x).map (encR p75_0.V X75_0) := by
  obtain ⟨⟨x0, ⟨x1, ⟨x2, _⟩⟩⟩, _⟩ := x; kernel_rfl
theorem c75_0 (x : p75_0.T) : canV 0 (live75 7) (unV (live75 7) (p75_0.V x)) = p75_0.V x := by
  obtain ⟨⟨x0, ⟨x1, ⟨x2, _⟩⟩⟩, _⟩ := x; kernel_rfl
theorem l75_0 {T : p75_0.T → Tr (List Cell × Int × Int)} {ls : Nat → VS → Option (Tr (Ex × VS))} (hls : ∀ x, (Env.lend (M75 ls) 0).ls 7 x = p75_0.ls (fun a => (T a).map X75_0) x) (hS : ∀ x r, (T x).val = some r → Rounds b75_0 x r) : LoopOK (evI 2) (Env.lend (M75 ls) 0) (lc Tryd.f75 0) :=
  loopA 7 (live75 7) (live75 1007) p75_0 b75_0 X75_0 T (by kernel_rfl) rfl rfl hls (h75_0 ls) c75_0 hS
def T75_0 (x : p75_0.T) : Tr (List Cell × Int × Int) :=
  match x with
  | ⟨⟨l, n, c, _⟩, _⟩ => .ite (decide (0 ≤ (n : Int) ∧ (n : Int) < (List.length (α := Cell) l : Int) ∧ List.length (α := Cell) l ≤ 1048576)) (.ret (l, (U.wl l n.toNat : Int), c)) .fail
abbrev N75 (ls : Nat → VS → Option (Tr (Ex × VS))) : Env := M75 fun key x => bif Nat.beq key 7 then p75_0.ls (fun a => (T75_0 a).map X75_0) x else ls key x
theorem R75_0 (l : List Cell) (c : Int) (hl : l.length ≤ 1048576) : ∀ n : Nat, n < l.length → Rounds b75_0 ((l, (n : Int), c, ()), ()) (l, (U.wl l n : Int), c)
  | 0, _ => by
    refine .exit ?_
    simp only [b75_0, B75_0, Tr.val, eqb_self, show ¬ ((0 : Int) < ((0 : Nat) : Int)) by decide, decide_false, cond_false, Bool.and_self, cond_true]
    rfl
  | n + 1, h => by
    have e1 : IntKind.i64.wrap (((n + 1 : Nat) : Int) - 1) = (n : Int) := by rw [Go.Ev.w64 (by omega) (by omega)]; omega
    have e2 : rget celk l (n : Int) = l.getD n U.dC := rgetC l n
    have c1 : decide ((0 : Int) < ((n + 1 : Nat) : Int)) = true := decide_eq_true (by omega)
    have c2 : inB (n : Int) l.length = true := inB_nat (by omega)
    have hv : (b75_0 ((l, ((n + 1 : Nat) : Int), c, ()), ())).val = bif U.wordC (l.getD n U.dC) then some (.inl ((l, (n : Int), c, ()), ())) else some (.inr (l, ((n + 1 : Nat) : Int), c)) := by
      simp only [b75_0, B75_0, Tr.val, e1, e2, c1, c2, eqb_self, Bool.and_self, cond_true]
    unfold U.wl
    cases hb : U.wordC (l.getD n U.dC) with
    | true => rw [hb] at hv; exact .step hv (R75_0 l c hl n (by omega))
    | false => rw [hb] at hv; exact .exit hv
theorem L75_0 {ls : Nat → VS → Option (Tr (Ex × VS))} : LoopOK (evI 2) ((N75 ls).lend 0) (lc Tryd.f75 0) := by
  refine l75_0 (T := T75_0) (fun x => rfl) ?_
  rintro ⟨⟨l, n, c, z⟩, z1⟩ r hh
  obtain ⟨g1, g2⟩ := pre_val hh
  have g1 : 0 ≤ (n : Int) ∧ (n : Int) < (l.length : Int) ∧ l.length ≤ 1048576 := of_decide_eq_true g1
  obtain ⟨h1, h2, h3⟩ := g1
  obtain ⟨m, rfl⟩ := Int.eq_ofNat_of_zero_le h1
  cases g2
  have h2 : (m : Int) < (l.length : Int) := h2
  exact R75_0 l c h3 m (by omega)
@[reducible] def p75_1 : LP := { n := 70, sl := [.d (Kd.sl celk), .d (.int .i64), .d (.int .i64)], bl := [] }
def B75_1 (x0 : List Cell) (x1 : Int) (x2 : Int) : Tr (p75_1.T ⊕ (Int × Int)) :=
 let v1 : Int := ((↑(List.length x0) : Int))
 let v2 : Int := (IntKind.wrap IntKind.i64 (x2 + (1 : Int)))
 let v3 : Bool := (decide (v2 < v1))
 Tr.ite ((bif v3 then inB v2 (List.length x0) else true) && (Kd.eqb (Kd.sl celk) x0 x0 && (Kd.eqb (.int .i64) x1 x1 && Kd.eqb (.int .i64) x2 x2))) (Tr.ite (bif v3 then U.wordC (rget celk x0 v2) else false) (Tr.ret (Sum.inl ((x0, x1, v2, ()), ()))) (Tr.ret (Sum.inr (x1, x2)))) Tr.fail
def X75_1 (r : (Int × Int)) : Ex × VS := Prod.mk (Ex.exit ( 3)) { n := 70, v := [Slot.av (AV.one (Leaf.dat (.int .i64) r.fst)), Slot.av (AV.one (Leaf.dat (.int .i64) r.snd))], h := [] }
def b75_1 : p75_1.T → Tr (p75_1.T ⊕ (Int × Int)) := fun ⟨⟨x0, ⟨x1, ⟨x2, _⟩⟩⟩, _⟩ => B75_1 x0 x1 x2
theorem h75_1 (ls : Nat → VS → Option (Tr (Ex × VS))) (x : p75_1.T) : (evC (evI 2) (lc Tryd.f75 1) (Env.lend (N75 ls) 0) (unV (live75 9) (p75_1.V x))).map (decL 0 (live75 9) (live75 1009)) = (b75_1 x).map (encR p75_1.V X75_1) := by
  obtain ⟨⟨x0, ⟨x1, ⟨x2, _⟩⟩⟩, _⟩ := x; kernel_rfl
theorem c75_1 (x : p75_1.T) : canV 0 (live75 9) (unV (live75 9) (p75_1.V x)) = p75_1.V x := by
  obtain ⟨⟨x0, ⟨x1, ⟨x2, _⟩⟩⟩, _⟩ := x; kernel_rfl
theorem l75_1 {T : p75_1.T → Tr (Int × Int)} {ls : Nat → VS → Option (Tr (Ex × VS))} (hls : ∀ x, (Env.lend (N75 ls) 0).ls 9 x = p75_1.ls (fun a => (T a).map X75_1) x) (hS : ∀ x r, (T x).val = some r → Rounds b75_1 x r) : LoopOK (evI 2) (Env.lend (N75 ls) 0) (lc Tryd.f75 1) :=
  loopA 9 (live75 9) (live75 1009) p75_1 b75_1 X75_1 T (by kernel_rfl) rfl rfl hls (h75_1 ls) c75_1 hS
def T75_1 (x : p75_1.T) : Tr (Int × Int) :=
  match x with
  | ⟨⟨l, f, n, _⟩, _⟩ => .ite (decide (0 ≤ (n : Int) ∧ (n : Int) < (List.length (α := Cell) l : Int) ∧ List.length (α := Cell) l ≤ 1048576)) (.ret (f, (U.wr l (List.length (α := Cell) l) n.toNat : Int))) .fail
abbrev E75 : Env := N75 fun key x => bif Nat.beq key 9 then p75_1.ls (fun a => (T75_1 a).map X75_1) x else none
theorem R75_1 (l : List Cell) (f : Int) (hl : l.length ≤ 1048576) : ∀ (k i : Nat), i < l.length → l.length ≤ i + k → Rounds b75_1 ((l, f, (i : Int), ()), ()) (f, (U.wr l k i : Int))
  | 0, i, h, hk => by omega
  | k + 1, i, h, hk => by
    have e1 : IntKind.i64.wrap ((i : Int) + 1) = ((i + 1 : Nat) : Int) := wrap64_nat (by omega)
    have e2 : rget celk l ((i + 1 : Nat) : Int) = l.getD (i + 1) U.dC := rgetC l (i + 1)
    have hv : (b75_1 ((l, f, (i : Int), ()), ())).val = bif decide (i + 1 < l.length) && U.wordC (l.getD (i + 1) U.dC) then some (.inl ((l, f, ((i + 1 : Nat) : Int), ()), ())) else some (.inr (f, (i : Int))) := by
      by_cases h1 : i + 1 < l.length
      · have c1 : decide (((i + 1 : Nat) : Int) < (l.length : Int)) = true := decide_eq_true (by omega)
        simp only [b75_1, B75_1, Tr.val, e1, e2, c1, inB_nat h1, eqb_self, Bool.and_self, cond_true, decide_eq_true h1, Bool.true_and]
      · have c1 : decide (((i + 1 : Nat) : Int) < (l.length : Int)) = false := decide_eq_false (by omega)
        simp only [b75_1, B75_1, Tr.val, e1, c1, eqb_self, Bool.and_self, cond_true, cond_false, decide_eq_false h1, Bool.false_and]
    unfold U.wr
    cases hb : (decide (i + 1 < l.length) && U.wordC (l.getD (i + 1) U.dC)) with
    | true =>
      rw [hb] at hv
      rw [Bool.and_eq_true] at hb
      have h2 : i + 1 < l.length := of_decide_eq_true hb.1
      exact .step hv (R75_1 l f hl k (i + 1) h2 (by omega))
    | false => rw [hb] at hv; exact .exit hv
theorem L75_1 : LoopOK (evI 2) (E75.lend 0) (lc Tryd.f75 1) := by
  refine l75_1 (T := T75_1) (fun x => rfl) ?_
  rintro ⟨⟨l, f, n, z⟩, z1⟩ r hh
  obtain ⟨g1, g2⟩ := pre_val hh
  have g1 : 0 ≤ (n : Int) ∧ (n : Int) < (l.length : Int) ∧ l.length ≤ 1048576 := of_decide_eq_true g1
  obtain ⟨h1, h2, h3⟩ := g1
  obtain ⟨m, rfl⟩ := Int.eq_ofNat_of_zero_le h1
  cases g2
  have h2 : (m : Int) < (l.length : Int) := h2
  exact R75_1 l f h3 l.length m (by omega) (by omega)
def d75 (a : List Line) (b : Int) (c : Int) : Tr (Int × Int × Int) :=
 let v1 : Bool := (inB b (List.length a))
 let v2 : Int := ((↑(List.length (rget link a b).fst) : Int))
 let v3 : Bool := (decide ((0 : Int) ≤ c ∧ c < v2 ∧ List.length (rget link a b).fst ≤ (1048576 : Nat)))
 Tr.ite (U.okl a && decide (U.cells a ≤ (1048576 : Nat))) (Tr.ite (!U.may a) (Tr.ret ((0 : Int), (0 : Int), (1 : Int))) (Tr.ite (!U.there a b c) (Tr.ret ((0 : Int), (0 : Int), (1 : Int))) (Tr.ite v1 (Tr.ite (inB c (List.length (rget link a b).fst)) (Tr.ite (!U.wordC (rget celk (rget link a b).fst c)) (Tr.ret ((0 : Int), (0 : Int), (5 : Int))) (Tr.ite v1 (Tr.ite v3 (Tr.ite v3 (Tr.ret ((↑(U.wl (rget link a b).fst (Int.toNat c)) : Int), (↑(U.wr (rget link a b).fst (List.length (rget link a b).fst) (Int.toNat c)) : Int), (0 : Int))) Tr.fail) Tr.fail) Tr.fail)) Tr.fail) Tr.fail))) Tr.fail
def e75 (r : Int × Int × Int) : FRes := { rs := Slot.tup [AV.one (Leaf.dat (.int .i64) r.fst), AV.one (Leaf.dat (.int .i64) r.snd.fst), AV.one (Leaf.dat (.int .i64) r.snd.snd)], upd := [], new := [] }
@[reducible] def a75 : List AK := [AK.d (Kd.sl link), AK.d (.int .i64), AK.d (.int .i64)]
@[reducible] def b75 : List BK := []
theorem t75 (a : List Line) (b : Int) (c : Int) : evFn (E75) Tryd.f75 [PM.data (.int .i64), PM.data (.int .i64), PM.data (.int .i64)] (akAV a75 (a, b, c, ())) (bkBs b75 ()) = (d75 a b c).map e75 := by kernel_rfl
def s75 (C : akT a75 → Bool) (G : akT a75 → Int × Int × Int) : FSpec := aspec a75 b75 e75 (fun x _ => C x) (fun x _ => G x)
theorem k75 {C : akT a75 → Bool} {G : akT a75 → Int × Int × Int} (hd : ∀ (a : List Line) (b : Int) (c : Int), C (a, b, c, ()) = true → (d75 a b c).val = some (G (a, b, c, ()))) (IO : ItOK Tryd.prog (E75) := by exact itOK_none rfl) (L : ∀ c, Tryd.f75.body = some c → LsOK (evI 2) ((E75).lend 0) c := by exact fun c _ => LsOK_none rfl c) : SpecOK Tryd.prog E0 75 (s75 C G) :=
  aspec_ok (ak := a75) (bl := b75) (e := e75) (c := fun x _ => C x) (g := fun x _ => G x) (E0 := E0) (E := E75) tab AG75 rfl rfl hm Tryd.func75 (by kernel_rfl) [PM.data (.int .i64), PM.data (.int .i64), PM.data (.int .i64)] (fun X Y H => by obtain ⟨a, ⟨b, ⟨c, _⟩⟩⟩ := X; exact val_of (t75 a b c) (hd a b c H)) IO L
end Go.Proofs.YtmnbcnhpklejcaaDoor
namespace U
open Go.Proofs.YtmnbcnhpklejcaaDoor
def wordR (l : List Ln) (row col : Int) : Int × Int × Int :=
  bif !U.may l || !there l row col then (0, 0, 1) else
  bif !wordC ((l.getD row.toNat dL).1.getD col.toNat dC) then (0, 0, 5) else
  ((wl (l.getD row.toNat dL).1 col.toNat : Int), (wr (l.getD row.toNat dL).1 (l.getD row.toNat dL).1.length col.toNat : Int), 0)
end U
namespace Go.Proofs.YtmnbcnhpklejcaaDoor
abbrev w75 : FSpec := s75 (fun x => U.okl x.1 && decide (U.cells x.1 ≤ 1048576)) fun x => U.wordR x.1 x.2.1 x.2.2.1
theorem wk75 : SpecOK Tryd.prog E0 75 w75 := by
  refine k75 (fun l r c H => ?_) (L := ls_ok (lcs := [lc Tryd.f75 0, lc Tryd.f75 1]) (rgs := []) (by kernel_rfl) (by kernel_rfl) ⟨L75_0, L75_1⟩ trivial)
  have H : (U.okl l && decide (U.cells l ≤ 1048576)) = true := H
  have gk : U.okl l = true := by rw [Bool.and_eq_true] at H; exact H.1
  show _ = some (U.wordR l r c)
  unfold U.wordR
  cases hm : U.may l with
  | false => simp only [d75, Tr.val, H, hm, Bool.not_false, Bool.true_or, cond_true]
  | true =>
    cases ht : U.there l r c with
    | false => simp only [d75, Tr.val, H, hm, ht, Bool.not_true, Bool.not_false, Bool.or_true, cond_true, cond_false]
    | true =>
      obtain ⟨n, m, rfl, rfl, h1, h2⟩ := U.there_nat ht
      have e1 : rget link l (n : Int) = l.getD n U.dL := rgetL l n
      have e2 : ∀ x : List Cell, rget celk x (m : Int) = x.getD m U.dC := fun x => rgetC x m
      have hc := U.okc_len (U.okl_at gk h1)
      have hc : (l.getD n U.dL).1.length ≤ 1048576 := hc
      have c1 : (0 : Int) ≤ (m : Int) := by omega
      have c2 : (m : Int) < ((l.getD n U.dL).1.length : Int) := by omega
      simp only [d75, Tr.val, H, hm, ht, e1, e2, inB_nat h1, inB_nat h2, Int.toNat_natCast, Bool.not_true, Bool.or_self, cond_true, cond_false]
      cases U.wordC ((l.getD n U.dL).1.getD m U.dC) with
      | false => simp
      | true =>
        obtain ⟨q1, q2, q3⟩ := U.wl_is (l.getD n U.dL).1 m
        simp only [hc, c1, c2, and_self, decide_true, Bool.not_true, cond_true, cond_false]
def live125 (key : Nat) : Lv :=
  bif Nat.beq key 3 then { ls := [2, 4, 11, 19, 20, 21], wd := [⟨11, none, .row 9 .str⟩] } else bif Nat.beq key 1003 then { ls := [11] } else
  { ls := [] }
abbrev G125 : List (Nat × FSpec) := [(108, w108), (126, w126), (127, w127)]
theorem AG125 : AllFn Tryd.prog E0 G125 := .cons wk108 (.cons wk126 (.cons wk127 .nil))
abbrev M125 (ls : Nat → VS → Option (Tr (Ex × VS))) : Env := (E0.withFns G125).loops live125 ls
@[reducible] def p125_0 : LP := { n := 46, sl := [.d (.int .i64), .d (.int .i64), .c (Leaf.row ( 0)), .d (Kd.sl link), .d (.int .i64), .d (.int .i64)], bl := [(0, .row 9 (Kd.str))] }
def B125_0 (x0 : Int) (x1 : Int) (x3 : List Line) (x4 : Int) (x5 : Int) (h0 : List ByteArray) : Tr (p125_0.T ⊕ (List ByteArray)) :=
 let v1 : Int := ((↑(List.length (rget link x3 x5).fst) : Int))
 let v2 : Int := (minI x0 v1)
 let v3 : Int := (minI (IntKind.wrap IntKind.i64 (x1 + (1 : Int))) v1)
 let v4 : List Cell := (sub (rget link x3 x5).fst (Int.toNat v2) (Int.toNat v3))
 let v5 : List Int := (U.sayL v4)
 let v6 : ByteArray := (strOf v5)
 Tr.ite (decide (x5 < x4)) (Tr.ite (inB x5 (List.length x3)) (Tr.ite (decide ((0 : Int) ≤ v2 ∧ v2 ≤ v3 ∧ v3 ≤ v1)) (Tr.ite (decide (List.length v4 ≤ (1048576 : Nat) ∧ List.length v5 ≤ (140737488355328 : Nat))) (Tr.ite (decide (ByteArray.size v6 ≤ (140737488355328 : Nat))) (Tr.ite (decide ((List.length h0 + (1 : Nat)) * (16 : Nat) ≤ (140737488355328 : Nat))) (Tr.ret (Sum.inl ((x0, x1, x3, x4, IntKind.wrap IntKind.i64 (x5 + (1 : Int)), ()), h0 ++ [U.bareS v6], ()))) Tr.fail) Tr.fail) Tr.fail) Tr.fail) Tr.fail) (Tr.ret (Sum.inr h0))
def X125_0 (r : (List ByteArray)) : Ex × VS := Prod.mk (Ex.exit ( 0)) { n := 46, v := [Slot.av (AV.one (Leaf.row ( 0)))], h := [( 0, Blk.row ( 9) Kd.str r)] }
def b125_0 : p125_0.T → Tr (p125_0.T ⊕ (List ByteArray)) := fun ⟨⟨x0, ⟨x1, ⟨x3, ⟨x4, ⟨x5, _⟩⟩⟩⟩⟩, ⟨h0, _⟩⟩ => B125_0 x0 x1 x3 x4 x5 h0
theorem h125_0 (ls : Nat → VS → Option (Tr (Ex × VS))) (x : p125_0.T) : (evC (evI 2) (lc Tryd.f125 0) (Env.lend (M125 ls) 0) (unV (live125 3) (p125_0.V x))).map (decL 0 (live125 3) (live125 1003)) = (b125_0 x).map (encR p125_0.V X125_0) := by
  obtain ⟨⟨x0, ⟨x1, ⟨x3, ⟨x4, ⟨x5, _⟩⟩⟩⟩⟩, ⟨h0, _⟩⟩ := x; kernel_rfl
theorem c125_0 (x : p125_0.T) : canV 0 (live125 3) (unV (live125 3) (p125_0.V x)) = p125_0.V x := by
  obtain ⟨⟨x0, ⟨x1, ⟨x3, ⟨x4, ⟨x5, _⟩⟩⟩⟩⟩, ⟨h0, _⟩⟩ := x; kernel_rfl
theorem l125_0 {T : p125_0.T → Tr (List ByteArray)} {ls : Nat → VS → Option (Tr (Ex × VS))} (hls : ∀ x, (Env.lend (M125 ls) 0).ls 3 x = p125_0.ls (fun a => (T a).map X125_0) x) (hS : ∀ x r, (T x).val = some r → Rounds b125_0 x r) : LoopOK (evI 2) (Env.lend (M125 ls) 0) (lc Tryd.f125 0) :=
  loopA 3 (live125 3) (live125 1003) p125_0 b125_0 X125_0 T (by kernel_rfl) rfl rfl hls (h125_0 ls) c125_0 hS
end Go.Proofs.YtmnbcnhpklejcaaDoor
namespace U
open Go.Proofs.YtmnbcnhpklejcaaDoor
theorem strOf_size (l : List Int) : (strOf l).size = l.length := by
  show ((strOf l).data).size = _
  simp [strOf]
theorem okc_part {l : List Cl} (h : okc l = true) (a b : Nat) : okc ((l.take b).drop a) = true := by
  unfold okc at h ⊢
  rw [Bool.and_eq_true] at h ⊢
  have h1 := of_decide_eq_true h.1
  refine ⟨decide_eq_true (by rw [List.length_drop, List.length_take]; omega), List.all_eq_true.2 fun c hc => List.all_eq_true.1 h.2 c (List.mem_of_mem_take (List.mem_of_mem_drop hc))⟩
theorem sayL_len2 : ∀ {l : List Cl}, (∀ c ∈ l, c.1.size ≤ 1048576) → (sayL l).length ≤ l.length * 1048577
  | [], _ => by simp [sayL]
  | c :: l, h => by
    have ih := sayL_len2 (l := l) fun x hx => h x (by simp [hx])
    have hc := h c (by simp)
    have e : (sayC c).length ≤ c.1.size + 1 := by
      unfold sayC
      rw [List.length_append, bytesL_len]
      cases (decide (c.1 = (⟨#[]⟩ : ByteArray)) && decide (c.2.1 = 1)) <;> simp
    show (sayC c ++ sayL l).length ≤ _
    rw [List.length_append, List.length_cons, Nat.add_mul]
    omega
theorem okc_cells {l : List Cl} (h : okc l = true) : ∀ c ∈ l, c.1.size ≤ 1048576 := fun c hc => by
  unfold okc at h
  rw [Bool.and_eq_true] at h
  exact of_decide_eq_true (List.all_eq_true.1 h.2 c hc)
theorem bareS_size (s : ByteArray) : (bareS s).size ≤ s.size := by
  unfold bareS
  rw [ByteArray.size_extract]
  omega
def partS (y : Ln) (a b : Nat) : ByteArray := strOf (sayL ((y.1.take b).drop a))
theorem partS_size {y : Ln} (h : okc y.1 = true) (a b : Nat) : (partS y a b).size ≤ y.1.length * 1048577 := by
  unfold partS
  rw [strOf_size]
  have h1 := sayL_len2 (okc_cells (okc_part h a b))
  have h2 : ((y.1.take b).drop a).length ≤ y.1.length := by rw [List.length_drop, List.length_take]; omega
  exact Nat.le_trans h1 (Nat.mul_le_mul_right 1048577 h2)
theorem part_sum (a b : Nat) : ∀ {l : List Ln}, (∀ y ∈ l, okc y.1 = true) → sumS (l.map fun y => bareS (partS y a b)) ≤ cells l * 1048577
  | [], _ => by simp [sumS, cells]
  | y :: l, h => by
    rw [List.map_cons, Go.Proofs.YtmnbcnhpklejcaaDoor.sumS_cons]
    have h1 := partS_size (h y (by simp)) a b
    have h2 := bareS_size (partS y a b)
    have h3 := part_sum a b (l := l) fun z hz => h z (by simp [hz])
    show _ ≤ (y.1.length + cells l) * 1048577
    rw [Nat.add_mul]
    omega
theorem cells_part : ∀ (l : List Ln) (a b : Nat), cells ((l.take b).drop a) ≤ cells l
  | [], a, b => by simp [cells]
  | y :: l, a, 0 => by simp [cells]
  | y :: l, 0, b + 1 => by
    have := cells_part l 0 b
    rw [List.drop_zero] at this
    rw [List.take_succ_cons, List.drop_zero]
    show y.1.length + cells (l.take b) ≤ y.1.length + cells l
    omega
  | y :: l, a + 1, b + 1 => by
    have := cells_part l a b
    rw [List.take_succ_cons, List.drop_succ_cons]
    show _ ≤ y.1.length + cells l
    omega
theorem sub_part (l : List Cl) (a b : Nat) : sub l (min a l.length) (min b l.length) = (l.take b).drop a := by
  unfold sub
  have e : l.take (min b l.length) = l.take b := by
    rcases Nat.le_total b l.length with h | h
    · rw [Nat.min_eq_left h]
    · rw [Nat.min_eq_right h, List.take_length, List.take_of_length_le h]
  rw [e]
  rcases Nat.le_total a l.length with h | h
  · rw [Nat.min_eq_left h]
  · rw [Nat.min_eq_right h, List.drop_of_length_le (by rw [List.length_take]; omega), List.drop_of_length_le (by rw [List.length_take]; omega)]
end U
namespace Go.Proofs.YtmnbcnhpklejcaaDoor
def T125 (x : p125_0.T) : Tr (List ByteArray) :=
  match x with
  | ⟨⟨a, b, l, n, i, _⟩, out, _⟩ => .ite (decide (0 ≤ (a : Int) ∧ (a : Int) ≤ (b : Int) ∧ (b : Int) ≤ 1048576 ∧ (n : Int) = (List.length (α := Line) l : Int) ∧ (i : Int) = 0 ∧ List.length (α := ByteArray) out + List.length (α := Line) l ≤ 1048576) && U.okl l)
      (.ret (List.append (α := ByteArray) out (List.map (α := Line) (fun y => U.bareS (U.partS y (Int.toNat a) (Int.toNat b + 1))) l))) .fail
abbrev E125 : Env := M125 fun key x => bif Nat.beq key 3 then p125_0.ls (fun a => (T125 a).map X125_0) x else none
theorem L125 : LoopOK (evI 2) (E125.lend 0) (lc Tryd.f125 0) := by
  refine l125_0 (T := T125) (fun x => rfl) ?_
  rintro ⟨⟨a, b, l, n, i, z⟩, out, z1⟩ r hh
  obtain ⟨g1, g2⟩ := pre_val hh
  rw [Bool.and_eq_true] at g1
  obtain ⟨g1, gk⟩ := g1
  have g1 : 0 ≤ (a : Int) ∧ (a : Int) ≤ (b : Int) ∧ (b : Int) ≤ 1048576 ∧ (n : Int) = (l.length : Int) ∧ (i : Int) = 0 ∧ out.length + l.length ≤ 1048576 := of_decide_eq_true g1
  obtain ⟨h1, h2, h3, rfl, rfl, h4⟩ := g1
  have gk : U.okl l = true := gk
  obtain ⟨p, rfl⟩ := Int.eq_ofNat_of_zero_le h1
  obtain ⟨q, rfl⟩ := Int.eq_ofNat_of_zero_le (Int.le_trans h1 h2)
  have h2 : (p : Int) ≤ (q : Int) := h2
  have h3 : (q : Int) ≤ 1048576 := h3
  cases g2
  refine Rounds.mapA (B := b125_0) l (fun i s => (((p : Int), (q : Int), l, (l.length : Int), (i : Int), ()), s, ())) (fun y => U.bareS (U.partS y p (q + 1))) (fun s => s) 1048576 (fun i s hi hv => ?_) (fun s => ?_) out h4
  · have e : rget link l (i : Int) = l[i] := by rw [rgetL]; exact getD_el hi
    have hy : U.okc l[i].1 = true := by have := U.okl_at gk hi; rwa [getD_el hi] at this
    generalize l[i] = y at *
    have e1 : IntKind.i64.wrap ((q : Int) + 1) = ((q + 1 : Nat) : Int) := wrap64_nat (by omega)
    have e2 : minI (p : Int) (y.1.length : Int) = ((min p y.1.length : Nat) : Int) := minI_nat _ _
    have e3 : minI ((q + 1 : Nat) : Int) (y.1.length : Int) = ((min (q + 1) y.1.length : Nat) : Int) := minI_nat _ _
    have e4 := U.sub_part y.1 p (q + 1)
    have c1 : decide ((0 : Int) ≤ ((min p y.1.length : Nat) : Int) ∧ ((min p y.1.length : Nat) : Int) ≤ ((min (q + 1) y.1.length : Nat) : Int) ∧ ((min (q + 1) y.1.length : Nat) : Int) ≤ (y.1.length : Int)) = true := decide_eq_true (by omega)
    have o1 := U.okc_part hy p (q + 1)
    have o2 := (U.okc_say o1 0).2
    rw [List.drop_zero] at o2
    have c2 : decide (((y.1.take (q + 1)).drop p).length ≤ 1048576 ∧ (U.sayL ((y.1.take (q + 1)).drop p)).length ≤ 140737488355328) = true := decide_eq_true ⟨U.okc_len o1, o2⟩
    have c3 : decide ((strOf (U.sayL ((y.1.take (q + 1)).drop p))).size ≤ 140737488355328) = true := decide_eq_true (by rw [U.strOf_size]; exact o2)
    have c4 : decide ((s.length + 1) * 16 ≤ 140737488355328) = true := decide_eq_true (by omega)
    have c5 : decide ((i : Int) < (l.length : Int)) = true := decide_eq_true (by omega)
    simp only [b125_0, B125_0, Tr.val, e, e1, e2, e3, Int.toNat_natCast, e4, c1, c2, c3, c4, c5, inB_nat hi, cond_true, wrap64_nat (show i ≤ 1048576 by omega)]
    rfl
  · simp only [b125_0, B125_0, Tr.val, show ¬ ((l.length : Int) < (l.length : Int)) by omega, decide_false, cond_false]
def d125 (a : List Line) (b : Int) (c : Int) (y : Int) (f : Int) : Tr (ByteArray) :=
 let v1 : Int := ((↑(List.length a) : Int))
 let v2 : Int := (IntKind.wrap IntKind.i64 (y + (1 : Int)))
 let v3 : List Line := (sub a (Int.toNat b) (Int.toNat v2))
 let v4 : Int := ((↑(List.length v3) : Int))
 let v5 : Int := ((↑(List.length v3) : Int))
 let v6 : List ByteArray := (List.append [] (List.map (fun (y : Line) => U.bareS (U.partS y (Int.toNat c) (Int.toNat f + (1 : Nat)))) v3))
 Tr.ite (decide ((0 : Int) ≤ b ∧ b ≤ v2 ∧ v2 ≤ v1)) (Tr.ite (decide ((0 : Int) ≤ c ∧ c ≤ f ∧ f ≤ (1048576 : Int) ∧ v5 = v4 ∧ (0 : Int) = (0 : Int) ∧ (0 : Nat) + List.length v3 ≤ (1048576 : Nat)) && U.okl v3) (Tr.ite (decide ((1 : Nat) ≤ (1 : Nat) ∧ (1 : Nat) ≤ (1048576 : Nat) ∧ List.length v6 ≤ (1048576 : Nat) ∧ U.sumS v6 + List.length v6 * (1 : Nat) ≤ (140737488355328 : Nat))) (Tr.ret (strOf (U.joinI { data := #[OfNat.ofNat (10 : Nat)] } v6))) Tr.fail) Tr.fail) Tr.fail
def e125 (r : ByteArray) : FRes := { rs := Slot.av (AV.one (Leaf.dat Kd.str r)), upd := [], new := [] }
@[reducible] def a125 : List AK := [AK.d (Kd.sl link), AK.d (.int .i64), AK.d (.int .i64), AK.d (.int .i64), AK.d (.int .i64)]
@[reducible] def b125 : List BK := []
theorem t125 (a : List Line) (b : Int) (c : Int) (y : Int) (f : Int) : evFn (E125) Tryd.f125 [PM.data Kd.str] (akAV a125 (a, b, c, y, f, ())) (bkBs b125 ()) = (d125 a b c y f).map e125 := by kernel_rfl
def s125 (C : akT a125 → Bool) (G : akT a125 → ByteArray) : FSpec := aspec a125 b125 e125 (fun x _ => C x) (fun x _ => G x)
theorem k125 {C : akT a125 → Bool} {G : akT a125 → ByteArray} (hd : ∀ (a : List Line) (b : Int) (c : Int) (y : Int) (f : Int), C (a, b, c, y, f, ()) = true → (d125 a b c y f).val = some (G (a, b, c, y, f, ()))) (IO : ItOK Tryd.prog (E125) := by exact itOK_none rfl) (L : ∀ c, Tryd.f125.body = some c → LsOK (evI 2) ((E125).lend 0) c := by exact fun c _ => LsOK_none rfl c) : SpecOK Tryd.prog E0 125 (s125 C G) :=
  aspec_ok (ak := a125) (bl := b125) (e := e125) (c := fun x _ => C x) (g := fun x _ => G x) (E0 := E0) (E := E125) tab AG125 rfl rfl hm Tryd.func125 (by kernel_rfl) [PM.data Kd.str] (fun X Y H => by obtain ⟨a, ⟨b, ⟨c, ⟨y, ⟨f, _⟩⟩⟩⟩⟩ := X; exact val_of (t125 a b c y f) (hd a b c y f H)) IO L
end Go.Proofs.YtmnbcnhpklejcaaDoor
namespace U
def nlS : ByteArray := ⟨#[10]⟩
def blockS (l : List Ln) (row col row2 col2 : Nat) : ByteArray := strOf (joinI nlS (((l.take (row2 + 1)).drop row).map fun y => bareS (partS y col (col2 + 1))))
end U
namespace Go.Proofs.YtmnbcnhpklejcaaDoor
abbrev w125 : FSpec := s125 (fun x => (U.okl x.1 && decide (U.cells x.1 ≤ 1048576)) && decide (0 ≤ (x.2.1 : Int) ∧ (x.2.1 : Int) ≤ (x.2.2.2.1 : Int) ∧ (x.2.2.2.1 : Int) < (List.length (α := Line) x.1 : Int) ∧ 0 ≤ (x.2.2.1 : Int) ∧ (x.2.2.1 : Int) ≤ (x.2.2.2.2.1 : Int) ∧ (x.2.2.2.2.1 : Int) ≤ 1048576))
  fun x => U.blockS x.1 x.2.1.toNat x.2.2.1.toNat x.2.2.2.1.toNat x.2.2.2.2.1.toNat
theorem wk125 : SpecOK Tryd.prog E0 125 w125 := by
  refine k125 (fun l r c r2 c2 H => ?_) (L := ls_ok (lcs := [lc Tryd.f125 0]) (rgs := []) (by kernel_rfl) (by kernel_rfl) L125 trivial)
  have H : ((U.okl l && decide (U.cells l ≤ 1048576)) && decide (0 ≤ (r : Int) ∧ (r : Int) ≤ (r2 : Int) ∧ (r2 : Int) < (l.length : Int) ∧ 0 ≤ (c : Int) ∧ (c : Int) ≤ (c2 : Int) ∧ (c2 : Int) ≤ 1048576)) = true := H
  rw [Bool.and_eq_true, Bool.and_eq_true] at H
  obtain ⟨⟨gk, g2⟩, g3⟩ := H
  have g2 : U.cells l ≤ 1048576 := of_decide_eq_true g2
  obtain ⟨h1, h2, h3, h4, h5, h6⟩ := of_decide_eq_true g3
  obtain ⟨p, rfl⟩ := Int.eq_ofNat_of_zero_le h1
  obtain ⟨q, rfl⟩ := Int.eq_ofNat_of_zero_le (Int.le_trans h1 h2)
  obtain ⟨a, rfl⟩ := Int.eq_ofNat_of_zero_le h4
  obtain ⟨b, rfl⟩ := Int.eq_ofNat_of_zero_le (Int.le_trans h4 h5)
  have hl := U.okl_len gk
  have e1 : IntKind.i64.wrap ((q : Int) + 1) = ((q + 1 : Nat) : Int) := wrap64_nat (by omega)
  have e2 : sub l p (q + 1) = (l.take (q + 1)).drop p := rfl
  have ok : U.okl ((l.take (q + 1)).drop p) = true := by
    unfold U.okl at gk ⊢
    rw [Bool.and_eq_true] at gk ⊢
    exact ⟨decide_eq_true (by rw [List.length_drop, List.length_take]; omega), List.all_eq_true.2 fun y hy => List.all_eq_true.1 gk.2 y (List.mem_of_mem_take (List.mem_of_mem_drop hy))⟩
  have hn : ((l.take (q + 1)).drop p).length ≤ 1048576 := U.okl_len ok
  have hs := U.part_sum a (b + 1) (l := (l.take (q + 1)).drop p) fun y hy => by
    unfold U.okl at ok
    rw [Bool.and_eq_true] at ok
    exact List.all_eq_true.1 ok.2 y hy
  have hs : U.sumS (List.map (fun (y : Line) => U.bareS (U.partS y a (b + 1))) ((l.take (q + 1)).drop p)) ≤ U.cells ((l.take (q + 1)).drop p) * 1048577 := hs
  have hc := U.cells_part l p (q + 1)
  have hs2 := Nat.mul_le_mul_right 1048577 (Nat.le_trans hc g2)
  show _ = some (U.blockS l p a q b)
  have h2 : (p : Int) ≤ (q : Int) := h2
  have h3 : (q : Int) < (l.length : Int) := h3
  have h5 : (a : Int) ≤ (b : Int) := h5
  have a1 : (p : Int) ≤ ((q + 1 : Nat) : Int) := by omega
  have a2 : ((q + 1 : Nat) : Int) ≤ (l.length : Int) := by omega
  have a3 : 0 + ((l.take (q + 1)).drop p).length ≤ 1048576 := by omega
  have a4 : (List.map (fun (y : Line) => U.bareS (U.partS y a (b + 1))) ((l.take (q + 1)).drop p)).length ≤ 1048576 := by rw [List.length_map]; exact hn
  have a5 : U.sumS (List.map (fun (y : Line) => U.bareS (U.partS y a (b + 1))) ((l.take (q + 1)).drop p)) + (List.map (fun (y : Line) => U.bareS (U.partS y a (b + 1))) ((l.take (q + 1)).drop p)).length * 1 ≤ 140737488355328 := by omega
  have a0 : ∀ x : List ByteArray, List.append [] x = x := fun _ => rfl
  simp only [d125, Tr.val, e1, e2, ok, h4, h5, h6, a0, a1, a2, a3, a4, a5, Int.toNat_natCast, Int.natCast_nonneg, Nat.le_refl, show (1 : Nat) ≤ 1048576 by decide, and_self, decide_true, Bool.and_self, cond_true]
  rfl
def live74 (key : Nat) : Lv :=
  bif Nat.beq key 25018 then { ls := [9999, 0, 1, 2, 3, 4, 14, 15, 16, 106] } else bif Nat.beq key 45018 then { ls := [96, 97, 98, 99, 100, 101, 102, 103, 104, 105, 106] } else
  bif Nat.beq key 20082 then { ls := [9999, 0, 1, 2, 3, 4, 14, 15, 16, 17, 18] } else bif Nat.beq key 40082 then { ls := [18, 83, 84] } else
  bif Nat.beq key 20078 then { ls := [9999, 0, 1, 2, 3, 4, 14, 15, 16, 17, 18] } else bif Nat.beq key 40078 then { ls := [17, 79] } else
  bif Nat.beq key 10 then { ls := [0, 1, 2, 3, 4, 14, 15, 16], wd := [⟨14, none, .row 9 .str⟩] } else bif Nat.beq key 1010 then { ls := [14] } else
  bif Nat.beq key 20059 then { ls := [9999, 0, 1, 2, 3, 4] } else bif Nat.beq key 40059 then { ls := [1, 2, 3, 4, 60, 61, 62, 63] } else
  bif Nat.beq key 25001 then { ls := [9999, 0, 1, 2, 3, 4, 5, 35] } else bif Nat.beq key 45001 then { ls := [19, 20, 21, 22, 23, 24, 25, 26, 27, 28, 29, 30, 31, 32, 33, 34, 35] } else
  { ls := [] }
abbrev G74 : List (Nat × FSpec) := [(102, w102), (103, w103), (125, w125), (105, w105), (106, w106), (108, w108), (126, w126), (127, w127)]
theorem AG74 : AllFn Tryd.prog E0 G74 := .cons wk102 (.cons wk103 (.cons wk125 (.cons wk105 (.cons wk106 (.cons wk108 (.cons wk126 (.cons wk127 .nil)))))))
abbrev M74 (ls : Nat → VS → Option (Tr (Ex × VS))) : Env := (E0.withFns G74).loops live74 ls
@[reducible] def p74_0 : LP := { n := 114, sl := [.d (Kd.sl link), .d (.int .i64), .d (.int .i64), .d (.int .i64), .d (.int .i64), .c (Leaf.row ( 0)), .d (Kd.str), .d (.int .i64)], bl := [(0, .row 9 (Kd.str))] }
def B74_0 (x0 : List Line) (x1 : Int) (x2 : Int) (x3 : Int) (x4 : Int) (x6 : ByteArray) (x7 : Int) (h0 : List ByteArray) : Tr (p74_0.T ⊕ (List ByteArray)) :=
 let v1 : Bool := (inB x7 (List.length x0))
 let v2 : Bool := (decide (x7 = x3))
 let v3 : Int := ((↑(List.length (rget link x0 x7).fst) : Int))
 let v4 : List Cell := (sub (rget link x0 x7).fst (Int.toNat (bif decide (x7 = x1) then x2 else (0 : Int))) (Int.toNat (bif v2 then IntKind.wrap IntKind.i64 (x4 + (1 : Int)) else v3)))
 let v5 : List Int := (U.sayL v4)
 let v6 : ByteArray := (strOf v5)
 let v7 : ByteArray := (x6 ++ v6)
 Tr.ite (decide (x7 ≤ x3)) (Tr.ite v1 (Tr.ite (Kd.eqb (Kd.sl link) x0 x0 && (Kd.eqb (.int .i64) x1 x1 && (Kd.eqb (.int .i64) x2 x2 && (Kd.eqb (.int .i64) x3 x3 && (Kd.eqb (.int .i64) x4 x4 && (Kd.eqb Kd.str x6 x6 && (Kd.eqb (.int .i64) x7 x7 && Kd.eqb (.int .i64) v3 v3)))))) && Kd.eqb (Kd.sl Kd.str) h0 h0) (Tr.ite (Kd.eqb (Kd.sl link) x0 x0 && (Kd.eqb (.int .i64) x1 x1 && (Kd.eqb (.int .i64) x2 x2 && (Kd.eqb (.int .i64) x3 x3 && (Kd.eqb (.int .i64) x4 x4 && (Kd.eqb Kd.str x6 x6 && (Kd.eqb (.int .i64) x7 x7 && Kd.eqb (.int .i64) (bif decide (x7 = x1) then x2 else (0 : Int)) (bif decide (x7 = x1) then x2 else (0 : Int)))))))) && Kd.eqb (Kd.sl Kd.str) h0 h0) (Tr.ite v1 (Tr.ite (decide (((0 : Int) ≤ bif decide (x7 = x1) then x2 else (0 : Int)) ∧ ((bif decide (x7 = x1) then x2 else (0 : Int)) ≤ bif v2 then IntKind.wrap IntKind.i64 (x4 + (1 : Int)) else v3) ∧ (bif v2 then IntKind.wrap IntKind.i64 (x4 + (1 : Int)) else v3) ≤ v3)) (Tr.ite (decide (List.length v4 ≤ (1048576 : Nat) ∧ List.length v5 ≤ (140737488355328 : Nat))) (Tr.ite (decide (ByteArray.size x6 + ByteArray.size v6 ≤ (9223372036854775807 : Nat))) (Tr.ite ((bif v2 then true else v1) && (Kd.eqb (Kd.sl link) x0 x0 && (Kd.eqb (.int .i64) x1 x1 && (Kd.eqb (.int .i64) x2 x2 && (Kd.eqb (.int .i64) x3 x3 && (Kd.eqb (.int .i64) x4 x4 && (Kd.eqb Kd.str v7 v7 && Kd.eqb (.int .i64) x7 x7))))) && Kd.eqb (Kd.sl Kd.str) h0 h0)) (Tr.ite (bif v2 then true else !(rget link x0 x7).snd.fst) (Tr.ite (decide (ByteArray.size v7 ≤ (140737488355328 : Nat))) (Tr.ite (decide ((List.length h0 + (1 : Nat)) * (16 : Nat) ≤ (140737488355328 : Nat))) (Tr.ret (Sum.inl ((x0, x1, x2, x3, x4, { data := #[] }, IntKind.wrap IntKind.i64 (x7 + (1 : Int)), ()), h0 ++ [U.bareS v7], ()))) Tr.fail) Tr.fail) (Tr.ret (Sum.inl ((x0, x1, x2, x3, x4, v7, IntKind.wrap IntKind.i64 (x7 + (1 : Int)), ()), h0, ())))) Tr.fail) Tr.fail) Tr.fail) Tr.fail) Tr.fail) Tr.fail) Tr.fail) Tr.fail) (Tr.ret (Sum.inr h0))
def X74_0 (r : (List ByteArray)) : Ex × VS := Prod.mk (Ex.exit ( 0)) { n := 114, v := [Slot.av (AV.one (Leaf.row ( 0)))], h := [( 0, Blk.row ( 9) Kd.str r)] }
def b74_0 : p74_0.T → Tr (p74_0.T ⊕ (List ByteArray)) := fun ⟨⟨x0, ⟨x1, ⟨x2, ⟨x3, ⟨x4, ⟨x6, ⟨x7, _⟩⟩⟩⟩⟩⟩⟩, ⟨h0, _⟩⟩ => B74_0 x0 x1 x2 x3 x4 x6 x7 h0
theorem h74_0 (ls : Nat → VS → Option (Tr (Ex × VS))) (x : p74_0.T) : (evC (evI 2) (lc Tryd.f74 0) (Env.lend (M74 ls) 0) (unV (live74 10) (p74_0.V x))).map (decL 0 (live74 10) (live74 1010)) = (b74_0 x).map (encR p74_0.V X74_0) := by
  obtain ⟨⟨x0, ⟨x1, ⟨x2, ⟨x3, ⟨x4, ⟨x6, ⟨x7, _⟩⟩⟩⟩⟩⟩⟩, ⟨h0, _⟩⟩ := x; kernel_rfl
theorem c74_0 (x : p74_0.T) : canV 0 (live74 10) (unV (live74 10) (p74_0.V x)) = p74_0.V x := by
  obtain ⟨⟨x0, ⟨x1, ⟨x2, ⟨x3, ⟨x4, ⟨x6, ⟨x7, _⟩⟩⟩⟩⟩⟩⟩, ⟨h0, _⟩⟩ := x; kernel_rfl
theorem l74_0 {T : p74_0.T → Tr (List ByteArray)} {ls : Nat → VS → Option (Tr (Ex × VS))} (hls : ∀ x, (Env.lend (M74 ls) 0).ls 10 x = p74_0.ls (fun a => (T a).map X74_0) x) (hS : ∀ x r, (T x).val = some r → Rounds b74_0 x r) : LoopOK (evI 2) (Env.lend (M74 ls) 0) (lc Tryd.f74 0) :=
  loopA 10 (live74 10) (live74 1010) p74_0 b74_0 X74_0 T (by kernel_rfl) rfl rfl hls (h74_0 ls) c74_0 hS
end Go.Proofs.YtmnbcnhpklejcaaDoor
namespace U
open Go.Proofs.YtmnbcnhpklejcaaDoor
def partT (l : List Ln) (row col row2 col2 r : Nat) : ByteArray := partS (l.getD r dL) (if r = row then col else 0) (if r = row2 then col2 + 1 else rowLen l r)
def takeF (l : List Ln) (row col row2 col2 : Nat) : Nat → Nat → List ByteArray → ByteArray → List ByteArray
  | 0, _, out, _ => out
  | k + 1, r, out, now => bif decide (r = row2) || !(l.getD r dL).2.1 then takeF l row col row2 col2 k (r + 1) (out ++ [bareS (now ++ partT l row col row2 col2 r)]) ByteArray.empty
    else takeF l row col row2 col2 k (r + 1) out (now ++ partT l row col row2 col2 r)
theorem cells_drop {l : List Ln} {r : Nat} (h : r < l.length) : cells (l.drop r) = rowLen l r + cells (l.drop (r + 1)) := by
  rw [List.drop_eq_getElem_cons h]
  have : rowLen l r = l[r].1.length := by unfold rowLen; rw [getD_el h]
  rw [this]
  rfl
theorem partT_size {l : List Ln} (h : okl l = true) (row col row2 col2 : Nat) {r : Nat} (hr : r < l.length) : (partT l row col row2 col2 r).size ≤ rowLen l r * 1048577 := partS_size (okl_at h hr) _ _
theorem sumS_app (a b : List ByteArray) : sumS (a ++ b) = sumS a + sumS b := by unfold sumS; rw [List.map_append, List.sum_append]
theorem takeF_sum {l : List Ln} (h : okl l = true) (row col row2 col2 : Nat) : ∀ (k r : Nat) (out : List ByteArray) (now : ByteArray), r + k ≤ l.length →
    sumS (takeF l row col row2 col2 k r out now) ≤ sumS out + (now.size + cells (l.drop r) * 1048577) ∧ (takeF l row col row2 col2 k r out now).length ≤ out.length + k
  | 0, r, out, now, _ => ⟨Nat.le_add_right _ _, Nat.le_refl _⟩
  | k + 1, r, out, now, hk => by
    have hr : r < l.length := by omega
    have hp := partT_size h row col row2 col2 hr
    have hc := cells_drop hr
    have e : cells (l.drop r) * 1048577 = rowLen l r * 1048577 + cells (l.drop (r + 1)) * 1048577 := by rw [hc, Nat.add_mul]
    have hs : (now ++ partT l row col row2 col2 r).size = now.size + (partT l row col row2 col2 r).size := ByteArray.size_append
    unfold takeF
    cases (decide (r = row2) || !(l.getD r dL).2.1) with
    | true =>
      simp only [cond_true]
      obtain ⟨h1, h2⟩ := takeF_sum h row col row2 col2 k (r + 1) (out ++ [bareS (now ++ partT l row col row2 col2 r)]) ByteArray.empty (by omega)
      rw [sumS_app, List.length_append, List.length_singleton] at *
      have h3 := bareS_size (now ++ partT l row col row2 col2 r)
      have h4 : sumS [bareS (now ++ partT l row col row2 col2 r)] = (bareS (now ++ partT l row col row2 col2 r)).size := by unfold sumS; simp
      have h5 : ByteArray.empty.size = 0 := rfl
      omega
    | false =>
      simp only [cond_false]
      obtain ⟨h1, h2⟩ := takeF_sum h row col row2 col2 k (r + 1) out (now ++ partT l row col row2 col2 r) (by omega)
      omega
end U
namespace Go.Proofs.YtmnbcnhpklejcaaDoor
def T74 (x : p74_0.T) : Tr (List ByteArray) :=
  match x with
  | ⟨⟨l, row, col, row2, col2, now, r, _⟩, out, _⟩ =>
    .ite (decide (0 ≤ (row : Int) ∧ (row : Int) ≤ (row2 : Int) ∧ (row2 : Int) < (List.length (α := Line) l : Int) ∧ 0 ≤ (col : Int) ∧ (col : Int) < (U.rowLen l row.toNat : Int) ∧ 0 ≤ (col2 : Int) ∧ (col2 : Int) < (U.rowLen l row2.toNat : Int) ∧ ((row : Int) < (row2 : Int) ∨ (col : Int) ≤ (col2 : Int)) ∧
        (r : Int) = (row : Int) ∧ ByteArray.size now = 0 ∧ U.cells l ≤ 1048576 ∧ List.length (α := ByteArray) out + List.length (α := Line) l ≤ 2097152) && U.okl l)
      (.ret (U.takeF l row.toNat col.toNat row2.toNat col2.toNat (row2.toNat + 1 - row.toNat) r.toNat out now)) .fail
abbrev E74 : Env := M74 fun key x => bif Nat.beq key 10 then p74_0.ls (fun a => (T74 a).map X74_0) x else none
theorem R74 (l : List Line) (row col row2 col2 : Nat) (gk : U.okl l = true) (h1 : row ≤ row2) (h2 : row2 < l.length) (h3 : col < U.rowLen l row) (h4 : col2 < U.rowLen l row2) (h5 : row < row2 ∨ col ≤ col2) : ∀ (k r : Nat) (out : List ByteArray) (now : ByteArray),
    r + k = row2 + 1 → row ≤ r → now.size + U.cells (l.drop r) * 1048577 ≤ 140737488355328 → out.length + k ≤ 2097153 →
    Rounds b74_0 ((l, (row : Int), (col : Int), (row2 : Int), (col2 : Int), now, (r : Int), ()), out, ()) (U.takeF l row col row2 col2 k r out now)
  | 0, r, out, now, e, _, _, _ => by
    refine .exit ?_
    have c : decide ((r : Int) ≤ (row2 : Int)) = false := decide_eq_false (by omega)
    simp only [b74_0, B74_0, Tr.val, c, cond_false]
    rfl
  | k + 1, r, out, now, e, hr, hb, hn => by
    have hl := U.okl_len gk
    have hlt : r < l.length := by omega
    have hc := U.okc_len (U.okl_at gk hlt)
    have hc : U.rowLen l r ≤ 1048576 := hc
    have er : rget link l (r : Int) = l.getD r U.dL := rgetL l r
    have w : IntKind.wrap IntKind.i64 ((r : Int) + 1) = ((r + 1 : Nat) : Int) := wrap64_nat (show r ≤ 1048576 by omega)
    have hc2 := U.okc_len (U.okl_at gk h2)
    have hc2 : U.rowLen l row2 ≤ 1048576 := hc2
    have w2 : IntKind.wrap IntKind.i64 ((col2 : Int) + 1) = ((col2 + 1 : Nat) : Int) := wrap64_nat (show col2 ≤ 1048576 by omega)
    have c0 : decide ((r : Int) ≤ (row2 : Int)) = true := decide_eq_true (by omega)
    have hp := U.partT_size gk row col row2 col2 hlt
    have hs : (now ++ U.partT l row col row2 col2 r).size = now.size + (U.partT l row col row2 col2 r).size := ByteArray.size_append
    have hcd := congrArg (· * 1048577) (U.cells_drop hlt)
    simp only [Nat.add_mul] at hcd
    have f1 : (bif decide ((r : Int) = (row : Int)) then (col : Int) else (0 : Int)) = ((if r = row then col else 0 : Nat) : Int) := by
      by_cases q : r = row
      · rw [decide_eq_true (by omega), if_pos q]; rfl
      · rw [decide_eq_false (by omega), if_neg q]; rfl
    have f2 : (bif decide ((r : Int) = (row2 : Int)) then ((col2 + 1 : Nat) : Int) else ((l.getD r U.dL).1.length : Int)) = ((if r = row2 then col2 + 1 else U.rowLen l r : Nat) : Int) := by
      by_cases q : r = row2
      · rw [decide_eq_true (by omega), if_pos q]; rfl
      · rw [decide_eq_false (by omega), if_neg q]; rfl
    have f3 : (if r = row then col else 0) ≤ (if r = row2 then col2 + 1 else U.rowLen l r) ∧ (if r = row2 then col2 + 1 else U.rowLen l r) ≤ U.rowLen l r := by
      by_cases q : r = row <;> by_cases q2 : r = row2
      · subst q; subst q2; simp only [if_true]; omega
      · subst q; simp only [if_true, if_neg q2]; omega
      · subst q2; simp only [if_true, if_neg q]; omega
      · simp only [if_neg q, if_neg q2]; omega
    have f4 : ∀ a b : Nat, sub (l.getD r U.dL).1 a b = ((l.getD r U.dL).1.take b).drop a := fun a b => rfl
    have f5 : strOf (U.sayL (((l.getD r U.dL).1.take (if r = row2 then col2 + 1 else U.rowLen l r)).drop (if r = row then col else 0))) = U.partT l row col row2 col2 r := rfl
    have o1 := U.okc_part (U.okl_at gk hlt) (if r = row then col else 0) (if r = row2 then col2 + 1 else U.rowLen l r)
    have o2 := (U.okc_say o1 0).2
    rw [List.drop_zero] at o2
    have o3 := U.okc_len o1
    have c1 : decide ((0 : Int) ≤ ((if r = row then col else 0 : Nat) : Int) ∧ ((if r = row then col else 0 : Nat) : Int) ≤ ((if r = row2 then col2 + 1 else U.rowLen l r : Nat) : Int) ∧ ((if r = row2 then col2 + 1 else U.rowLen l r : Nat) : Int) ≤ ((l.getD r U.dL).1.length : Int)) = true :=
      decide_eq_true ⟨Int.natCast_nonneg _, Int.ofNat_le.2 f3.1, Int.ofNat_le.2 f3.2⟩
    have c2 : decide ((((l.getD r U.dL).1.take (if r = row2 then col2 + 1 else U.rowLen l r)).drop (if r = row then col else 0)).length ≤ 1048576 ∧ (U.sayL (((l.getD r U.dL).1.take (if r = row2 then col2 + 1 else U.rowLen l r)).drop (if r = row then col else 0))).length ≤ 140737488355328) = true := decide_eq_true ⟨o3, o2⟩
    have c3 : decide (now.size + (U.partT l row col row2 col2 r).size ≤ 9223372036854775807) = true := decide_eq_true (by omega)
    have c4 : decide ((now ++ U.partT l row col row2 col2 r).size ≤ 140737488355328) = true := decide_eq_true (by omega)
    have c5 : decide ((out.length + 1) * 16 ≤ 140737488355328) = true := decide_eq_true (by omega)
    have f6 : (bif decide ((r : Int) = (row2 : Int)) then true else !(l.getD r U.dL).2.1) = (decide (r = row2) || !(l.getD r U.dL).2.1) := by
      by_cases q : r = row2
      · rw [decide_eq_true (by omega), decide_eq_true q]; rfl
      · rw [decide_eq_false (by omega), decide_eq_false q]; rfl
    have hv : (b74_0 ((l, (row : Int), (col : Int), (row2 : Int), (col2 : Int), now, (r : Int), ()), out, ())).val =
        bif decide (r = row2) || !(l.getD r U.dL).2.1 then some (.inl ((l, (row : Int), (col : Int), (row2 : Int), (col2 : Int), ByteArray.empty, ((r + 1 : Nat) : Int), ()), out ++ [U.bareS (now ++ U.partT l row col row2 col2 r)], ()))
        else some (.inl ((l, (row : Int), (col : Int), (row2 : Int), (col2 : Int), now ++ U.partT l row col row2 col2 r, ((r + 1 : Nat) : Int), ()), out, ())) := by
      simp only [b74_0, B74_0, Tr.val, c0, er, w, w2, f1, f2, f4, f5, f6, Int.toNat_natCast, inB_nat hlt, c1, c2, c3, c4, c5, eqb_self, Bool.and_self, Bool.cond_self, cond_true]
      rfl
    unfold U.takeF
    cases hq : (decide (r = row2) || !(l.getD r U.dL).2.1) with
    | true =>
      rw [hq] at hv
      exact .step hv (R74 l row col row2 col2 gk h1 h2 h3 h4 h5 k (r + 1) _ _ (by omega) (by omega) (by show 0 + _ ≤ _; omega) (by rw [List.length_append, List.length_singleton]; omega))
    | false =>
      rw [hq] at hv
      exact .step hv (R74 l row col row2 col2 gk h1 h2 h3 h4 h5 k (r + 1) _ _ (by omega) (by omega) (by omega) (by omega))
theorem L74 : LoopOK (evI 2) (E74.lend 0) (lc Tryd.f74 0) := by
  refine l74_0 (T := T74) (fun x => rfl) ?_
  rintro ⟨⟨l, row, col, row2, col2, now, r, z⟩, out, z1⟩ q hh
  obtain ⟨g1, g2⟩ := pre_val hh
  rw [Bool.and_eq_true] at g1
  obtain ⟨g1, gk⟩ := g1
  have g1 : 0 ≤ (row : Int) ∧ (row : Int) ≤ (row2 : Int) ∧ (row2 : Int) < (l.length : Int) ∧ 0 ≤ (col : Int) ∧ (col : Int) < (U.rowLen l row.toNat : Int) ∧ 0 ≤ (col2 : Int) ∧ (col2 : Int) < (U.rowLen l row2.toNat : Int) ∧ ((row : Int) < (row2 : Int) ∨ (col : Int) ≤ (col2 : Int)) ∧
        (r : Int) = (row : Int) ∧ now.size = 0 ∧ U.cells l ≤ 1048576 ∧ out.length + l.length ≤ 2097152 := of_decide_eq_true g1
  obtain ⟨h1, h2, h3, h4, h5, h6, h7, h8, rfl, h9, h10, h11⟩ := g1
  obtain ⟨a, rfl⟩ := Int.eq_ofNat_of_zero_le h1
  obtain ⟨b, rfl⟩ := Int.eq_ofNat_of_zero_le (Int.le_trans h1 h2)
  obtain ⟨c, rfl⟩ := Int.eq_ofNat_of_zero_le h4
  obtain ⟨d, rfl⟩ := Int.eq_ofNat_of_zero_le h6
  have h2 : (a : Int) ≤ (b : Int) := h2
  have h3 : (b : Int) < (l.length : Int) := h3
  have h5 : (c : Int) < (U.rowLen l a : Int) := h5
  have h7 : (d : Int) < (U.rowLen l b : Int) := h7
  have h8 : (a : Int) < (b : Int) ∨ (c : Int) ≤ (d : Int) := h8
  have h12 := U.cells_part l a l.length
  rw [List.take_length] at h12
  have h13 := Nat.mul_le_mul_right 1048577 (Nat.le_trans h12 h10)
  cases g2
  exact R74 l a c b d gk (by omega) (by omega) (by omega) (by omega) (by omega) (b + 1 - a) a out now (by omega) (Nat.le_refl _) (by omega) (by omega)
def d74 (a : List Line) (b : Int) (c : Int) (y : Int) (f : Int) (g : Bool) : Tr (ByteArray × Int) :=
 let v1 : Int := ((↑(List.length a) : Int))
 let v2 : Int := (U.orI [U.cmpI b y, U.cmpI c f])
 let v3 : Bool := (U.okl a && decide (U.cells a ≤ (1048576 : Nat)))
 let v4 : Bool := (Kd.eqb (Kd.sl link) a a && (Kd.eqb (.int .i64) b b && (Kd.eqb (.int .i64) c c && (Kd.eqb (.int .i64) y y && (Kd.eqb (.int .i64) f f && Kd.eqb Kd.bool g g)))))
 let v5 : Bool := (decide ((0 : Int) < v2))
 let v6 : Int := ((↑(U.rowLen a (Int.toNat (bif v5 then b else y))) : Int))
 let v7 : Int := ((↑(U.rowLen a (Int.toNat (bif v5 then y else b))) : Int))
 let v8 : List ByteArray := (U.takeF a (Int.toNat (bif v5 then y else b)) (Int.toNat (bif v5 then f else c)) (Int.toNat (bif v5 then b else y)) (Int.toNat (bif v5 then c else f)) (Int.toNat (bif v5 then b else y) + (1 : Nat) - Int.toNat (bif v5 then y else b)) (Int.toNat (bif v5 then y else b)) [] { data := #[] })
 Tr.ite v3 (Tr.ite ((bif !U.may a then true else v4) && v4) (Tr.ite (bif !U.may a then true else bif !U.there a b c then true else !U.there a y f) (Tr.ret ({ data := #[] }, (1 : Int))) (Tr.ite g (Tr.ite (v3 && decide ((0 : Int) ≤ minI b y ∧ minI b y ≤ maxI b y ∧ maxI b y < v1 ∧ (0 : Int) ≤ minI c f ∧ minI c f ≤ maxI c f ∧ maxI c f ≤ (1048576 : Int))) (Tr.ret (U.blockS a (Int.toNat (minI b y)) (Int.toNat (minI c f)) (Int.toNat (maxI b y)) (Int.toNat (maxI c f)), (0 : Int))) Tr.fail) (Tr.ite true (Tr.ite (Kd.eqb (Kd.sl link) a a) (Tr.ite (decide (((0 : Int) ≤ bif v5 then y else b) ∧ ((bif v5 then y else b) ≤ bif v5 then b else y) ∧ (bif v5 then b else y) < v1 ∧ ((0 : Int) ≤ bif v5 then f else c) ∧ (bif v5 then f else c) < v7 ∧ ((0 : Int) ≤ bif v5 then c else f) ∧ (bif v5 then c else f) < v6 ∧ (((bif v5 then y else b) < bif v5 then b else y) ∨ (bif v5 then f else c) ≤ bif v5 then c else f) ∧ ((bif v5 then y else b) = bif v5 then y else b) ∧ (0 : Nat) = (0 : Nat) ∧ U.cells a ≤ (1048576 : Nat) ∧ (0 : Nat) + List.length a ≤ (2097152 : Nat)) && U.okl a) (Tr.ite (decide ((1 : Nat) ≤ (1 : Nat) ∧ (1 : Nat) ≤ (1048576 : Nat) ∧ List.length v8 ≤ (1048576 : Nat) ∧ U.sumS v8 + List.length v8 * (1 : Nat) ≤ (140737488355328 : Nat))) (Tr.ret (strOf (U.joinI { data := #[OfNat.ofNat (10 : Nat)] } v8), (0 : Int))) Tr.fail) Tr.fail) Tr.fail) Tr.fail))) Tr.fail) Tr.fail
def e74 (r : ByteArray × Int) : FRes := { rs := Slot.tup [AV.one (Leaf.dat Kd.str r.fst), AV.one (Leaf.dat (.int .i64) r.snd)], upd := [], new := [] }
@[reducible] def a74 : List AK := [AK.d (Kd.sl link), AK.d (.int .i64), AK.d (.int .i64), AK.d (.int .i64), AK.d (.int .i64), AK.d Kd.bool]
@[reducible] def b74 : List BK := []
theorem t74 (a : List Line) (b : Int) (c : Int) (y : Int) (f : Int) (g : Bool) : evFn (E74) Tryd.f74 [PM.data Kd.str, PM.data (.int .i64)] (akAV a74 (a, b, c, y, f, g, ())) (bkBs b74 ()) = (d74 a b c y f g).map e74 := by kernel_rfl
def s74 (C : akT a74 → Bool) (G : akT a74 → ByteArray × Int) : FSpec := aspec a74 b74 e74 (fun x _ => C x) (fun x _ => G x)
theorem k74 {C : akT a74 → Bool} {G : akT a74 → ByteArray × Int} (hd : ∀ (a : List Line) (b : Int) (c : Int) (y : Int) (f : Int) (g : Bool), C (a, b, c, y, f, g, ()) = true → (d74 a b c y f g).val = some (G (a, b, c, y, f, g, ()))) (IO : ItOK Tryd.prog (E74) := by exact itOK_none rfl) (L : ∀ c, Tryd.f74.body = some c → LsOK (evI 2) ((E74).lend 0) c := by exact fun c _ => LsOK_none rfl c) : SpecOK Tryd.prog E0 74 (s74 C G) :=
  aspec_ok (ak := a74) (bl := b74) (e := e74) (c := fun x _ => C x) (g := fun x _ => G x) (E0 := E0) (E := E74) tab AG74 rfl rfl hm Tryd.func74 (by kernel_rfl) [PM.data Kd.str, PM.data (.int .i64)] (fun X Y H => by obtain ⟨a, ⟨b, ⟨c, ⟨y, ⟨f, ⟨g, _⟩⟩⟩⟩⟩⟩ := X; exact val_of (t74 a b c y f g) (hd a b c y f g H)) IO L
end Go.Proofs.YtmnbcnhpklejcaaDoor
namespace U
open Go.Proofs.YtmnbcnhpklejcaaDoor
def takeL (l : List Ln) (a c b d : Nat) : ByteArray := strOf (joinI nlS (takeF l a c b d (b + 1 - a) a [] ByteArray.empty))
def takeR (l : List Ln) (row col row2 col2 : Int) (bk : Bool) : ByteArray × Int :=
  bif !U.may l || (!there l row col || !there l row2 col2) then (ByteArray.empty, 1) else
  bif bk then (blockS l (minI row row2).toNat (minI col col2).toNat (maxI row row2).toNat (maxI col col2).toNat, 0) else
  bif behind row col row2 col2 then (takeL l row2.toNat col2.toNat row.toNat col.toNat, 0) else (takeL l row.toNat col.toNat row2.toNat col2.toNat, 0)
theorem or_pos (a b c d : Int) : decide (0 < orI [cmpI a c, cmpI b d]) = behind a b c d := by
  unfold behind
  simp only [orI, cmpI]
  by_cases h1 : a < c <;> by_cases h2 : c < a <;> by_cases h3 : b < d <;> by_cases h4 : d < b <;> simp [h1, h2, h3, h4] <;> omega
theorem maxI_nat (a b : Nat) : maxI (a : Int) (b : Int) = ((max a b : Nat) : Int) := by unfold maxI; split <;> omega
end U
namespace Go.Proofs.YtmnbcnhpklejcaaDoor
abbrev w74 : FSpec := s74 (fun x => U.okl x.1 && decide (U.cells x.1 ≤ 1048576)) fun x => U.takeR x.1 x.2.1 x.2.2.1 x.2.2.2.1 x.2.2.2.2.1 x.2.2.2.2.2.1
theorem wk74 : SpecOK Tryd.prog E0 74 w74 := by
  refine k74 (fun l row col row2 col2 bk H => ?_) (L := ls_ok (lcs := [lc Tryd.f74 0]) (rgs := []) (by kernel_rfl) (by kernel_rfl) L74 trivial)
  have H : (U.okl l && decide (U.cells l ≤ 1048576)) = true := H
  have H' := H
  rw [Bool.and_eq_true] at H'
  have gk := H'.1
  have g2 : U.cells l ≤ 1048576 := of_decide_eq_true H'.2
  have hl := U.okl_len gk
  show _ = some (U.takeR l row col row2 col2 bk)
  simp only [d74, Tr.val, H'.2, gk, eqb_self, U.or_pos, Bool.and_self, Bool.cond_self, Bool.true_and, cond_true]
  unfold U.takeR
  cases hm : U.may l with
  | false => rfl
  | true =>
    cases ht : U.there l row col with
    | false => rfl
    | true =>
      cases ht2 : U.there l row2 col2 with
      | false => rfl
      | true =>
        obtain ⟨a, c, rfl, rfl, h1, h2⟩ := U.there_nat ht
        obtain ⟨b, d, rfl, rfl, h3, h4⟩ := U.there_nat ht2
        have h2 : c < U.rowLen l a := h2
        have h4 : d < U.rowLen l b := h4
        have m1 : U.rowLen l a ≤ 1048576 := U.okc_len (U.okl_at gk h1)
        have m2 : U.rowLen l b ≤ 1048576 := U.okc_len (U.okl_at gk h3)
        have rng : ∀ p q r s : Nat, p ≤ r → r < l.length → q < U.rowLen l p → s < U.rowLen l r → (p < r ∨ q ≤ s) →
            (bif decide ((0 : Int) ≤ (p : Int) ∧ (p : Int) ≤ (r : Int) ∧ (r : Int) < (l.length : Int) ∧ (0 : Int) ≤ (q : Int) ∧ (q : Int) < (U.rowLen l p : Int) ∧ (0 : Int) ≤ (s : Int) ∧ (s : Int) < (U.rowLen l r : Int) ∧ ((p : Int) < (r : Int) ∨ (q : Int) ≤ (s : Int)) ∧ True ∧ True ∧ U.cells l ≤ 1048576 ∧ 0 + l.length ≤ 2097152) && true then
              bif decide ((1 : Nat) ≤ 1 ∧ (1 : Nat) ≤ 1048576 ∧ (U.takeF l p q r s (r + 1 - p) p [] ByteArray.empty).length ≤ 1048576 ∧ U.sumS (U.takeF l p q r s (r + 1 - p) p [] ByteArray.empty) + (U.takeF l p q r s (r + 1 - p) p [] ByteArray.empty).length * 1 ≤ 140737488355328) then some (strOf (U.joinI U.nlS (U.takeF l p q r s (r + 1 - p) p [] ByteArray.empty)), (0 : Int)) else none
            else none) = some (U.takeL l p q r s, 0) := by
          intro p q r s i1 i2 i3 i4 i5
          have k1 := U.takeF_sum gk p q r s (r + 1 - p) p [] ByteArray.empty (by omega)
          have k2 := U.cells_part l p l.length
          rw [List.take_length] at k2
          have k3 := Nat.mul_le_mul_right 1048577 (Nat.le_trans k2 g2)
          have k4 : U.sumS [] = 0 := rfl
          have k5 : ByteArray.empty.size = 0 := rfl
          have k6 : ([] : List ByteArray).length = 0 := rfl
          have x1 : decide ((0 : Int) ≤ (p : Int) ∧ (p : Int) ≤ (r : Int) ∧ (r : Int) < (l.length : Int) ∧ (0 : Int) ≤ (q : Int) ∧ (q : Int) < (U.rowLen l p : Int) ∧ (0 : Int) ≤ (s : Int) ∧ (s : Int) < (U.rowLen l r : Int) ∧ ((p : Int) < (r : Int) ∨ (q : Int) ≤ (s : Int)) ∧ True ∧ True ∧ U.cells l ≤ 1048576 ∧ 0 + l.length ≤ 2097152) = true :=
            decide_eq_true (by refine ⟨?_, ?_, ?_, ?_, ?_, ?_, ?_, ?_, trivial, trivial, ?_, ?_⟩ <;> omega)
          have x2 : decide ((1 : Nat) ≤ 1 ∧ (1 : Nat) ≤ 1048576 ∧ (U.takeF l p q r s (r + 1 - p) p [] ByteArray.empty).length ≤ 1048576 ∧ U.sumS (U.takeF l p q r s (r + 1 - p) p [] ByteArray.empty) + (U.takeF l p q r s (r + 1 - p) p [] ByteArray.empty).length * 1 ≤ 140737488355328) = true :=
            decide_eq_true (by refine ⟨?_, ?_, ?_, ?_⟩ <;> omega)
          rw [x1, x2]
          rfl
        cases bk with
        | true =>
          simp only [minI_nat, U.maxI_nat, Int.toNat_natCast]
          have x1 : decide ((0 : Int) ≤ ((min a b : Nat) : Int) ∧ ((min a b : Nat) : Int) ≤ ((max a b : Nat) : Int) ∧ ((max a b : Nat) : Int) < (l.length : Int) ∧ (0 : Int) ≤ ((min c d : Nat) : Int) ∧ ((min c d : Nat) : Int) ≤ ((max c d : Nat) : Int) ∧ ((max c d : Nat) : Int) ≤ 1048576) = true := decide_eq_true (by omega)
          rw [x1]
          rfl
        | false =>
          have hb := U.behind_lt a c b d
          cases hq : U.behind (a : Int) (c : Int) (b : Int) (d : Int) with
          | true =>
            have := hb.1 hq
            unfold U.lt2 at this
            simp only at this
            exact rng b d a c (by omega) h1 h4 h2 (by omega)
          | false =>
            have : ¬ U.lt2 (b, d) (a, c) := fun h => by rw [hb.2 h] at hq; cases hq
            unfold U.lt2 at this
            simp only at this
            exact rng a c b d (by omega) h3 h2 h4 (by omega)
end Go.Proofs.YtmnbcnhpklejcaaDoor
end
section
set_option linter.unusedVariables false
set_option linter.unusedSimpArgs false
set_option maxRecDepth 20000
set_option maxHeartbeats 4000000
open Go Go.Ev
namespace Go.Ev
def filtI {α : Type} (q : Nat → Bool) : List α → Nat → List α
  | [], _ => []
  | x :: l, i => bif q i then x :: filtI q l (i + 1) else filtI q l (i + 1)
theorem filtI_part {α : Type} (a b : Nat) : ∀ (l : List α) (i : Nat), filtI (fun j => decide (a ≤ j ∧ j < b)) l i = (l.take (b - i)).drop (a - i)
  | [], i => by simp [filtI]
  | x :: l, i => by
    unfold filtI
    rw [filtI_part a b l (i + 1)]
    by_cases h1 : a ≤ i
    · by_cases h2 : i < b
      · rw [decide_eq_true ⟨h1, h2⟩, cond_true, show b - i = (b - (i + 1)) + 1 by omega, List.take_succ_cons, show a - i = 0 by omega, show a - (i + 1) = 0 by omega]
        rfl
      · rw [decide_eq_false (by omega), cond_false, show b - i = 0 by omega, show b - (i + 1) = 0 by omega]
        simp
    · rw [decide_eq_false (by omega), cond_false]
      by_cases h2 : i < b
      · rw [show b - i = (b - (i + 1)) + 1 by omega, List.take_succ_cons, show a - i = (a - (i + 1)) + 1 by omega, List.drop_succ_cons]
      · rw [show b - i = 0 by omega, show b - (i + 1) = 0 by omega]
        simp
theorem filtI_congr {α : Type} {q p : Nat → Bool} : ∀ {l : List α} {i : Nat}, (∀ j, i ≤ j → j < i + l.length → q j = p j) → filtI q l i = filtI p l i
  | [], _, _ => rfl
  | x :: l, i, h => by
    unfold filtI
    rw [h i (Nat.le_refl _) (by simp), filtI_congr (l := l) (i := i + 1) fun j h1 h2 => h j (by omega) (by simp only [List.length_cons]; omega)]
theorem Rounds.filtA {α ρ τ : Type} {B : τ → Tr (τ ⊕ ρ)} (xs : List α) (st : Nat → List α → τ) (q : Nat → Bool) (fin : List α → ρ) (N : Nat)
    (hs : ∀ i s (h : i < xs.length), s.length + (xs.length - i) ≤ N → (B (st i s)).val = some (.inl (st (i + 1) (bif q i then s ++ [xs[i]] else s)))) (he : ∀ s, (B (st xs.length s)).val = some (.inr (fin s))) :
    ∀ (k i : Nat) (s : List α), i + k = xs.length → s.length + k ≤ N → Rounds B (st i s) (fin (s ++ filtI q (xs.drop i) i))
  | 0, i, s, e, h => by
    have : i = xs.length := by omega
    subst this
    rw [List.drop_length]
    show Rounds B (st xs.length s) (fin (s ++ []))
    rw [List.append_nil]
    exact .exit (he s)
  | k + 1, i, s, e, h => by
    have hi : i < xs.length := by omega
    have h1 := hs i s hi (by omega)
    rw [List.drop_eq_getElem_cons hi]
    unfold filtI
    cases hq : q i with
    | true =>
      rw [hq] at h1
      have ih := Rounds.filtA xs st q fin N hs he k (i + 1) (s ++ [xs[i]]) (by omega) (by rw [List.length_append, List.length_singleton]; omega)
      rw [List.append_assoc, List.singleton_append] at ih
      exact .step h1 ih
    | false =>
      rw [hq] at h1
      exact .step h1 (Rounds.filtA xs st q fin N hs he k (i + 1) s (by omega) (by omega))
end Go.Ev
namespace Go.Proofs.YtmnbcnhpklejcaaDoor
open Go.RowKit
def live78 (key : Nat) : Lv :=
  bif Nat.beq key 11 then { ls := [0, 11, 12, 13, 14, 15, 16, 17, 47, 48, 49] } else bif Nat.beq key 1011 then { ls := [0, 11, 12, 13, 14, 15, 16, 17] } else
  bif Nat.beq key 7 then { ls := [0, 11, 12, 13, 14, 15, 16] } else bif Nat.beq key 1007 then { ls := [15] } else
  { ls := [] }
abbrev G78 : List (Nat × FSpec) := [(129, w129), (130, w130), (57, w57)]
theorem AG78 : AllFn Tryd.prog E0 G78 := .cons wk129 (.cons wk130 (.cons wk57 .nil))
abbrev M78 (ls : Nat → VS → Option (Tr (Ex × VS))) : Env := (E0.withFns G78).loops live78 ls
@[reducible] def p78_0 : LP := { n := 78, sl := [.d (Kd.sl link), .d (.int .i64), .d (.int .i64), .d (.int .i64), .d (.int .i64), .d (Kd.str), .d (.int .i64)], bl := [] }
@[reducible] def p78_1 : LP := { n := 78, sl := [.d (Kd.sl link), .d (.int .i64), .d (.int .i64), .d (.int .i64), .d (.int .i64), .d (Kd.str), .d (.int .i64), .c (Leaf.row ( 0)), .d (Kd.sl celk), .d (.int .i64), .d (.int .i64)], bl := [(0, .row 48 (celk))] }
def B78_1 (x0 : List Line) (x1 : Int) (x2 : Int) (x3 : Int) (x4 : Int) (x5 : ByteArray) (x6 : Int) (x8 : List Cell) (x9 : Int) (x10 : Int) (h0 : List Cell) : Tr (p78_1.T ⊕ (List Line × Int × Int × Int × Int × ByteArray × Int × List Cell)) :=
 Tr.ite (decide (x10 < x9)) (Tr.ite (inB x10 (List.length x8)) (Tr.ite (decide (x2 ≤ x10)) (Tr.ite (decide (x10 ≤ x4)) (Tr.ite (decide ((List.length h0 + (1 : Nat)) * (48 : Nat) ≤ (140737488355328 : Nat))) (Tr.ret (Sum.inl ((x0, x1, x2, x3, x4, x5, x6, x8, x9, IntKind.wrap IntKind.i64 (x10 + (1 : Int)), ()), h0 ++ [rget celk x8 x10], ()))) Tr.fail) (Tr.ret (Sum.inl ((x0, x1, x2, x3, x4, x5, x6, x8, x9, IntKind.wrap IntKind.i64 (x10 + (1 : Int)), ()), h0, ())))) (Tr.ret (Sum.inl ((x0, x1, x2, x3, x4, x5, x6, x8, x9, IntKind.wrap IntKind.i64 (x10 + (1 : Int)), ()), h0, ())))) Tr.fail) (Tr.ret (Sum.inr (x0, x1, x2, x3, x4, x5, x6, h0)))
def X78_1 (r : (List Line × Int × Int × Int × Int × ByteArray × Int × List Cell)) : Ex × VS := Prod.mk (Ex.exit ( 2)) { n := 78, v := [Slot.av (AV.one (Leaf.dat (Kd.sl link) r.fst)), Slot.av (AV.one (Leaf.dat (.int .i64) r.snd.fst)), Slot.av (AV.one (Leaf.dat (.int .i64) r.snd.snd.fst)), Slot.av (AV.one (Leaf.dat (.int .i64) r.snd.snd.snd.fst)), Slot.av (AV.one (Leaf.dat (.int .i64) r.snd.snd.snd.snd.fst)), Slot.av (AV.one (Leaf.dat Kd.str r.snd.snd.snd.snd.snd.fst)), Slot.av (AV.one (Leaf.dat (.int .i64) r.snd.snd.snd.snd.snd.snd.fst)), Slot.av (AV.one (Leaf.row ( 0)))], h := [( 0, Blk.row ( 48) celk r.snd.snd.snd.snd.snd.snd.snd)] }
def b78_1 : p78_1.T → Tr (p78_1.T ⊕ (List Line × Int × Int × Int × Int × ByteArray × Int × List Cell)) := fun ⟨⟨x0, ⟨x1, ⟨x2, ⟨x3, ⟨x4, ⟨x5, ⟨x6, ⟨x8, ⟨x9, ⟨x10, _⟩⟩⟩⟩⟩⟩⟩⟩⟩⟩, ⟨h0, _⟩⟩ => B78_1 x0 x1 x2 x3 x4 x5 x6 x8 x9 x10 h0
theorem h78_1 (ls : Nat → VS → Option (Tr (Ex × VS))) (x : p78_1.T) : (evC (evI 2) (lc Tryd.f78 1) (Env.lend (M78 ls) 0) (unV (live78 11) (p78_1.V x))).map (decL 0 (live78 11) (live78 1011)) = (b78_1 x).map (encR p78_1.V X78_1) := by
  obtain ⟨⟨x0, ⟨x1, ⟨x2, ⟨x3, ⟨x4, ⟨x5, ⟨x6, ⟨x8, ⟨x9, ⟨x10, _⟩⟩⟩⟩⟩⟩⟩⟩⟩⟩, ⟨h0, _⟩⟩ := x; kernel_rfl
theorem c78_1 (x : p78_1.T) : canV 0 (live78 11) (unV (live78 11) (p78_1.V x)) = p78_1.V x := by
  obtain ⟨⟨x0, ⟨x1, ⟨x2, ⟨x3, ⟨x4, ⟨x5, ⟨x6, ⟨x8, ⟨x9, ⟨x10, _⟩⟩⟩⟩⟩⟩⟩⟩⟩⟩, ⟨h0, _⟩⟩ := x; kernel_rfl
theorem l78_1 {T : p78_1.T → Tr (List Line × Int × Int × Int × Int × ByteArray × Int × List Cell)} {ls : Nat → VS → Option (Tr (Ex × VS))} (hls : ∀ x, (Env.lend (M78 ls) 0).ls 11 x = p78_1.ls (fun a => (T a).map X78_1) x) (hS : ∀ x r, (T x).val = some r → Rounds b78_1 x r) : LoopOK (evI 2) (Env.lend (M78 ls) 0) (lc Tryd.f78 1) :=
  loopA 11 (live78 11) (live78 1011) p78_1 b78_1 X78_1 T (by kernel_rfl) rfl rfl hls (h78_1 ls) c78_1 hS
def live77 (key : Nat) : Lv :=
  bif Nat.beq key 20085 then { ls := [9999, 0, 1, 2, 3, 4, 11, 12, 13] } else bif Nat.beq key 40085 then { ls := [11, 86, 87] } else
  bif Nat.beq key 25016 then { ls := [9999, 0, 1, 2, 3, 4, 11, 12, 13, 78] } else bif Nat.beq key 45016 then { ls := [69, 70, 71, 72, 73, 74, 75, 76, 77, 78] } else
  bif Nat.beq key 25012 then { ls := [9999, 0, 1, 2, 3, 4, 11, 12, 13, 14, 16, 39, 40, 41, 59] } else bif Nat.beq key 45012 then { ls := [46, 47, 48, 49, 50, 51, 52, 53, 54, 55, 56, 57, 58, 59] } else
  bif Nat.beq key 10 then { ls := [0, 1, 2, 3, 4, 11, 12, 13, 14, 39, 40, 41] } else bif Nat.beq key 1010 then { ls := [0, 1, 2, 3, 4, 11, 12, 13, 14] } else
  bif Nat.beq key 6 then { ls := [0, 1, 2, 3, 4, 11, 12, 13] } else bif Nat.beq key 1006 then { ls := [11] } else
  { ls := [] }
abbrev G77 : List (Nat × FSpec) := [(129, w129), (50, w50), (57, w57)]
theorem AG77 : AllFn Tryd.prog E0 G77 := .cons wk129 (.cons wk50 (.cons wk57 .nil))
abbrev M77 (ls : Nat → VS → Option (Tr (Ex × VS))) : Env := (E0.withFns G77).loops live77 ls
@[reducible] def p77_0 : LP := { n := 89, sl := [.d (Kd.sl link), .d (.int .i64), .d (.int .i64), .d (.int .i64), .d (.int .i64), .d (Kd.str), .d (Kd.str), .d (.int .i64)], bl := [] }
@[reducible] def p77_1 : LP := { n := 89, sl := [.d (Kd.sl link), .d (.int .i64), .d (.int .i64), .d (.int .i64), .d (.int .i64), .d (Kd.str), .d (Kd.str), .d (.int .i64), .c (Leaf.row ( 0)), .d (Kd.sl celk), .d (.int .i64), .d (.int .i64)], bl := [(0, .row 48 (celk))] }
def B77_1 (x0 : List Line) (x1 : Int) (x2 : Int) (x3 : Int) (x4 : Int) (x5 : ByteArray) (x6 : ByteArray) (x7 : Int) (x9 : List Cell) (x10 : Int) (x11 : Int) (h0 : List Cell) : Tr (p77_1.T ⊕ (List Line × Int × Int × Int × Int × ByteArray × ByteArray × Int × List Cell)) :=
 Tr.ite (decide (x11 < x10)) (Tr.ite (inB x11 (List.length x9)) (Tr.ite (Kd.eqb (Kd.sl link) x0 x0 && (Kd.eqb (.int .i64) x1 x1 && (Kd.eqb (.int .i64) x2 x2 && (Kd.eqb (.int .i64) x3 x3 && (Kd.eqb (.int .i64) x4 x4 && (Kd.eqb Kd.str x5 x5 && (Kd.eqb Kd.str x6 x6 && (Kd.eqb (.int .i64) x7 x7 && (Kd.eqb (Kd.sl celk) x9 x9 && (Kd.eqb (.int .i64) x10 x10 && Kd.eqb (.int .i64) x11 x11))))))))) && (Kd.eqb (Kd.sl celk) h0 h0 && (Kd.eqb Kd.str (rget celk x9 x11).fst (rget celk x9 x11).fst && (Kd.eqb (.int .i64) (rget celk x9 x11).snd.fst (rget celk x9 x11).snd.fst && (Kd.eqb (.int .i64) (rget celk x9 x11).snd.snd.fst.fst (rget celk x9 x11).snd.snd.fst.fst && (Kd.eqb (.int .i64) (rget celk x9 x11).snd.snd.fst.snd.fst (rget celk x9 x11).snd.snd.fst.snd.fst && Kd.eqb (.int .i64) (rget celk x9 x11).snd.snd.fst.snd.snd.fst (rget celk x9 x11).snd.snd.fst.snd.snd.fst)))))) (Tr.ite (bif !U.behind x1 x2 x7 x11 then !U.behind x7 x11 x3 x4 else false) (Tr.ite (decide ((List.length h0 + (1 : Nat)) * (48 : Nat) ≤ (140737488355328 : Nat))) (Tr.ret (Sum.inl ((x0, x1, x2, x3, x4, x5, x6, x7, x9, x10, IntKind.wrap IntKind.i64 (x11 + (1 : Int)), ()), h0 ++ [rget celk x9 x11], ()))) Tr.fail) (Tr.ret (Sum.inl ((x0, x1, x2, x3, x4, x5, x6, x7, x9, x10, IntKind.wrap IntKind.i64 (x11 + (1 : Int)), ()), h0, ())))) Tr.fail) Tr.fail) (Tr.ret (Sum.inr (x0, x1, x2, x3, x4, x5, x6, x7, h0)))
def X77_1 (r : (List Line × Int × Int × Int × Int × ByteArray × ByteArray × Int × List Cell)) : Ex × VS := Prod.mk (Ex.exit ( 2)) { n := 89, v := [Slot.av (AV.one (Leaf.dat (Kd.sl link) r.fst)), Slot.av (AV.one (Leaf.dat (.int .i64) r.snd.fst)), Slot.av (AV.one (Leaf.dat (.int .i64) r.snd.snd.fst)), Slot.av (AV.one (Leaf.dat (.int .i64) r.snd.snd.snd.fst)), Slot.av (AV.one (Leaf.dat (.int .i64) r.snd.snd.snd.snd.fst)), Slot.av (AV.one (Leaf.dat Kd.str r.snd.snd.snd.snd.snd.fst)), Slot.av (AV.one (Leaf.dat Kd.str r.snd.snd.snd.snd.snd.snd.fst)), Slot.av (AV.one (Leaf.dat (.int .i64) r.snd.snd.snd.snd.snd.snd.snd.fst)), Slot.av (AV.one (Leaf.row ( 0)))], h := [( 0, Blk.row ( 48) celk r.snd.snd.snd.snd.snd.snd.snd.snd)] }
def b77_1 : p77_1.T → Tr (p77_1.T ⊕ (List Line × Int × Int × Int × Int × ByteArray × ByteArray × Int × List Cell)) := fun ⟨⟨x0, ⟨x1, ⟨x2, ⟨x3, ⟨x4, ⟨x5, ⟨x6, ⟨x7, ⟨x9, ⟨x10, ⟨x11, _⟩⟩⟩⟩⟩⟩⟩⟩⟩⟩⟩, ⟨h0, _⟩⟩ => B77_1 x0 x1 x2 x3 x4 x5 x6 x7 x9 x10 x11 h0
theorem h77_1 (ls : Nat → VS → Option (Tr (Ex × VS))) (x : p77_1.T) : (evC (evI 2) (lc Tryd.f77 1) (Env.lend (M77 ls) 0) (unV (live77 10) (p77_1.V x))).map (decL 0 (live77 10) (live77 1010)) = (b77_1 x).map (encR p77_1.V X77_1) := by
  obtain ⟨⟨x0, ⟨x1, ⟨x2, ⟨x3, ⟨x4, ⟨x5, ⟨x6, ⟨x7, ⟨x9, ⟨x10, ⟨x11, _⟩⟩⟩⟩⟩⟩⟩⟩⟩⟩⟩, ⟨h0, _⟩⟩ := x; kernel_rfl
theorem c77_1 (x : p77_1.T) : canV 0 (live77 10) (unV (live77 10) (p77_1.V x)) = p77_1.V x := by
  obtain ⟨⟨x0, ⟨x1, ⟨x2, ⟨x3, ⟨x4, ⟨x5, ⟨x6, ⟨x7, ⟨x9, ⟨x10, ⟨x11, _⟩⟩⟩⟩⟩⟩⟩⟩⟩⟩⟩, ⟨h0, _⟩⟩ := x; kernel_rfl
theorem l77_1 {T : p77_1.T → Tr (List Line × Int × Int × Int × Int × ByteArray × ByteArray × Int × List Cell)} {ls : Nat → VS → Option (Tr (Ex × VS))} (hls : ∀ x, (Env.lend (M77 ls) 0).ls 10 x = p77_1.ls (fun a => (T a).map X77_1) x) (hS : ∀ x r, (T x).val = some r → Rounds b77_1 x r) : LoopOK (evI 2) (Env.lend (M77 ls) 0) (lc Tryd.f77 1) :=
  loopA 10 (live77 10) (live77 1010) p77_1 b77_1 X77_1 T (by kernel_rfl) rfl rfl hls (h77_1 ls) c77_1 hS
def T78_1 (x : p78_1.T) : Tr (List Line × Int × Int × Int × Int × ByteArray × Int × List Cell) :=
  match x with
  | ⟨⟨l, x1, a, x3, b, x5, x6, c, n, i, _⟩, h, _⟩ => .ite (decide (0 ≤ (a : Int) ∧ 0 ≤ (b : Int) ∧ (n : Int) = (List.length (α := Cell) c : Int) ∧ (i : Int) = 0 ∧ List.length (α := Cell) h + List.length (α := Cell) c ≤ 1048576))
      (.ret (l, x1, a, x3, b, x5, x6, List.append (α := Cell) h (List.drop (α := Cell) (Int.toNat a) (List.take (α := Cell) (Int.toNat b + 1) c)))) .fail
abbrev N78 (ls : Nat → VS → Option (Tr (Ex × VS))) : Env := M78 fun key x => bif Nat.beq key 11 then p78_1.ls (fun a => (T78_1 a).map X78_1) x else ls key x
theorem L78_1 {ls : Nat → VS → Option (Tr (Ex × VS))} : LoopOK (evI 2) ((N78 ls).lend 0) (lc Tryd.f78 1) := by
  refine l78_1 (T := T78_1) (fun x => rfl) ?_
  rintro ⟨⟨l, x1, a, x3, b, x5, x6, c, n, i, z⟩, h, z1⟩ r hh
  obtain ⟨g1, g2⟩ := pre_val hh
  have g1 : 0 ≤ (a : Int) ∧ 0 ≤ (b : Int) ∧ (n : Int) = (c.length : Int) ∧ (i : Int) = 0 ∧ h.length + c.length ≤ 1048576 := of_decide_eq_true g1
  obtain ⟨h1, h2, rfl, rfl, h3⟩ := g1
  obtain ⟨p, rfl⟩ := Int.eq_ofNat_of_zero_le h1
  obtain ⟨q, rfl⟩ := Int.eq_ofNat_of_zero_le h2
  cases g2
  have := Rounds.filtA (B := b78_1) c (fun i s => ((l, x1, (p : Int), x3, (q : Int), x5, x6, c, (c.length : Int), (i : Int), ()), s, ())) (fun j => decide (p ≤ j ∧ j < q + 1)) (fun s => (l, x1, (p : Int), x3, (q : Int), x5, x6, s)) 1048576 (fun i s hi hv => ?_) (fun s => ?_) c.length 0 h (by omega) h3
  · rw [List.drop_zero, filtI_part] at this
    exact this
  · have e : rget celk c (i : Int) = c[i] := by rw [rgetC]; exact getD_el hi
    have c1 : decide ((i : Int) < (c.length : Int)) = true := decide_eq_true (by omega)
    have c2 : decide ((s.length + 1) * 48 ≤ 140737488355328) = true := decide_eq_true (by omega)
    by_cases q1 : p ≤ i
    · by_cases q2 : i < q + 1
      · simp only [b78_1, B78_1, Tr.val, e, c1, c2, inB_nat hi, show ((p : Int) ≤ (i : Int)) by omega, show ((i : Int) ≤ (q : Int)) by omega, q1, q2, and_self, decide_true, cond_true, wrap64_nat (show i ≤ 1048576 by omega)]
      · simp only [b78_1, B78_1, Tr.val, e, c1, inB_nat hi, show ((p : Int) ≤ (i : Int)) by omega, show ¬ ((i : Int) ≤ (q : Int)) by omega, q1, q2, and_false, decide_true, decide_false, cond_true, cond_false, wrap64_nat (show i ≤ 1048576 by omega)]
    · simp only [b78_1, B78_1, Tr.val, e, c1, inB_nat hi, show ¬ ((p : Int) ≤ (i : Int)) by omega, q1, false_and, decide_false, cond_true, cond_false, wrap64_nat (show i ≤ 1048576 by omega)]
  · simp only [b78_1, B78_1, Tr.val, show ¬ ((c.length : Int) < (c.length : Int)) by omega, decide_false, cond_false]
def B78_0 (x0 : List Line) (x1 : Int) (x2 : Int) (x3 : Int) (x4 : Int) (x5 : ByteArray) (x6 : Int) : Tr (p78_0.T ⊕ (ByteArray)) :=
 let v1 : Int := ((↑(List.length (rget link x0 x6).fst) : Int))
 let v2 : Int := ((↑(List.length (rget link x0 x6).fst) : Int))
 let v3 : ByteArray := (x5 ++ { data := #[OfNat.ofNat (10 : Nat)] })
 let v4 : List Cell := (List.append [] (List.drop (Int.toNat x2) (List.take (Int.toNat x4 + (1 : Nat)) (rget link x0 x6).fst)))
 let v5 : List Int := (U.sayL v4)
 let v6 : ByteArray := (strOf v5)
 let v7 : ByteArray := (U.bareS v6)
 let v8 : Bool := (decide (ByteArray.size v6 ≤ (140737488355328 : Nat)))
 let v9 : Bool := (decide (List.length v4 ≤ (1048576 : Nat) ∧ List.length v5 ≤ (140737488355328 : Nat)))
 Tr.ite (decide (x6 ≤ x3)) (Tr.ite (inB x6 (List.length x0)) (Tr.ite (decide ((0 : Int) ≤ x2 ∧ (0 : Int) ≤ x4 ∧ v2 = v1 ∧ (0 : Int) = (0 : Int) ∧ (0 : Nat) + List.length (rget link x0 x6).fst ≤ (1048576 : Nat))) (Tr.ite (decide (x1 < x6)) (Tr.ite (decide (ByteArray.size x5 + (1 : Nat) ≤ (9223372036854775807 : Nat))) (Tr.ite v9 (Tr.ite v8 (Tr.ite (decide (ByteArray.size v3 + ByteArray.size v7 ≤ (9223372036854775807 : Nat))) (Tr.ret (Sum.inl ((x0, x1, x2, x3, x4, v3 ++ v7, IntKind.wrap IntKind.i64 (x6 + (1 : Int)), ()), ()))) Tr.fail) Tr.fail) Tr.fail) Tr.fail) (Tr.ite v9 (Tr.ite v8 (Tr.ite (decide (ByteArray.size x5 + ByteArray.size v7 ≤ (9223372036854775807 : Nat))) (Tr.ret (Sum.inl ((x0, x1, x2, x3, x4, x5 ++ v7, IntKind.wrap IntKind.i64 (x6 + (1 : Int)), ()), ()))) Tr.fail) Tr.fail) Tr.fail)) Tr.fail) Tr.fail) (Tr.ret (Sum.inr x5))
def X78_0 (r : (ByteArray)) : Ex × VS := Prod.mk (Ex.exit ( 0)) { n := 78, v := [Slot.av (AV.one (Leaf.dat Kd.str r))], h := [] }
def b78_0 : p78_0.T → Tr (p78_0.T ⊕ (ByteArray)) := fun ⟨⟨x0, ⟨x1, ⟨x2, ⟨x3, ⟨x4, ⟨x5, ⟨x6, _⟩⟩⟩⟩⟩⟩⟩, _⟩ => B78_0 x0 x1 x2 x3 x4 x5 x6
theorem h78_0 (ls : Nat → VS → Option (Tr (Ex × VS))) (x : p78_0.T) : (evC (evI 2) (lc Tryd.f78 0) (Env.lend (N78 ls) 0) (unV (live78 7) (p78_0.V x))).map (decL 0 (live78 7) (live78 1007)) = (b78_0 x).map (encR p78_0.V X78_0) := by
  obtain ⟨⟨x0, ⟨x1, ⟨x2, ⟨x3, ⟨x4, ⟨x5, ⟨x6, _⟩⟩⟩⟩⟩⟩⟩, _⟩ := x; kernel_rfl
theorem c78_0 (x : p78_0.T) : canV 0 (live78 7) (unV (live78 7) (p78_0.V x)) = p78_0.V x := by
  obtain ⟨⟨x0, ⟨x1, ⟨x2, ⟨x3, ⟨x4, ⟨x5, ⟨x6, _⟩⟩⟩⟩⟩⟩⟩, _⟩ := x; kernel_rfl
theorem l78_0 {T : p78_0.T → Tr (ByteArray)} {ls : Nat → VS → Option (Tr (Ex × VS))} (hls : ∀ x, (Env.lend (N78 ls) 0).ls 7 x = p78_0.ls (fun a => (T a).map X78_0) x) (hS : ∀ x r, (T x).val = some r → Rounds b78_0 x r) : LoopOK (evI 2) (Env.lend (N78 ls) 0) (lc Tryd.f78 0) :=
  loopA 7 (live78 7) (live78 1007) p78_0 b78_0 X78_0 T (by kernel_rfl) rfl rfl hls (h78_0 ls) c78_0 hS
def T77_1 (x : p77_1.T) : Tr (List Line × Int × Int × Int × Int × ByteArray × ByteArray × Int × List Cell) :=
  match x with
  | ⟨⟨l, row, col, row2, col2, x5, x6, r, c, n, i, _⟩, h, _⟩ => .ite (decide (0 ≤ (row : Int) ∧ (row : Int) ≤ (r : Int) ∧ (r : Int) ≤ (row2 : Int) ∧ 0 ≤ (col : Int) ∧ 0 ≤ (col2 : Int) ∧ (n : Int) = (List.length (α := Cell) c : Int) ∧ (i : Int) = 0 ∧ List.length (α := Cell) h + List.length (α := Cell) c ≤ 1048576))
      (.ret (l, row, col, row2, col2, x5, x6, r, List.append (α := Cell) h (List.drop (α := Cell) (if r.toNat = row.toNat then col.toNat else 0) (List.take (α := Cell) (if r.toNat = row2.toNat then Int.toNat col2 + 1 else List.length (α := Cell) c) c)))) .fail
abbrev N77 (ls : Nat → VS → Option (Tr (Ex × VS))) : Env := M77 fun key x => bif Nat.beq key 10 then p77_1.ls (fun a => (T77_1 a).map X77_1) x else ls key x
theorem L77_1 {ls : Nat → VS → Option (Tr (Ex × VS))} : LoopOK (evI 2) ((N77 ls).lend 0) (lc Tryd.f77 1) := by
  refine l77_1 (T := T77_1) (fun x => rfl) ?_
  rintro ⟨⟨l, row, col, row2, col2, x5, x6, r, c, n, i, z⟩, h, z1⟩ v hh
  obtain ⟨g1, g2⟩ := pre_val hh
  have g1 : 0 ≤ (row : Int) ∧ (row : Int) ≤ (r : Int) ∧ (r : Int) ≤ (row2 : Int) ∧ 0 ≤ (col : Int) ∧ 0 ≤ (col2 : Int) ∧ (n : Int) = (c.length : Int) ∧ (i : Int) = 0 ∧ h.length + c.length ≤ 1048576 := of_decide_eq_true g1
  obtain ⟨h1, h2, h3, h4, h5, rfl, rfl, h6⟩ := g1
  obtain ⟨a, rfl⟩ := Int.eq_ofNat_of_zero_le h1
  obtain ⟨d, rfl⟩ := Int.eq_ofNat_of_zero_le (Int.le_trans h1 h2)
  obtain ⟨b, rfl⟩ := Int.eq_ofNat_of_zero_le (Int.le_trans (Int.le_trans h1 h2) h3)
  obtain ⟨p, rfl⟩ := Int.eq_ofNat_of_zero_le h4
  obtain ⟨q, rfl⟩ := Int.eq_ofNat_of_zero_le h5
  have h2 : (a : Int) ≤ (d : Int) := h2
  have h3 : (d : Int) ≤ (b : Int) := h3
  cases g2
  have := Rounds.filtA (B := b77_1) c (fun i s => ((l, (a : Int), (p : Int), (b : Int), (q : Int), x5, x6, (d : Int), c, (c.length : Int), (i : Int), ()), s, ())) (fun j => bif !U.behind (a : Int) (p : Int) (d : Int) (j : Int) then !U.behind (d : Int) (j : Int) (b : Int) (q : Int) else false)
    (fun s => (l, (a : Int), (p : Int), (b : Int), (q : Int), x5, x6, (d : Int), s)) 1048576 (fun i s hi hv => ?_) (fun s => ?_) c.length 0 h (by omega) h6
  · rw [List.drop_zero, filtI_congr (p := fun j => decide ((if d = a then p else 0) ≤ j ∧ j < (if d = b then q + 1 else c.length))) fun j _ hj => ?_, filtI_part] at this
    · exact this
    · have hj : j < c.length := by omega
      have e1 : U.behind (a : Int) (p : Int) (d : Int) (j : Int) = decide (d = a ∧ j < p) := by
        rw [Bool.eq_iff_iff, U.behind_lt, decide_eq_true_eq]
        unfold U.lt2
        simp only
        omega
      have e2 : U.behind (d : Int) (j : Int) (b : Int) (q : Int) = decide (d = b ∧ q < j) := by
        rw [Bool.eq_iff_iff, U.behind_lt, decide_eq_true_eq]
        unfold U.lt2
        simp only
        omega
      rw [e1, e2]
      have e3 : ∀ x y : Bool, (bif !x then !y else false) = (!x && !y) := fun x y => by cases x <;> rfl
      rw [e3, ← decide_not, ← decide_not, ← Bool.decide_and]
      refine decide_eq_decide.2 ?_
      by_cases q1 : d = a
      · by_cases q2 : d = b
        · rw [if_pos q1, if_pos q2]; omega
        · rw [if_pos q1, if_neg q2]; omega
      · by_cases q2 : d = b
        · rw [if_neg q1, if_pos q2]; omega
        · rw [if_neg q1, if_neg q2]; omega
  · have e : rget celk c (i : Int) = c[i] := by rw [rgetC]; exact getD_el hi
    have c1 : decide ((i : Int) < (c.length : Int)) = true := decide_eq_true (by omega)
    have c2 : decide ((s.length + 1) * 48 ≤ 140737488355328) = true := decide_eq_true (by omega)
    simp only [b77_1, B77_1, Tr.val, e, c1, c2, eqb_self, inB_nat hi, Bool.and_self, cond_true, wrap64_nat (show i ≤ 1048576 by omega)]
    cases (bif !U.behind (a : Int) (p : Int) (d : Int) (i : Int) then !U.behind (d : Int) (i : Int) (b : Int) (q : Int) else false) <;> rfl
  · simp only [b77_1, B77_1, Tr.val, show ¬ ((c.length : Int) < (c.length : Int)) by omega, decide_false, cond_false]
def B77_0 (x0 : List Line) (x1 : Int) (x2 : Int) (x3 : Int) (x4 : Int) (x5 : ByteArray) (x6 : ByteArray) (x7 : Int) : Tr (p77_0.T ⊕ (ByteArray)) :=
 let v1 : Bool := (inB x7 (List.length x0))
 let v2 : Bool := (decide (x7 < x3))
 let v3 : Int := ((↑(List.length (rget link x0 x7).fst) : Int))
 let v4 : Int := ((↑(List.length (rget link x0 x7).fst) : Int))
 let v5 : List Cell := (List.append [] (List.drop (if Int.toNat x7 = Int.toNat x1 then Int.toNat x2 else (0 : Nat)) (List.take (if Int.toNat x7 = Int.toNat x3 then Int.toNat x4 + (1 : Nat) else List.length (rget link x0 x7).fst) (rget link x0 x7).fst)))
 let v6 : List Int := (U.sayL v5)
 let v7 : ByteArray := (strOf v6)
 let v8 : ByteArray := (x6 ++ v7)
 let v9 : ByteArray := (U.bareS v8)
 let v10 : ByteArray := (x5 ++ v9)
 Tr.ite (decide (x7 ≤ x3)) (Tr.ite v1 (Tr.ite (decide ((0 : Int) ≤ x1 ∧ x1 ≤ x7 ∧ x7 ≤ x3 ∧ (0 : Int) ≤ x2 ∧ (0 : Int) ≤ x4 ∧ v4 = v3 ∧ (0 : Int) = (0 : Int) ∧ (0 : Nat) + List.length (rget link x0 x7).fst ≤ (1048576 : Nat))) (Tr.ite (decide (List.length v5 ≤ (1048576 : Nat) ∧ List.length v6 ≤ (140737488355328 : Nat))) (Tr.ite (decide (ByteArray.size x6 + ByteArray.size v7 ≤ (9223372036854775807 : Nat))) (Tr.ite ((bif v2 then v1 else true) && (Kd.eqb (Kd.sl link) x0 x0 && (Kd.eqb (.int .i64) x1 x1 && (Kd.eqb (.int .i64) x2 x2 && (Kd.eqb (.int .i64) x3 x3 && (Kd.eqb (.int .i64) x4 x4 && (Kd.eqb Kd.str x5 x5 && (Kd.eqb Kd.str v8 v8 && Kd.eqb (.int .i64) x7 x7)))))))) (Tr.ite (bif v2 then (rget link x0 x7).snd.fst else false) (Tr.ret (Sum.inl ((x0, x1, x2, x3, x4, x5, v8, IntKind.wrap IntKind.i64 (x7 + (1 : Int)), ()), ()))) (Tr.ite (decide (ByteArray.size v8 ≤ (140737488355328 : Nat))) (Tr.ite (decide (ByteArray.size x5 + ByteArray.size v9 ≤ (9223372036854775807 : Nat))) (Tr.ite ((bif v2 then decide (ByteArray.size v10 + (1 : Nat) ≤ (9223372036854775807 : Nat)) else true) && (Kd.eqb (Kd.sl link) x0 x0 && (Kd.eqb (.int .i64) x1 x1 && (Kd.eqb (.int .i64) x2 x2 && (Kd.eqb (.int .i64) x3 x3 && (Kd.eqb (.int .i64) x4 x4 && (true && Kd.eqb (.int .i64) x7 x7))))))) (Tr.ret (Sum.inl ((x0, x1, x2, x3, x4, bif v2 then v10 ++ { data := #[OfNat.ofNat (10 : Nat)] } else v10, { data := #[] }, IntKind.wrap IntKind.i64 (x7 + (1 : Int)), ()), ()))) Tr.fail) Tr.fail) Tr.fail)) Tr.fail) Tr.fail) Tr.fail) Tr.fail) Tr.fail) (Tr.ret (Sum.inr x5))
def X77_0 (r : (ByteArray)) : Ex × VS := Prod.mk (Ex.exit ( 0)) { n := 89, v := [Slot.av (AV.one (Leaf.dat Kd.str r))], h := [] }
def b77_0 : p77_0.T → Tr (p77_0.T ⊕ (ByteArray)) := fun ⟨⟨x0, ⟨x1, ⟨x2, ⟨x3, ⟨x4, ⟨x5, ⟨x6, ⟨x7, _⟩⟩⟩⟩⟩⟩⟩⟩, _⟩ => B77_0 x0 x1 x2 x3 x4 x5 x6 x7
theorem h77_0 (ls : Nat → VS → Option (Tr (Ex × VS))) (x : p77_0.T) : (evC (evI 2) (lc Tryd.f77 0) (Env.lend (N77 ls) 0) (unV (live77 6) (p77_0.V x))).map (decL 0 (live77 6) (live77 1006)) = (b77_0 x).map (encR p77_0.V X77_0) := by
  obtain ⟨⟨x0, ⟨x1, ⟨x2, ⟨x3, ⟨x4, ⟨x5, ⟨x6, ⟨x7, _⟩⟩⟩⟩⟩⟩⟩⟩, _⟩ := x; kernel_rfl
theorem c77_0 (x : p77_0.T) : canV 0 (live77 6) (unV (live77 6) (p77_0.V x)) = p77_0.V x := by
  obtain ⟨⟨x0, ⟨x1, ⟨x2, ⟨x3, ⟨x4, ⟨x5, ⟨x6, ⟨x7, _⟩⟩⟩⟩⟩⟩⟩⟩, _⟩ := x; kernel_rfl
theorem l77_0 {T : p77_0.T → Tr (ByteArray)} {ls : Nat → VS → Option (Tr (Ex × VS))} (hls : ∀ x, (Env.lend (N77 ls) 0).ls 6 x = p77_0.ls (fun a => (T a).map X77_0) x) (hS : ∀ x r, (T x).val = some r → Rounds b77_0 x r) : LoopOK (evI 2) (Env.lend (N77 ls) 0) (lc Tryd.f77 0) :=
  loopA 6 (live77 6) (live77 1006) p77_0 b77_0 X77_0 T (by kernel_rfl) rfl rfl hls (h77_0 ls) c77_0 hS
end Go.Proofs.YtmnbcnhpklejcaaDoor
namespace U
open Go.Proofs.YtmnbcnhpklejcaaDoor
def blkF (l : List Ln) (a c d : Nat) : Nat → Nat → ByteArray → ByteArray
  | 0, _, s => s
  | k + 1, r, s => blkF l a c d k (r + 1) ((bif decide (a < r) then s ++ nlS else s) ++ bareS (partS (l.getD r dL) c (d + 1)))
theorem join_snoc (sep y : ByteArray) (x : ByteArray) (r : List ByteArray) : strOf (joinI sep ((x :: r) ++ [y])) = strOf (joinI sep (x :: r)) ++ sep ++ y := by
  show strOf (bytesL x ++ (r ++ [y]).flatMap fun y => bytesL sep ++ bytesL y) = strOf (bytesL x ++ r.flatMap fun y => bytesL sep ++ bytesL y) ++ sep ++ y
  rw [List.flatMap_append, ← List.append_assoc, strOf_app (bytesL x ++ _)]
  rw [show List.flatMap (fun y => bytesL sep ++ bytesL y) [y] = bytesL sep ++ bytesL y by simp, strOf_app (bytesL sep), strOf_bytes, strOf_bytes, ByteArray.append_assoc]
theorem join_one (sep y : ByteArray) : strOf (joinI sep [y]) = y := by
  show strOf (bytesL y ++ []) = y
  rw [List.append_nil, strOf_bytes]
theorem blkF_is (l : List Ln) (a c d : Nat) : ∀ (k r : Nat) (xs : List ByteArray), a ≤ r → xs.length = r - a →
    blkF l a c d k r (strOf (joinI nlS xs)) = strOf (joinI nlS (xs ++ (List.range' r k).map fun r => bareS (partS (l.getD r dL) c (d + 1))))
  | 0, r, xs, _, _ => by simp [blkF]
  | k + 1, r, xs, h, hx => by
    unfold blkF
    have ih := blkF_is l a c d k (r + 1) (xs ++ [bareS (partS (l.getD r dL) c (d + 1))]) (by omega) (by rw [List.length_append, List.length_singleton]; omega)
    rw [List.append_assoc] at ih
    rw [List.range'_succ, List.map_cons]
    rw [List.singleton_append] at ih
    rw [← ih]
    congr 1
    cases xs with
    | nil =>
      have e : decide (a < r) = false := decide_eq_false (by simp at hx; omega)
      rw [e, cond_false, List.nil_append, join_one]
      show strOf [] ++ _ = _
      exact ByteArray.empty_append
    | cons x q =>
      have e : decide (a < r) = true := decide_eq_true (by simp at hx; omega)
      rw [e, cond_true, join_snoc]
theorem part_range (l : List Ln) (a b : Nat) (hb : b < l.length) : (l.take (b + 1)).drop a = (List.range' a (b + 1 - a)).map fun r => l.getD r dL := by
  apply List.ext_getElem
  · rw [List.length_drop, List.length_take, List.length_map, List.length_range']; omega
  · intro i h1 h2
    rw [List.length_map, List.length_range'] at h2
    rw [List.getElem_map, List.getElem_range', List.getElem_drop, List.getElem_take, Nat.one_mul, getD_el (by omega)]
theorem blkF_block (l : List Ln) (a c b d : Nat) (hb : b < l.length) : blkF l a c d (b + 1 - a) a ByteArray.empty = blockS l a c b d := by
  have := blkF_is l a c d (b + 1 - a) a [] (Nat.le_refl _) (by simp)
  rw [List.nil_append] at this
  unfold blockS
  rw [part_range l a b hb, List.map_map]
  exact this
def tkF (l : List Ln) (row col row2 col2 : Nat) : Nat → Nat → ByteArray → ByteArray → ByteArray
  | 0, _, out, _ => out
  | k + 1, r, out, now => bif decide (r < row2) && (l.getD r dL).2.1 then tkF l row col row2 col2 k (r + 1) out (now ++ partT l row col row2 col2 r)
    else tkF l row col row2 col2 k (r + 1) (bif decide (r < row2) then out ++ bareS (now ++ partT l row col row2 col2 r) ++ nlS else out ++ bareS (now ++ partT l row col row2 col2 r)) ByteArray.empty
def catS : List ByteArray → ByteArray
  | [] => ByteArray.empty
  | x :: r => x ++ nlS ++ catS r
theorem catS_snoc (y : ByteArray) : ∀ xs, catS (xs ++ [y]) = catS xs ++ y ++ nlS
  | [] => by
    show y ++ nlS ++ ByteArray.empty = ByteArray.empty ++ y ++ nlS
    rw [ByteArray.append_empty, ByteArray.empty_append]
  | x :: r => by
    show x ++ nlS ++ catS (r ++ [y]) = x ++ nlS ++ catS r ++ y ++ nlS
    rw [catS_snoc y r]
    simp only [ByteArray.append_assoc]
theorem catS_join (y : ByteArray) : ∀ xs, catS xs ++ y = strOf (joinI nlS (xs ++ [y]))
  | [] => by
    rw [List.nil_append, join_one]
    exact ByteArray.empty_append
  | [x] => by
    rw [join_snoc, join_one]
    show x ++ nlS ++ ByteArray.empty ++ y = x ++ nlS ++ y
    rw [ByteArray.append_empty]
  | x :: z :: r => by
    have ih := catS_join y (z :: r)
    show x ++ nlS ++ catS (z :: r) ++ y = _
    rw [ByteArray.append_assoc, ih]
    show x ++ nlS ++ strOf (joinI nlS (z :: (r ++ [y]))) = strOf (joinI nlS (x :: z :: (r ++ [y])))
    show x ++ nlS ++ strOf (bytesL z ++ (r ++ [y]).flatMap fun y => bytesL nlS ++ bytesL y) = strOf (bytesL x ++ (z :: (r ++ [y])).flatMap fun y => bytesL nlS ++ bytesL y)
    rw [List.flatMap_cons, strOf_app (bytesL x), strOf_app (bytesL nlS ++ bytesL z), strOf_app (bytesL nlS), strOf_bytes, strOf_bytes, strOf_bytes, strOf_app (bytesL z), strOf_bytes]
    simp only [ByteArray.append_assoc]
theorem tkF_is (l : List Ln) (row col row2 col2 : Nat) : ∀ (k r : Nat) (xs : List ByteArray) (now : ByteArray), 1 ≤ k → r + k = row2 + 1 →
    tkF l row col row2 col2 k r (catS xs) now = strOf (joinI nlS (takeF l row col row2 col2 k r xs now))
  | 0, _, _, _, h, _ => by omega
  | 1, r, xs, now, _, h => by
    have e1 : r = row2 := by omega
    subst e1
    unfold tkF takeF
    have e2 : decide (r < r) = false := decide_eq_false (by omega)
    rw [e2, decide_eq_true rfl]
    simp only [Bool.false_and, cond_false, Bool.true_or, cond_true]
    exact catS_join _ xs
  | k + 2, r, xs, now, _, h => by
    unfold tkF takeF
    have e1 : decide (r < row2) = true := decide_eq_true (by omega)
    have e2 : decide (r = row2) = false := decide_eq_false (by omega)
    rw [e1, e2]
    simp only [Bool.true_and, Bool.false_or, cond_true]
    cases (l.getD r dL).2.1 with
    | true =>
      simp only [cond_true, Bool.not_true, cond_false]
      exact tkF_is l row col row2 col2 (k + 1) (r + 1) xs _ (by omega) (by omega)
    | false =>
      simp only [cond_false, Bool.not_false, cond_true]
      rw [← catS_snoc]
      exact tkF_is l row col row2 col2 (k + 1) (r + 1) (xs ++ [_]) ByteArray.empty (by omega) (by omega)
theorem tkF_take (l : List Ln) (a c b d : Nat) (h : a ≤ b) : tkF l a c b d (b + 1 - a) a ByteArray.empty ByteArray.empty = takeL l a c b d :=
  tkF_is l a c b d (b + 1 - a) a [] ByteArray.empty (by omega) (by omega)
end U
namespace Go.Proofs.YtmnbcnhpklejcaaDoor
def T78_0 (x : p78_0.T) : Tr ByteArray :=
  match x with
  | ⟨⟨l, a, c, b, d, s, r, _⟩, _⟩ => .ite (decide (0 ≤ (a : Int) ∧ (a : Int) ≤ (b : Int) ∧ (b : Int) < (List.length (α := Line) l : Int) ∧ 0 ≤ (c : Int) ∧ 0 ≤ (d : Int) ∧ (d : Int) ≤ 1048576 ∧ (r : Int) = (a : Int) ∧ ByteArray.size s = 0 ∧ U.cells l ≤ 1048576) && U.okl l)
      (.ret (U.blkF l a.toNat c.toNat d.toNat (b.toNat + 1 - a.toNat) a.toNat s)) .fail
abbrev E78 : Env := N78 fun key x => bif Nat.beq key 7 then p78_0.ls (fun a => (T78_0 a).map X78_0) x else none
theorem R78 (l : List Line) (a c b d : Nat) (gk : U.okl l = true) (hb : b < l.length) (hd : d ≤ 1048576) : ∀ (k r : Nat) (s : ByteArray), r + k = b + 1 → a ≤ r → s.size + U.cells (l.drop r) * 1048577 + k ≤ 281474976710656 →
    Rounds b78_0 ((l, (a : Int), (c : Int), (b : Int), (d : Int), s, (r : Int), ()), ()) (U.blkF l a c d k r s)
  | 0, r, s, e, _, _ => by
    refine .exit ?_
    have c0 : decide ((r : Int) ≤ (b : Int)) = false := decide_eq_false (by omega)
    simp only [b78_0, B78_0, Tr.val, c0, cond_false]
    rfl
  | k + 1, r, s, e, hr, hs => by
    have hl := U.okl_len gk
    have hlt : r < l.length := by omega
    have hc := U.okc_len (U.okl_at gk hlt)
    have hc : (l.getD r U.dL).1.length ≤ 1048576 := hc
    have er : rget link l (r : Int) = l.getD r U.dL := rgetL l r
    have w : IntKind.wrap IntKind.i64 ((r : Int) + 1) = ((r + 1 : Nat) : Int) := wrap64_nat (show r ≤ 1048576 by omega)
    have c0 : decide ((r : Int) ≤ (b : Int)) = true := decide_eq_true (by omega)
    have o1 := U.okc_part (U.okl_at gk hlt) c (d + 1)
    have o2 := (U.okc_say o1 0).2
    rw [List.drop_zero] at o2
    have o3 := U.okc_len o1
    have o4 := U.partS_size (U.okl_at gk hlt) c (d + 1)
    have o5 := U.bareS_size (U.partS (l.getD r U.dL) c (d + 1))
    have hcd := congrArg (· * 1048577) (U.cells_drop hlt)
    simp only [Nat.add_mul] at hcd
    have o4 : (U.partS (l.getD r U.dL) c (d + 1)).size ≤ U.rowLen l r * 1048577 := o4
    have f5 : strOf (U.sayL (((l.getD r U.dL).1.take (d + 1)).drop c)) = U.partS (l.getD r U.dL) c (d + 1) := rfl
    have a0 : ∀ x : List Cell, List.append [] x = x := fun _ => rfl
    have a1 : 0 + (l.getD r U.dL).1.length ≤ 1048576 := by omega
    have a2 : (U.partS (l.getD r U.dL) c (d + 1)).size ≤ 140737488355328 := by rw [← f5, U.strOf_size]; exact o2
    have a3 : s.size + 1 ≤ 9223372036854775807 := by omega
    have a4 : s.size + (U.bareS (U.partS (l.getD r U.dL) c (d + 1))).size ≤ 9223372036854775807 := by omega
    have s1 : (s ++ U.nlS).size = s.size + 1 := ByteArray.size_append
    have a5 : (s ++ U.nlS).size + (U.bareS (U.partS (l.getD r U.dL) c (d + 1))).size ≤ 9223372036854775807 := by omega
    have e1 : decide ((a : Int) < (r : Int)) = decide (a < r) := decide_eq_decide.2 Int.ofNat_lt
    have hv : (b78_0 ((l, (a : Int), (c : Int), (b : Int), (d : Int), s, (r : Int), ()), ())).val = some (.inl ((l, (a : Int), (c : Int), (b : Int), (d : Int), (bif decide (a < r) then s ++ U.nlS else s) ++ U.bareS (U.partS (l.getD r U.dL) c (d + 1)), ((r + 1 : Nat) : Int), ()), ())) := by
      have g0 : (⟨#[10]⟩ : ByteArray) = U.nlS := rfl
      simp only [b78_0, B78_0, Tr.val, c0, er, w, Int.toNat_natCast, inB_nat hlt, a0, a1, f5, a2, a3, a4, o2, o3, e1, Int.natCast_nonneg, and_self, decide_true, cond_true]
      cases decide (a < r) with
      | true =>
        show (bif decide ((s ++ U.nlS).size + (U.bareS (U.partS (l.getD r U.dL) c (d + 1))).size ≤ 9223372036854775807) then _ else _) = _
        rw [decide_eq_true a5]
        rfl
      | false => rfl
    unfold U.blkF
    have s2 : ((bif decide (a < r) then s ++ U.nlS else s) ++ U.bareS (U.partS (l.getD r U.dL) c (d + 1))).size ≤ s.size + 1 + (U.bareS (U.partS (l.getD r U.dL) c (d + 1))).size := by
      cases decide (a < r)
      · show (s ++ U.bareS (U.partS (l.getD r U.dL) c (d + 1))).size ≤ _
        rw [ByteArray.size_append]; omega
      · show (s ++ U.nlS ++ U.bareS (U.partS (l.getD r U.dL) c (d + 1))).size ≤ _
        rw [ByteArray.size_append, s1]; omega
    exact .step hv (R78 l a c b d gk hb hd k (r + 1) _ (by omega) (by omega) (by omega))
theorem L78_0 : LoopOK (evI 2) (E78.lend 0) (lc Tryd.f78 0) := by
  refine l78_0 (T := T78_0) (fun x => rfl) ?_
  rintro ⟨⟨l, a, c, b, d, s, r, z⟩, z1⟩ q hh
  obtain ⟨g1, g2⟩ := pre_val hh
  rw [Bool.and_eq_true] at g1
  obtain ⟨g1, gk⟩ := g1
  have g1 : 0 ≤ (a : Int) ∧ (a : Int) ≤ (b : Int) ∧ (b : Int) < (l.length : Int) ∧ 0 ≤ (c : Int) ∧ 0 ≤ (d : Int) ∧ (d : Int) ≤ 1048576 ∧ (r : Int) = (a : Int) ∧ s.size = 0 ∧ U.cells l ≤ 1048576 := of_decide_eq_true g1
  obtain ⟨h1, h2, h3, h4, h5, h6, rfl, h7, h8⟩ := g1
  obtain ⟨a, rfl⟩ := Int.eq_ofNat_of_zero_le h1
  obtain ⟨b, rfl⟩ := Int.eq_ofNat_of_zero_le (Int.le_trans h1 h2)
  obtain ⟨c, rfl⟩ := Int.eq_ofNat_of_zero_le h4
  obtain ⟨d, rfl⟩ := Int.eq_ofNat_of_zero_le h5
  have h2 : (a : Int) ≤ (b : Int) := h2
  have h3 : (b : Int) < (l.length : Int) := h3
  have h6 : (d : Int) ≤ 1048576 := h6
  have gk : U.okl l = true := gk
  have hl := U.okl_len gk
  have h12 := U.cells_part l a l.length
  rw [List.take_length] at h12
  have h13 := Nat.mul_le_mul_right 1048577 (Nat.le_trans h12 h8)
  cases g2
  exact R78 l a c b d gk (by omega) (by omega) (b + 1 - a) a s (by omega) (Nat.le_refl _) (by omega)
def d78 (a : List Line) (b : Int) (c : Int) (y : Int) (f : Int) : Tr (ByteArray) :=
 let v1 : Int := ((↑(List.length a) : Int))
 let v2 : Int := (IntKind.wrap IntKind.i64 (IntKind.wrap IntKind.i64 (b + y) - minI b y))
 let v3 : Int := (IntKind.wrap IntKind.i64 (IntKind.wrap IntKind.i64 (c + f) - minI c f))
 Tr.ite (decide ((0 : Int) ≤ minI b y ∧ minI b y ≤ v2 ∧ v2 < v1 ∧ (0 : Int) ≤ minI c f ∧ (0 : Int) ≤ v3 ∧ v3 ≤ (1048576 : Int) ∧ minI b y = minI b y ∧ (0 : Nat) = (0 : Nat) ∧ U.cells a ≤ (1048576 : Nat)) && U.okl a) (Tr.ret (U.blkF a (Int.toNat (minI b y)) (Int.toNat (minI c f)) (Int.toNat v3) (Int.toNat v2 + (1 : Nat) - Int.toNat (minI b y)) (Int.toNat (minI b y)) { data := #[] })) Tr.fail
def e78 (r : ByteArray) : FRes := { rs := Slot.av (AV.one (Leaf.dat Kd.str r)), upd := [], new := [] }
@[reducible] def a78 : List AK := [AK.d (Kd.sl link), AK.d (.int .i64), AK.d (.int .i64), AK.d (.int .i64), AK.d (.int .i64)]
@[reducible] def b78 : List BK := []
theorem t78 (a : List Line) (b : Int) (c : Int) (y : Int) (f : Int) : evFn (E78) Tryd.f78 [PM.data Kd.str] (akAV a78 (a, b, c, y, f, ())) (bkBs b78 ()) = (d78 a b c y f).map e78 := by kernel_rfl
def s78 (C : akT a78 → Bool) (G : akT a78 → ByteArray) : FSpec := aspec a78 b78 e78 (fun x _ => C x) (fun x _ => G x)
theorem k78 {C : akT a78 → Bool} {G : akT a78 → ByteArray} (hd : ∀ (a : List Line) (b : Int) (c : Int) (y : Int) (f : Int), C (a, b, c, y, f, ()) = true → (d78 a b c y f).val = some (G (a, b, c, y, f, ()))) (IO : ItOK Tryd.prog (E78) := by exact itOK_none rfl) (L : ∀ c, Tryd.f78.body = some c → LsOK (evI 2) ((E78).lend 0) c := by exact fun c _ => LsOK_none rfl c) : SpecOK Tryd.prog E0 78 (s78 C G) :=
  aspec_ok (ak := a78) (bl := b78) (e := e78) (c := fun x _ => C x) (g := fun x _ => G x) (E0 := E0) (E := E78) tab AG78 rfl rfl hm Tryd.func78 (by kernel_rfl) [PM.data Kd.str] (fun X Y H => by obtain ⟨a, ⟨b, ⟨c, ⟨y, ⟨f, _⟩⟩⟩⟩⟩ := X; exact val_of (t78 a b c y f) (hd a b c y f H)) IO L
abbrev w78 : FSpec := s78 (fun x => U.okl x.1 && (decide (U.cells x.1 ≤ 1048576) && (U.there x.1 x.2.1 x.2.2.1 && U.there x.1 x.2.2.2.1 x.2.2.2.2.1))) fun x => U.blockS x.1 (minI x.2.1 x.2.2.2.1).toNat (minI x.2.2.1 x.2.2.2.2.1).toNat (maxI x.2.1 x.2.2.2.1).toNat (maxI x.2.2.1 x.2.2.2.2.1).toNat
theorem wk78 : SpecOK Tryd.prog E0 78 w78 := by
  refine k78 (fun l row col row2 col2 H => ?_) (L := ls_ok (lcs := [lc Tryd.f78 0, lc Tryd.f78 1]) (rgs := []) (by kernel_rfl) (by kernel_rfl) ⟨L78_0, L78_1⟩ trivial)
  have H : (U.okl l && (decide (U.cells l ≤ 1048576) && (U.there l row col && U.there l row2 col2))) = true := H
  simp only [Bool.and_eq_true] at H
  obtain ⟨gk, g2, ht, ht2⟩ := H
  have g2 : U.cells l ≤ 1048576 := of_decide_eq_true g2
  have hl := U.okl_len gk
  obtain ⟨a, c, rfl, rfl, h1, h2⟩ := U.there_nat ht
  obtain ⟨b, d, rfl, rfl, h3, h4⟩ := U.there_nat ht2
  have m1 := U.okc_len (U.okl_at gk h1)
  have m2 := U.okc_len (U.okl_at gk h3)
  have m1 : (l.getD a U.dL).1.length ≤ 1048576 := m1
  have m2 : (l.getD b U.dL).1.length ≤ 1048576 := m2
  show _ = some (U.blockS l (minI (a : Int) (b : Int)).toNat (minI (c : Int) (d : Int)).toNat (maxI (a : Int) (b : Int)).toNat (maxI (c : Int) (d : Int)).toNat)
  rw [minI_nat, minI_nat, U.maxI_nat, U.maxI_nat]
  simp only [Int.toNat_natCast]
  rw [← U.blkF_block l _ _ _ _ (show max a b < l.length by omega)]
  have e1 : IntKind.i64.wrap (IntKind.i64.wrap ((a : Int) + (b : Int)) - ((min a b : Nat) : Int)) = ((max a b : Nat) : Int) := by
    rw [Go.Ev.w64 (n := (a : Int) + (b : Int)) (by omega) (by omega), Go.Ev.w64 (by omega) (by omega)]; omega
  have e2 : IntKind.i64.wrap (IntKind.i64.wrap ((c : Int) + (d : Int)) - ((min c d : Nat) : Int)) = ((max c d : Nat) : Int) := by
    rw [Go.Ev.w64 (n := (c : Int) + (d : Int)) (by omega) (by omega), Go.Ev.w64 (by omega) (by omega)]; omega
  have a1 : ((min a b : Nat) : Int) ≤ ((max a b : Nat) : Int) := by omega
  have a2 : ((max a b : Nat) : Int) < (l.length : Int) := by omega
  have a3 : ((max c d : Nat) : Int) ≤ 1048576 := by omega
  have a4 : (⟨#[]⟩ : ByteArray).size = 0 := rfl
  simp only [d78, Tr.val, minI_nat, e1, e2, gk, g2, a1, a2, a3, a4, Int.toNat_natCast, Int.natCast_nonneg, and_self, decide_true, Bool.and_self, cond_true]
  rfl
def T77_0 (x : p77_0.T) : Tr ByteArray :=
  match x with
  | ⟨⟨l, row, col, row2, col2, out, now, r, _⟩, _⟩ => .ite (decide (0 ≤ (row : Int) ∧ (row : Int) ≤ (row2 : Int) ∧ (row2 : Int) < (List.length (α := Line) l : Int) ∧ 0 ≤ (col : Int) ∧ 0 ≤ (col2 : Int) ∧ (r : Int) = (row : Int) ∧ ByteArray.size out = 0 ∧ ByteArray.size now = 0 ∧ U.cells l ≤ 1048576) && U.okl l)
      (.ret (U.tkF l row.toNat col.toNat row2.toNat col2.toNat (row2.toNat + 1 - row.toNat) row.toNat out now)) .fail
abbrev E77 : Env := N77 fun key x => bif Nat.beq key 6 then p77_0.ls (fun a => (T77_0 a).map X77_0) x else none
theorem R77 (l : List Line) (a c b d : Nat) (gk : U.okl l = true) (hb : b < l.length) : ∀ (k r : Nat) (s n : ByteArray), r + k = b + 1 → a ≤ r → s.size + n.size + U.cells (l.drop r) * 1048577 + k ≤ 140737488355328 →
    Rounds b77_0 ((l, (a : Int), (c : Int), (b : Int), (d : Int), s, n, (r : Int), ()), ()) (U.tkF l a c b d k r s n)
  | 0, r, s, n, e, _, _ => by
    refine .exit ?_
    have c0 : decide ((r : Int) ≤ (b : Int)) = false := decide_eq_false (by omega)
    simp only [b77_0, B77_0, Tr.val, c0, cond_false]
    rfl
  | k + 1, r, s, n, e, hr, hs => by
    have hl := U.okl_len gk
    have hlt : r < l.length := by omega
    have hc := U.okc_len (U.okl_at gk hlt)
    have hc : (l.getD r U.dL).1.length ≤ 1048576 := hc
    have er : rget link l (r : Int) = l.getD r U.dL := rgetL l r
    have w : IntKind.wrap IntKind.i64 ((r : Int) + 1) = ((r + 1 : Nat) : Int) := wrap64_nat (show r ≤ 1048576 by omega)
    have c0 : decide ((r : Int) ≤ (b : Int)) = true := decide_eq_true (by omega)
    have hp := U.partT_size gk a c b d hlt
    have f5 : strOf (U.sayL (((l.getD r U.dL).1.take (if r = b then d + 1 else (l.getD r U.dL).1.length)).drop (if r = a then c else 0))) = U.partT l a c b d r := rfl
    have o1 := U.okc_part (U.okl_at gk hlt) (if r = a then c else 0) (if r = b then d + 1 else (l.getD r U.dL).1.length)
    have o2 := (U.okc_say o1 0).2
    rw [List.drop_zero] at o2
    have o3 := U.okc_len o1
    have hcd := congrArg (· * 1048577) (U.cells_drop hlt)
    simp only [Nat.add_mul] at hcd
    have s1 : (n ++ U.partT l a c b d r).size = n.size + (U.partT l a c b d r).size := ByteArray.size_append
    have o5 := U.bareS_size (n ++ U.partT l a c b d r)
    have s3 : (s ++ U.bareS (n ++ U.partT l a c b d r)).size = s.size + (U.bareS (n ++ U.partT l a c b d r)).size := ByteArray.size_append
    have a0 : ∀ x : List Cell, List.append [] x = x := fun _ => rfl
    have a1 : 0 + (l.getD r U.dL).1.length ≤ 1048576 := by omega
    have a2 : n.size + (U.partT l a c b d r).size ≤ 9223372036854775807 := by omega
    have a3 : (n ++ U.partT l a c b d r).size ≤ 140737488355328 := by omega
    have a4 : s.size + (U.bareS (n ++ U.partT l a c b d r)).size ≤ 9223372036854775807 := by omega
    have a5 : (s ++ U.bareS (n ++ U.partT l a c b d r)).size + 1 ≤ 9223372036854775807 := by omega
    have a6 : (a : Int) ≤ (r : Int) := by omega
    have a7 : (r : Int) ≤ (b : Int) := by omega
    have e1 : decide ((r : Int) < (b : Int)) = decide (r < b) := decide_eq_decide.2 Int.ofNat_lt
    have g0 : ∀ x : ByteArray, x ++ (⟨#[10]⟩ : ByteArray) = x ++ U.nlS := fun _ => rfl
    have hv : (b77_0 ((l, (a : Int), (c : Int), (b : Int), (d : Int), s, n, (r : Int), ()), ())).val =
        bif decide (r < b) && (l.getD r U.dL).2.1 then some (.inl ((l, (a : Int), (c : Int), (b : Int), (d : Int), s, n ++ U.partT l a c b d r, ((r + 1 : Nat) : Int), ()), ()))
        else some (.inl ((l, (a : Int), (c : Int), (b : Int), (d : Int), (bif decide (r < b) then s ++ U.bareS (n ++ U.partT l a c b d r) ++ U.nlS else s ++ U.bareS (n ++ U.partT l a c b d r)), ByteArray.empty, ((r + 1 : Nat) : Int), ()), ())) := by
      simp only [b77_0, B77_0, Tr.val, c0, er, w, Int.toNat_natCast, inB_nat hlt, a0, a1, f5, a2, a3, a4, a5, a6, a7, o2, o3, e1, eqb_self, Int.natCast_nonneg, Bool.and_self, Bool.cond_self, and_self, decide_true, cond_true]
      cases decide (r < b)
      · rfl
      · cases (l.getD r U.dL).2.1 <;> rfl
    unfold U.tkF
    cases hq : (decide (r < b) && (l.getD r U.dL).2.1) with
    | true =>
      rw [hq] at hv
      exact .step hv (R77 l a c b d gk hb k (r + 1) _ _ (by omega) (by omega) (by omega))
    | false =>
      rw [hq] at hv
      have s2 : (bif decide (r < b) then s ++ U.bareS (n ++ U.partT l a c b d r) ++ U.nlS else s ++ U.bareS (n ++ U.partT l a c b d r)).size ≤ s.size + (U.bareS (n ++ U.partT l a c b d r)).size + 1 := by
        cases decide (r < b)
        · show (s ++ U.bareS (n ++ U.partT l a c b d r)).size ≤ _
          omega
        · show (s ++ U.bareS (n ++ U.partT l a c b d r) ++ U.nlS).size ≤ _
          rw [ByteArray.size_append, s3]
          exact Nat.le_refl _
      exact .step hv (R77 l a c b d gk hb k (r + 1) _ _ (by omega) (by omega) (by show _ + 0 + _ + _ ≤ _; omega))
theorem L77_0 : LoopOK (evI 2) (E77.lend 0) (lc Tryd.f77 0) := by
  refine l77_0 (T := T77_0) (fun x => rfl) ?_
  rintro ⟨⟨l, a, c, b, d, s, n, r, z⟩, z1⟩ q hh
  obtain ⟨g1, g2⟩ := pre_val hh
  rw [Bool.and_eq_true] at g1
  obtain ⟨g1, gk⟩ := g1
  have g1 : 0 ≤ (a : Int) ∧ (a : Int) ≤ (b : Int) ∧ (b : Int) < (l.length : Int) ∧ 0 ≤ (c : Int) ∧ 0 ≤ (d : Int) ∧ (r : Int) = (a : Int) ∧ s.size = 0 ∧ n.size = 0 ∧ U.cells l ≤ 1048576 := of_decide_eq_true g1
  obtain ⟨h1, h2, h3, h4, h5, rfl, h6, h7, h8⟩ := g1
  obtain ⟨a, rfl⟩ := Int.eq_ofNat_of_zero_le h1
  obtain ⟨b, rfl⟩ := Int.eq_ofNat_of_zero_le (Int.le_trans h1 h2)
  obtain ⟨c, rfl⟩ := Int.eq_ofNat_of_zero_le h4
  obtain ⟨d, rfl⟩ := Int.eq_ofNat_of_zero_le h5
  have h2 : (a : Int) ≤ (b : Int) := h2
  have h3 : (b : Int) < (l.length : Int) := h3
  have gk : U.okl l = true := gk
  have hl := U.okl_len gk
  have h12 := U.cells_part l a l.length
  rw [List.take_length] at h12
  have h13 := Nat.mul_le_mul_right 1048577 (Nat.le_trans h12 h8)
  cases g2
  exact R77 l a c b d gk (by omega) (b + 1 - a) a s n (by omega) (Nat.le_refl _) (by omega)
def d77 (a : List Line) (b : Int) (c : Int) (y : Int) (f : Int) : Tr (ByteArray) :=
 let v1 : Int := ((↑(List.length a) : Int))
 Tr.ite (U.behind b c y f) Tr.fail (Tr.ite (decide ((0 : Int) ≤ b ∧ b ≤ y ∧ y < v1 ∧ (0 : Int) ≤ c ∧ (0 : Int) ≤ f ∧ b = b ∧ (0 : Nat) = (0 : Nat) ∧ (0 : Nat) = (0 : Nat) ∧ U.cells a ≤ (1048576 : Nat)) && U.okl a) (Tr.ret (U.tkF a (Int.toNat b) (Int.toNat c) (Int.toNat y) (Int.toNat f) (Int.toNat y + (1 : Nat) - Int.toNat b) (Int.toNat b) { data := #[] } { data := #[] })) Tr.fail)
def e77 (r : ByteArray) : FRes := { rs := Slot.av (AV.one (Leaf.dat Kd.str r)), upd := [], new := [] }
@[reducible] def a77 : List AK := [AK.d (Kd.sl link), AK.d (.int .i64), AK.d (.int .i64), AK.d (.int .i64), AK.d (.int .i64)]
@[reducible] def b77 : List BK := []
theorem t77 (a : List Line) (b : Int) (c : Int) (y : Int) (f : Int) : evFn (E77) Tryd.f77 [PM.data Kd.str] (akAV a77 (a, b, c, y, f, ())) (bkBs b77 ()) = (d77 a b c y f).map e77 := by kernel_rfl
def s77 (C : akT a77 → Bool) (G : akT a77 → ByteArray) : FSpec := aspec a77 b77 e77 (fun x _ => C x) (fun x _ => G x)
theorem k77 {C : akT a77 → Bool} {G : akT a77 → ByteArray} (hd : ∀ (a : List Line) (b : Int) (c : Int) (y : Int) (f : Int), C (a, b, c, y, f, ()) = true → (d77 a b c y f).val = some (G (a, b, c, y, f, ()))) (IO : ItOK Tryd.prog (E77) := by exact itOK_none rfl) (L : ∀ c, Tryd.f77.body = some c → LsOK (evI 2) ((E77).lend 0) c := by exact fun c _ => LsOK_none rfl c) : SpecOK Tryd.prog E0 77 (s77 C G) :=
  aspec_ok (ak := a77) (bl := b77) (e := e77) (c := fun x _ => C x) (g := fun x _ => G x) (E0 := E0) (E := E77) tab AG77 rfl rfl hm Tryd.func77 (by kernel_rfl) [PM.data Kd.str] (fun X Y H => by obtain ⟨a, ⟨b, ⟨c, ⟨y, ⟨f, _⟩⟩⟩⟩⟩ := X; exact val_of (t77 a b c y f) (hd a b c y f H)) IO L
end Go.Proofs.YtmnbcnhpklejcaaDoor
end
