/- Part 4 of what the proof leans on: an evaluator of Go code over plain data, with its soundness; contracts of functions; laws of plain data. -/
import Derived.Lib.MakeNoZero
import Derived.Test.YtdlbnlbajnafdaaDoorZq3
section
set_option linter.unusedVariables false
set_option linter.unusedSimpArgs false
set_option maxRecDepth 20000
set_option maxHeartbeats 4000000
open Go Go.Ev
namespace Go.Proofs.YtdlbnlbajnafdaaDoor
open Go.RowKit
def w176 : FSpec := { ps := [.data (.int .i64)], g := fun args bs => match args with
  | [.one (.dat (.int .i64) n)] => match bs with
    | [] => some { c := some (decide (1 ≤ (n : Int) ∧ (n : Int) ≤ 140737488355328)), rs := .av (.one (.room 0)), new := [.row 5 (.int .u8) []] }
    | _ => none
  | _ => none }
theorem wk176 : SpecOK Tryd.prog E0 176 w176 := by
  intro F O args bs r hr
  unfold w176 at hr
  simp only at hr
  split at hr
  · rename_i n
    split at hr
    · cases hr
      intro hc w K A vs H hv
      have hc : 1 ≤ (n : Int) ∧ (n : Int) ≤ 140737488355328 := by
        cases hd : decide (1 ≤ (n : Int) ∧ (n : Int) ≤ 140737488355328) with
        | true => exact of_decide_eq_true hd
        | false => exact absurd (by rw [hd]) hc
      obtain ⟨m, rfl⟩ := Int.eq_ofNat_of_zero_le (a := n) (Int.le_trans (by decide) hc.1)
      have hc : (1 : Int) ≤ (m : Int) ∧ (m : Int) ≤ 140737488355328 := hc
      cases hv with
      | cons h0 h1 =>
        cases h1
        rename_i v
        have h0 : [v] = [Value.int .i64 (m : Int)] := h0
        cases h0
        have hu : Tryd.prog.underlying 96 = some (.slice 5) := by kernel_rfl
        obtain ⟨cs, hrun, hle, hmax⟩ := Lib.run_makeNoZero (P := Tryd.prog) w #[3] 96 5 hu m (by omega)
        have hg : w.grownBy (w.drew.drew.alloc (.cells cs 5)) none := have g := World.grownBy_alloc (w.drew.drew) (.cells cs 5) none; ⟨g.os, g.tape, g.output, g.size, g.block⟩
        have hm : cs.size ≤ maxLen := hmax (by unfold maxLen; omega)
        have hnew : (w.drew.drew.alloc (.cells cs 5)).heap[w.heap.size]? = some (.cells cs 5 (0, 0)) := World.alloc_heap_new w.drew.drew _
        obtain ⟨K', A', H', x, s⟩ := new_row (e := 5) (k := .int .u8) (xs := []) (l := []) (v := .slice (some ⟨w.heap.size, 0, none⟩) 0 cs.size) (key := 0) (w' := w.drew.drew.alloc (.cells cs 5)) H rfl hg
          ⟨rfl, .inr ⟨w.heap.size, cs.size, cs, (0, 0), rfl, by omega, hnew, .inl rfl, by simp, hm, by show cs.size = cs.size * 1; omega, by simp⟩⟩ rfl (by decide)
          (fun g hg => by
            have hg : (if cs.size = 0 then none else some w.heap.size) = some g := hg
            split at hg
            · cases hg
            · cases hg; exact Nat.le_refl _)
        obtain ⟨hh, hhd, _⟩ := s
        obtain ⟨l, _, _, hm2, _⟩ := H'.blk 0 _ (show (Heap.sets (zipN 0 []) [(0, Blk.row 5 (.int .u8) [])]).get 0 = some (Blk.row 5 (.int .u8) []) from rfl)
        have e0 : ¬ cs.size = 0 := by omega
        have em : A'.m 0 = w.heap.size := by
          rw [← hhd] at hm2
          unfold ownB at hm2
          simp only [e0, if_false] at hm2
          rcases hm2 with h | h
          · cases h
          · exact (Option.some.inj h).symm
        refine .inl ⟨.slice (some ⟨w.heap.size, 0, none⟩) m cs.size, w.drew.drew.alloc (.cells cs 5), ?_, K', A', H', x, ?_, rfl⟩
        · rw [run_callFunc_extern Tryd.func176 (by kernel_rfl) (by kernel_rfl) (by kernel_rfl) (e := Extern.BytealgMakeNoZero.makeNoZero #[3] #[96]) (by kernel_rfl)]
          rw [show ([Value.int .i64 (m : Int)].toArray : Array Value) = #[.int .i64 m] from rfl, hrun]
          rfl
        · exact ⟨hh, m, cs.size, by rw [em]; exact hhd.symm, by rw [em], hle, by omega⟩
    · cases hr
  · cases hr
def d145 (b : Int) (h0_u : Bool) : Tr (Bool × List Int) :=
 let v1 : Int := (IntKind.wrap IntKind.i64 ((0 : Int) + b))
 Tr.ite (decide ((1 : Int) ≤ v1 ∧ v1 ≤ (140737488355328 : Int))) (Tr.ret (h0_u, putAt [] (0 : Nat) (List.take (0 : Nat) []))) Tr.fail
def e145 (r : Bool × List Int) : FRes := { rs := Slot.tup [], upd := [Blk.tb ( 143) r.fst [Leaf.srow ( 1)]], new := [Blk.row ( 5) (Kd.int IntKind.u8) r.snd] }
@[reducible] def a145 : List AK := [AK.c (Leaf.ptr (0 : Nat) (0 : Nat)), AK.d (.int .i64)]
@[reducible] def b145 : List BK := bldZ
theorem t145 (b : Int) (h0_u : Bool) : evFn (Env.withFns E0 [((176 : Nat), w176)]) Tryd.f145 [] (akAV a145 (b, ())) (bkBs b145 ((h0_u, ()), ())) = (d145 b h0_u).map e145 := by kernel_rfl
def s145 (C : akT a145 → bksT b145 → Bool) (G : akT a145 → bksT b145 → Bool × List Int) : FSpec := aspec a145 b145 e145 (C) (G)
theorem k145 {C : akT a145 → bksT b145 → Bool} {G : akT a145 → bksT b145 → Bool × List Int} (hd : ∀ (b : Int) (h0_u : Bool), C (b, ()) ((h0_u, ()), ()) = true → (d145 b h0_u).val = some (G (b, ()) ((h0_u, ()), ()))) (IO : ItOK Tryd.prog (Env.withFns E0 [((176 : Nat), w176)]) := by exact itOK_none rfl) (L : ∀ c, Tryd.f145.body = some c → LsOK (evI 2) ((Env.withFns E0 [((176 : Nat), w176)]).lend 1) c := by exact fun c _ => LsOK_none rfl c) : SpecOK Tryd.prog E0 145 (s145 C G) :=
  aspec_ok (ak := a145) (bl := b145) (e := e145) (c := C) (g := G) (E0 := E0) (E := Env.withFns E0 [((176 : Nat), w176)]) tab (.cons wk176 .nil) rfl rfl hm Tryd.func145 (by kernel_rfl) [] (fun X Y H => by obtain ⟨b, _⟩ := X; obtain ⟨⟨h0_u, _⟩, _⟩ := Y; exact val_of (t145 b h0_u) (hd b h0_u H)) IO L
abbrev w145 : FSpec := s145 (fun x _ => decide (1 ≤ (x.1 : Int) ∧ (x.1 : Int) ≤ 140737488355328)) fun _ y => (y.1.1, [])
theorem wk145 : SpecOK Tryd.prog E0 145 w145 := k145 fun n u H => by
  have H : 1 ≤ (n : Int) ∧ (n : Int) ≤ 140737488355328 := of_decide_eq_true H
  have e : IntKind.i64.wrap (0 + n) = n := by rw [Go.Ev.w64 (by omega) (by omega)]; omega
  simp only [d145, Tr.val, e, H.1, H.2, and_self, decide_true, cond_true]
  rfl
def d88 (b : Int) (h0_u : Bool) : Tr (Bool × List Int ⊕ Bool) :=
 Tr.ite (decide (b < (0 : Int))) Tr.fail (Tr.ite (decide ((0 : Int) < b)) (Tr.ite (decide ((1 : Int) ≤ b ∧ b ≤ (140737488355328 : Int))) (Tr.ret (Sum.inl (true, []))) Tr.fail) (Tr.ret (Sum.inr true)))
def e88 : Bool × List Int ⊕ Bool → FRes
  | (.inl r) => { rs := Slot.tup [], upd := [Blk.tb ( 143) r.fst [Leaf.srow ( 1)]], new := [Blk.row ( 5) (Kd.int IntKind.u8) r.snd] }
  | (.inr r) => { rs := Slot.tup [], upd := [Blk.tb ( 143) r [Leaf.nils]], new := [] }
@[reducible] def a88 : List AK := [AK.c (Leaf.ptr (0 : Nat) (0 : Nat)), AK.d (.int .i64)]
@[reducible] def b88 : List BK := bldZ
theorem t88 (b : Int) (h0_u : Bool) : evFn (Env.withFns E0 [((144 : Nat), Z.w144), ((145 : Nat), w145)]) Tryd.f88 [] (akAV a88 (b, ())) (bkBs b88 ((h0_u, ()), ())) = (d88 b h0_u).map e88 := by kernel_rfl
def s88 (C : akT a88 → bksT b88 → Bool) (G : akT a88 → bksT b88 → Bool × List Int ⊕ Bool) : FSpec := aspec a88 b88 e88 (C) (G)
theorem k88 {C : akT a88 → bksT b88 → Bool} {G : akT a88 → bksT b88 → Bool × List Int ⊕ Bool} (hd : ∀ (b : Int) (h0_u : Bool), C (b, ()) ((h0_u, ()), ()) = true → (d88 b h0_u).val = some (G (b, ()) ((h0_u, ()), ()))) (IO : ItOK Tryd.prog (Env.withFns E0 [((144 : Nat), Z.w144), ((145 : Nat), w145)]) := by exact itOK_none rfl) (L : ∀ c, Tryd.f88.body = some c → LsOK (evI 2) ((Env.withFns E0 [((144 : Nat), Z.w144), ((145 : Nat), w145)]).lend 1) c := by exact fun c _ => LsOK_none rfl c) : SpecOK Tryd.prog E0 88 (s88 C G) :=
  aspec_ok (ak := a88) (bl := b88) (e := e88) (c := C) (g := G) (E0 := E0) (E := Env.withFns E0 [((144 : Nat), Z.w144), ((145 : Nat), w145)]) tab (.cons Z.wk144 (.cons wk145 .nil)) rfl rfl hm Tryd.func88 (by kernel_rfl) [] (fun X Y H => by obtain ⟨b, _⟩ := X; obtain ⟨⟨h0_u, _⟩, _⟩ := Y; exact val_of (t88 b h0_u) (hd b h0_u H)) IO L
abbrev w88 : FSpec := s88 (fun x _ => decide (1 ≤ (x.1 : Int) ∧ (x.1 : Int) ≤ 140737488355328)) fun _ _ => .inl (true, [])
theorem wk88 : SpecOK Tryd.prog E0 88 w88 := k88 fun n u H => by
  have H : 1 ≤ (n : Int) ∧ (n : Int) ≤ 140737488355328 := of_decide_eq_true H
  have h1 : ¬ n < 0 := by omega
  have h2 : 0 < n := by omega
  simp only [d88, Tr.val, h1, h2, H.1, H.2, and_self, decide_true, decide_false, cond_true, cond_false]
def live77 (key : Nat) : Lv :=
  bif Nat.beq key 22 then { ls := [1, 8, 63, 64, 65] } else bif Nat.beq key 1022 then { ls := [8] } else
  bif Nat.beq key 12 then { ls := [0, 1, 5, 39, 40, 41] } else bif Nat.beq key 1012 then { ls := [0, 1, 5] } else
  bif Nat.beq key 9997 then { ls := [143] } else
  { ls := [] }
abbrev G77 : List (Nat × FSpec) := [(88, w88), (89, w89), (91, w91)]
theorem AG77 : AllFn Tryd.prog E0 G77 := .cons wk88 (.cons wk89 (.cons wk91 .nil))
abbrev M77 (ls : Nat → VS → Option (Tr (Ex × VS))) : Env := (E0.withFns G77).loops live77 ls
@[reducible] def p77_0 : LP := { n := 75, sl := [.d (Kd.sl Kd.str), .d (Kd.str), .d (.int .i64), .d (Kd.sl Kd.str), .d (.int .i64), .d (.int .i64)], bl := [] }
def B77_0 (x0 : List ByteArray) (x1 : ByteArray) (x2 : Int) (x3 : List ByteArray) (x4 : Int) (x5 : Int) : Tr (p77_0.T ⊕ (List ByteArray × ByteArray × Int)) :=
 let v1 : Int := ((↑(ByteArray.size (rget Kd.str x3 x5)) : Int))
 let v2 : Int := (IntKind.wrap IntKind.i64 ((9223372036854775807 : Int) - x2))
 Tr.ite (decide (x5 < x4)) (Tr.ite (inB x5 (List.length x3)) (Tr.ite (decide (v2 < v1)) Tr.fail (Tr.ret (Sum.inl ((x0, x1, IntKind.wrap IntKind.i64 (x2 + v1), x3, x4, IntKind.wrap IntKind.i64 (x5 + (1 : Int)), ()), ())))) Tr.fail) (Tr.ret (Sum.inr (x0, x1, x2)))
def X77_0 (r : (List ByteArray × ByteArray × Int)) : Ex × VS := Prod.mk (Ex.exit ( 1)) { n := 75, v := [Slot.av (AV.one (Leaf.dat (Kd.sl Kd.str) r.fst)), Slot.av (AV.one (Leaf.dat Kd.str r.snd.fst)), Slot.av (AV.one (Leaf.dat (.int .i64) r.snd.snd))], h := [] }
def b77_0 : p77_0.T → Tr (p77_0.T ⊕ (List ByteArray × ByteArray × Int)) := fun ⟨⟨x0, ⟨x1, ⟨x2, ⟨x3, ⟨x4, ⟨x5, _⟩⟩⟩⟩⟩⟩, _⟩ => B77_0 x0 x1 x2 x3 x4 x5
theorem h77_0 (ls : Nat → VS → Option (Tr (Ex × VS))) (x : p77_0.T) : (evC (evI 2) (lc Tryd.f77 0) (Env.lend (M77 ls) 0) (unV (live77 12) (p77_0.V x))).map (decL 0 (live77 12) (live77 1012)) = (b77_0 x).map (encR p77_0.V X77_0) := by
  obtain ⟨⟨x0, ⟨x1, ⟨x2, ⟨x3, ⟨x4, ⟨x5, _⟩⟩⟩⟩⟩⟩, _⟩ := x; kernel_rfl
theorem c77_0 (x : p77_0.T) : canV 0 (live77 12) (unV (live77 12) (p77_0.V x)) = p77_0.V x := by
  obtain ⟨⟨x0, ⟨x1, ⟨x2, ⟨x3, ⟨x4, ⟨x5, _⟩⟩⟩⟩⟩⟩, _⟩ := x; kernel_rfl
theorem l77_0 {T : p77_0.T → Tr (List ByteArray × ByteArray × Int)} {ls : Nat → VS → Option (Tr (Ex × VS))} (hls : ∀ x, (Env.lend (M77 ls) 0).ls 12 x = p77_0.ls (fun a => (T a).map X77_0) x) (hS : ∀ x r, (T x).val = some r → Rounds b77_0 x r) : LoopOK (evI 2) (Env.lend (M77 ls) 0) (lc Tryd.f77 0) :=
  loopA 12 (live77 12) (live77 1012) p77_0 b77_0 X77_0 T (by kernel_rfl) rfl rfl hls (h77_0 ls) c77_0 hS
end Go.Proofs.YtdlbnlbajnafdaaDoor
namespace U
def sumS (l : List ByteArray) : Nat := (l.map ByteArray.size).sum
def joinI (sep : ByteArray) : List ByteArray → List Int
  | [] => []
  | x :: r => bytesL x ++ r.flatMap fun y => bytesL sep ++ bytesL y
end U
namespace Go.Proofs.YtdlbnlbajnafdaaDoor
def T77_0 (x : p77_0.T) : Tr (List ByteArray × ByteArray × Int) :=
  match x with
  | ⟨⟨x0, x1, n, l, m, i, _⟩, _⟩ => .ite (decide (0 ≤ (n : Int) ∧ (m : Int) = (List.length (α := ByteArray) l : Int) ∧ (i : Int) = 0 ∧ List.length (α := ByteArray) l ≤ 1048576 ∧ (n : Int) + (U.sumS l : Int) ≤ 140737488355328)) (.ret (x0, x1, n + (U.sumS l : Int))) .fail
abbrev N77 (ls : Nat → VS → Option (Tr (Ex × VS))) : Env := M77 fun key x => bif Nat.beq key 12 then p77_0.ls (fun a => (T77_0 a).map X77_0) x else ls key x
theorem R77_0 (x0 l : List ByteArray) (x1 : ByteArray) (hl : l.length ≤ 1048576) : ∀ (k i n : Nat), i + k = l.length → n + U.sumS (l.drop i) ≤ 140737488355328 →
    Rounds b77_0 ((x0, x1, (n : Int), l, (l.length : Int), (i : Int), ()), ()) (x0, x1, ((n + U.sumS (l.drop i) : Nat) : Int))
  | 0, i, n, e, _ => by
    have e : i = l.length := by omega
    subst e
    rw [List.drop_length]
    refine .exit ?_
    simp [b77_0, B77_0, Tr.val, U.sumS]
  | k + 1, i, n, e, hb => by
    have hi : i < l.length := by omega
    have e1 : rget .str l (i : Int) = l[i] := by rw [rget_nat]; exact getD_el hi
    have hs : U.sumS (l.drop i) = l[i].size + U.sumS (l.drop (i + 1)) := by rw [List.drop_eq_getElem_cons hi]; rfl
    rw [hs] at hb ⊢
    have c1 : decide ((i : Int) < (l.length : Int)) = true := decide_eq_true (by omega)
    have e2 : IntKind.i64.wrap ((9223372036854775807 : Int) - (n : Int)) = 9223372036854775807 - (n : Int) := Go.Ev.w64 (by omega) (by omega)
    have c2 : decide ((9223372036854775807 : Int) - (n : Int) < (l[i].size : Int)) = false := decide_eq_false (by omega)
    have e3 : IntKind.i64.wrap ((n : Int) + (l[i].size : Int)) = ((n + l[i].size : Nat) : Int) := by rw [Go.Ev.w64 (by omega) (by omega)]; omega
    have ih := R77_0 x0 l x1 hl k (i + 1) (n + l[i].size) (by omega) (by omega)
    rw [Nat.add_assoc] at ih
    refine .step ?_ ih
    simp only [b77_0, B77_0, Tr.val, e1, e2, e3, c1, c2, inB_nat hi, cond_true, cond_false, wrap64_nat (show i ≤ 1048576 by omega)]
theorem L77_0 {ls : Nat → VS → Option (Tr (Ex × VS))} : LoopOK (evI 2) ((N77 ls).lend 0) (lc Tryd.f77 0) := by
  refine l77_0 (T := T77_0) (fun x => rfl) ?_
  rintro ⟨⟨x0, x1, n, l, m, i, z⟩, z1⟩ r hh
  obtain ⟨g1, g2⟩ := pre_val hh
  have g1 : 0 ≤ (n : Int) ∧ (m : Int) = (l.length : Int) ∧ (i : Int) = 0 ∧ l.length ≤ 1048576 ∧ (n : Int) + (U.sumS l : Int) ≤ 140737488355328 := of_decide_eq_true g1
  obtain ⟨h1, rfl, rfl, h2, h3⟩ := g1
  obtain ⟨q, rfl⟩ := Int.eq_ofNat_of_zero_le h1
  cases g2
  have h3 : (q : Int) + (U.sumS l : Int) ≤ 140737488355328 := h3
  have := R77_0 x0 l x1 h2 l.length 0 q (by omega) (by rw [List.drop_zero]; omega)
  rw [List.drop_zero] at this
  exact this
@[reducible] def p77_1 : LP := { n := 75, sl := [.d (Kd.str), .c (Leaf.ptr ( 0) ( 0)), .d (Kd.sl Kd.str), .d (.int .i64), .d (.int .i64)], bl := [(0, .tb 143 [.c (Leaf.srow ( 1))]), (1, .row 5 (Kd.int IntKind.u8))] }
def B77_1 (x0 : ByteArray) (x2 : List ByteArray) (x3 : Int) (x4 : Int) (h0_u : Bool) (h1 : List Int) : Tr (p77_1.T ⊕ (Bool × List Int)) :=
 Tr.ite (decide (x4 < x3)) (Tr.ite (inB x4 (List.length x2)) (Tr.ite (decide (List.length h1 + ByteArray.size x0 ≤ (140737488355328 : Nat))) (Tr.ite (decide (List.length (List.append h1 (bytesL x0)) + ByteArray.size (rget Kd.str x2 x4) ≤ (140737488355328 : Nat))) (Tr.ret (Sum.inl ((x0, x2, x3, IntKind.wrap IntKind.i64 (x4 + (1 : Int)), ()), (true, ()), List.append (List.append h1 (bytesL x0)) (bytesL (rget Kd.str x2 x4)), ()))) Tr.fail) Tr.fail) Tr.fail) (Tr.ret (Sum.inr (h0_u, h1)))
def X77_1 (r : (Bool × List Int)) : Ex × VS := Prod.mk (Ex.exit ( 3)) { n := 75, v := [Slot.av (AV.one (Leaf.ptr ( 0) ( 0)))], h := [( 0, Blk.tb ( 143) r.fst [Leaf.srow ( 1)]), ( 1, Blk.row ( 5) (Kd.int IntKind.u8) r.snd)] }
def b77_1 : p77_1.T → Tr (p77_1.T ⊕ (Bool × List Int)) := fun ⟨⟨x0, ⟨x2, ⟨x3, ⟨x4, _⟩⟩⟩⟩, ⟨⟨h0_u, _⟩, ⟨h1, _⟩⟩⟩ => B77_1 x0 x2 x3 x4 h0_u h1
theorem h77_1 (ls : Nat → VS → Option (Tr (Ex × VS))) (x : p77_1.T) : (evC (evI 2) (lc Tryd.f77 1) (Env.lend (N77 ls) 0) (unV (live77 22) (p77_1.V x))).map (decL 0 (live77 22) (live77 1022)) = (b77_1 x).map (encR p77_1.V X77_1) := by
  obtain ⟨⟨x0, ⟨x2, ⟨x3, ⟨x4, _⟩⟩⟩⟩, ⟨⟨h0_u, _⟩, ⟨h1, _⟩⟩⟩ := x; kernel_rfl
theorem c77_1 (x : p77_1.T) : canV 0 (live77 22) (unV (live77 22) (p77_1.V x)) = p77_1.V x := by
  obtain ⟨⟨x0, ⟨x2, ⟨x3, ⟨x4, _⟩⟩⟩⟩, ⟨⟨h0_u, _⟩, ⟨h1, _⟩⟩⟩ := x; kernel_rfl
theorem l77_1 {T : p77_1.T → Tr (Bool × List Int)} {ls : Nat → VS → Option (Tr (Ex × VS))} (hls : ∀ x, (Env.lend (N77 ls) 0).ls 22 x = p77_1.ls (fun a => (T a).map X77_1) x) (hS : ∀ x r, (T x).val = some r → Rounds b77_1 x r) : LoopOK (evI 2) (Env.lend (N77 ls) 0) (lc Tryd.f77 1) :=
  loopA 22 (live77 22) (live77 1022) p77_1 b77_1 X77_1 T (by kernel_rfl) rfl rfl hls (h77_1 ls) c77_1 hS
theorem sumS_cons (y : ByteArray) (l : List ByteArray) : U.sumS (y :: l) = y.size + U.sumS l := rfl
def T77_1 (x : p77_1.T) : Tr (Bool × List Int) :=
  match x with
  | ⟨⟨sep, l, n, i, _⟩, ⟨u, _⟩, bs, _⟩ => .ite (decide ((n : Int) = (List.length (α := ByteArray) l : Int) ∧ (i : Int) = 0 ∧ List.length (α := ByteArray) l ≤ 1048576 ∧ List.length (α := Int) bs + (U.sumS l + List.length (α := ByteArray) l * ByteArray.size sep) ≤ 140737488355328))
      (.ret ((u || !decide (List.length (α := ByteArray) l = 0)), List.append (α := Int) bs (List.flatMap (fun y => bytesL sep ++ bytesL y) l))) .fail
abbrev E77 : Env := N77 fun key x => bif Nat.beq key 22 then p77_1.ls (fun a => (T77_1 a).map X77_1) x else none
theorem R77_1 (l : List ByteArray) (sep : ByteArray) (hl : l.length ≤ 1048576) : ∀ (k i : Nat) (u : Bool) (bs : List Int), i + k = l.length → bs.length + (U.sumS (l.drop i) + k * sep.size) ≤ 140737488355328 →
    Rounds b77_1 ((sep, l, (l.length : Int), (i : Int), ()), (u, ()), bs, ()) ((u || !decide (k = 0)), bs ++ (l.drop i).flatMap fun y => bytesL sep ++ bytesL y)
  | 0, i, u, bs, e, _ => by
    have e : i = l.length := by omega
    subst e
    rw [List.drop_length]
    refine .exit ?_
    have c : decide ((l.length : Int) < (l.length : Int)) = false := decide_eq_false (by omega)
    simp only [b77_1, B77_1, Tr.val, c, cond_false]
    simp
  | k + 1, i, u, bs, e, hb => by
    have hi : i < l.length := by omega
    have e1 : rget .str l (i : Int) = l[i] := by rw [rget_nat]; exact getD_el hi
    rw [List.drop_eq_getElem_cons hi] at hb ⊢
    rw [sumS_cons] at hb
    rw [Nat.add_mul] at hb
    have c1 : decide ((i : Int) < (l.length : Int)) = true := decide_eq_true (by omega)
    have e2 : (List.append bs (bytesL sep)).length = bs.length + sep.size := by rw [← U.bytesL_len sep]; exact List.length_append
    have c2 : decide (bs.length + sep.size ≤ 140737488355328) = true := decide_eq_true (by omega)
    have c3 : decide (bs.length + sep.size + l[i].size ≤ 140737488355328) = true := decide_eq_true (by omega)
    have ih := R77_1 l sep hl k (i + 1) true (bs ++ (bytesL sep ++ bytesL l[i])) (by omega) (by rw [List.length_append, List.length_append, U.bytesL_len, U.bytesL_len]; omega)
    rw [List.append_assoc, ← List.flatMap_cons (f := fun y => bytesL sep ++ bytesL y), Bool.true_or] at ih
    rw [show (u || !decide (k + 1 = 0)) = true by simp]
    refine .step ?_ ih
    simp only [b77_1, B77_1, Tr.val, e1, e2, c1, c2, c3, inB_nat hi, cond_true, wrap64_nat (show i ≤ 1048576 by omega)]
    rw [← List.append_assoc bs]
    rfl
theorem L77_1 : LoopOK (evI 2) (E77.lend 0) (lc Tryd.f77 1) := by
  refine l77_1 (T := T77_1) (fun x => rfl) ?_
  rintro ⟨⟨sep, l, n, i, z⟩, ⟨u, z1⟩, bs, z2⟩ r hh
  obtain ⟨g1, g2⟩ := pre_val hh
  have g1 : (n : Int) = (l.length : Int) ∧ (i : Int) = 0 ∧ l.length ≤ 1048576 ∧ bs.length + (U.sumS l + l.length * sep.size) ≤ 140737488355328 := of_decide_eq_true g1
  obtain ⟨rfl, rfl, h2, h3⟩ := g1
  cases g2
  have := R77_1 l sep h2 l.length 0 u bs (by omega) (by rw [List.drop_zero]; exact h3)
  rw [List.drop_zero] at this
  exact this
def d77 (a : List ByteArray) (b : ByteArray) : Tr (ByteArray) :=
 let v1 : Int := ((↑(List.length a) : Int))
 let v2 : Int := ((↑(List.length a) : Int))
 let v3 : Bool := (inB (0 : Int) (List.length a))
 let v4 : List ByteArray := (sub a (1 : Nat) (List.length a))
 let v5 : List Int := (List.append [] (bytesL (rget Kd.str a (0 : Int))))
 let v6 : Int := ((↑(List.length v4) : Int))
 let v7 : Int := ((↑(List.length v4) : Int))
 let v8 : Int := (IntKind.wrap IntKind.i64 (v2 - (1 : Int)))
 let v9 : Int := (IntKind.wrap IntKind.i64 (Int.tdiv (9223372036854775807 : Int) v8))
 let v10 : Int := (IntKind.wrap IntKind.i64 ((0 : Int) + IntKind.wrap IntKind.i64 ((↑(ByteArray.size b) : Int) * v8)))
 Tr.ite (decide (v2 = (0 : Int))) (Tr.ret { data := #[] }) (Tr.ite (decide (v2 = (1 : Int))) (Tr.ite v3 (Tr.ret (rget Kd.str a (0 : Int))) Tr.fail) (Tr.ite (decide ((0 : Int) < (↑(ByteArray.size b) : Int))) (Tr.ite (!decide (v8 = (0 : Int))) (Tr.ite (decide (v9 ≤ (↑(ByteArray.size b) : Int))) Tr.fail (Tr.ite (decide ((0 : Int) ≤ v10 ∧ v2 = v1 ∧ (0 : Int) = (0 : Int) ∧ List.length a ≤ (1048576 : Nat) ∧ v10 + (↑(U.sumS a) : Int) ≤ (140737488355328 : Int))) (Tr.ite (decide ((1 : Int) ≤ v10 + (↑(U.sumS a) : Int) ∧ v10 + (↑(U.sumS a) : Int) ≤ (140737488355328 : Int))) (Tr.ite v3 (Tr.ite (decide ((0 : Nat) + ByteArray.size (rget Kd.str a (0 : Int)) ≤ (140737488355328 : Nat))) (Tr.ite (decide ((0 : Int) ≤ (1 : Int) ∧ (1 : Int) ≤ v2)) (Tr.ite (decide (v7 = v6 ∧ (0 : Int) = (0 : Int) ∧ List.length v4 ≤ (1048576 : Nat) ∧ List.length v5 + (U.sumS v4 + List.length v4 * ByteArray.size b) ≤ (140737488355328 : Nat))) (Tr.ret (strOf (List.append v5 (List.flatMap (fun (y : ByteArray) => bytesL b ++ bytesL y) v4)))) Tr.fail) Tr.fail) Tr.fail) Tr.fail) Tr.fail) Tr.fail)) Tr.fail) (Tr.ite (decide ((0 : Int) ≤ (0 : Int) ∧ v2 = v1 ∧ (0 : Int) = (0 : Int) ∧ List.length a ≤ (1048576 : Nat) ∧ (0 : Int) + (↑(U.sumS a) : Int) ≤ (140737488355328 : Int))) (Tr.ite (decide ((1 : Int) ≤ (0 : Int) + (↑(U.sumS a) : Int) ∧ (0 : Int) + (↑(U.sumS a) : Int) ≤ (140737488355328 : Int))) (Tr.ite v3 (Tr.ite (decide ((0 : Nat) + ByteArray.size (rget Kd.str a (0 : Int)) ≤ (140737488355328 : Nat))) (Tr.ite (decide ((0 : Int) ≤ (1 : Int) ∧ (1 : Int) ≤ v2)) (Tr.ite (decide (v7 = v6 ∧ (0 : Int) = (0 : Int) ∧ List.length v4 ≤ (1048576 : Nat) ∧ List.length v5 + (U.sumS v4 + List.length v4 * ByteArray.size b) ≤ (140737488355328 : Nat))) (Tr.ret (strOf (List.append v5 (List.flatMap (fun (y : ByteArray) => bytesL b ++ bytesL y) v4)))) Tr.fail) Tr.fail) Tr.fail) Tr.fail) Tr.fail) Tr.fail)))
def e77 (r : ByteArray) : FRes := { rs := Slot.av (AV.one (Leaf.dat Kd.str r)), upd := [], new := [] }
@[reducible] def a77 : List AK := [AK.d (Kd.sl Kd.str), AK.d Kd.str]
@[reducible] def b77 : List BK := []
theorem t77 (a : List ByteArray) (b : ByteArray) : evFn (E77) Tryd.f77 [PM.data Kd.str] (akAV a77 (a, b, ())) (bkBs b77 ()) = (d77 a b).map e77 := by kernel_rfl
def s77 (C : akT a77 → Bool) (G : akT a77 → ByteArray) : FSpec := aspec a77 b77 e77 (fun x _ => C x) (fun x _ => G x)
theorem k77 {C : akT a77 → Bool} {G : akT a77 → ByteArray} (hd : ∀ (a : List ByteArray) (b : ByteArray), C (a, b, ()) = true → (d77 a b).val = some (G (a, b, ()))) (IO : ItOK Tryd.prog (E77) := by exact itOK_none rfl) (L : ∀ c, Tryd.f77.body = some c → LsOK (evI 2) ((E77).lend 0) c := by exact fun c _ => LsOK_none rfl c) : SpecOK Tryd.prog E0 77 (s77 C G) :=
  aspec_ok (ak := a77) (bl := b77) (e := e77) (c := fun x _ => C x) (g := fun x _ => G x) (E0 := E0) (E := E77) tab AG77 rfl rfl hm Tryd.func77 (by kernel_rfl) [PM.data Kd.str] (fun X Y H => by obtain ⟨a, ⟨b, _⟩⟩ := X; exact val_of (t77 a b) (hd a b H)) IO L
abbrev w77 : FSpec := s77 (fun x => decide (1 ≤ ByteArray.size x.2.1 ∧ ByteArray.size x.2.1 ≤ 1048576 ∧ List.length (α := ByteArray) x.1 ≤ 1048576 ∧ U.sumS x.1 + List.length (α := ByteArray) x.1 * ByteArray.size x.2.1 ≤ 140737488355328)) fun x => strOf (U.joinI x.2.1 x.1)
theorem wk77 : SpecOK Tryd.prog E0 77 w77 := by
  refine k77 (fun l sep H => ?_) (L := ls_ok (lcs := [lc Tryd.f77 0, lc Tryd.f77 1]) (rgs := []) (by kernel_rfl) (by kernel_rfl) ⟨L77_0, L77_1⟩ trivial)
  have H : 1 ≤ sep.size ∧ sep.size ≤ 1048576 ∧ l.length ≤ 1048576 ∧ U.sumS l + l.length * sep.size ≤ 140737488355328 := of_decide_eq_true H
  obtain ⟨h1, h2, h3, h4⟩ := H
  show _ = some (strOf (U.joinI sep l))
  match l, h3, h4 with
  | [], _, _ => rfl
  | [x], _, _ =>
    show some x = some (strOf (bytesL x ++ []))
    rw [List.append_nil, U.strOf_bytes]
  | x :: y :: r, h3, h4 =>
    generalize hl : y :: r = r' at *
    have hr : 1 ≤ r'.length := by rw [← hl]; simp
    rw [List.length_cons] at h3
    rw [sumS_cons, List.length_cons, Nat.add_mul, Nat.one_mul] at h4
    have k0 : ((x :: r').length : Int) = ((r'.length + 1 : Nat) : Int) := rfl
    have k1 : IntKind.i64.wrap (((r'.length + 1 : Nat) : Int) - 1) = ((r'.length : Nat) : Int) := by rw [Go.Ev.w64 (by omega) (by omega)]; omega
    have k2 : decide (((r'.length + 1 : Nat) : Int) = 0) = false := decide_eq_false (by omega)
    have k3 : decide (((r'.length + 1 : Nat) : Int) = 1) = false := decide_eq_false (by omega)
    have k4 : decide ((0 : Int) < (sep.size : Int)) = true := decide_eq_true (by omega)
    have k5 : decide (((r'.length : Nat) : Int) = 0) = false := decide_eq_false (by omega)
    have q0 : Int.tdiv 9223372036854775807 ((r'.length : Nat) : Int) = 9223372036854775807 / ((r'.length : Nat) : Int) := Int.tdiv_eq_ediv_of_nonneg (by decide)
    have q1 : 1048577 ≤ (9223372036854775807 : Int) / ((r'.length : Nat) : Int) := Int.le_ediv_of_mul_le (by omega) (by omega)
    have q2 : (9223372036854775807 : Int) / ((r'.length : Nat) : Int) ≤ 9223372036854775807 := Int.ediv_le_self _ (by decide)
    have k6 : decide (IntKind.i64.wrap (Int.tdiv 9223372036854775807 ((r'.length : Nat) : Int)) ≤ (sep.size : Int)) = false := by
      rw [q0, Go.Ev.w64 (by omega) q2]
      exact decide_eq_false (by omega)
    have k7 : (sep.size : Int) * ((r'.length : Nat) : Int) = ((r'.length * sep.size : Nat) : Int) := by rw [Nat.mul_comm]; exact (Int.natCast_mul _ _).symm
    generalize hp : r'.length * sep.size = p at *
    have k8 : IntKind.i64.wrap ((0 : Int) + IntKind.i64.wrap ((p : Nat) : Int)) = ((p : Nat) : Int) := by
      rw [Go.Ev.w64 (n := ((p : Nat) : Int)) (by omega) (by omega), Int.zero_add, Go.Ev.w64 (by omega) (by omega)]
    have hp1 : 1 ≤ p := by rw [← hp]; exact Nat.mul_le_mul hr h1
    have e1 : rget .str (x :: r') (0 : Int) = x := rfl
    have e2 : sub (x :: r') 1 (r'.length + 1) = r' := by
      unfold sub
      rw [List.take_of_length_le (by simp)]
      rfl
    have e3 : (List.append ([] : List Int) (bytesL x)).length = x.size := U.bytesL_len x
    have e4 : inB (0 : Int) (r'.length + 1) = true := inB_nat (i := 0) (by omega)
    have c1 : decide ((0 : Int) ≤ ((p : Nat) : Int) ∧ ((r'.length + 1 : Nat) : Int) = ((r'.length + 1 : Nat) : Int) ∧ (0 : Int) = 0 ∧ r'.length + 1 ≤ 1048576 ∧ ((p : Nat) : Int) + ((x.size + U.sumS r' : Nat) : Int) ≤ 140737488355328) = true := decide_eq_true (by omega)
    have c2 : decide ((1 : Int) ≤ ((p : Nat) : Int) + ((x.size + U.sumS r' : Nat) : Int) ∧ ((p : Nat) : Int) + ((x.size + U.sumS r' : Nat) : Int) ≤ 140737488355328) = true := decide_eq_true (by omega)
    have c3 : decide (0 + x.size ≤ 140737488355328) = true := decide_eq_true (by omega)
    have c4 : decide ((0 : Int) ≤ 1 ∧ (1 : Int) ≤ ((r'.length + 1 : Nat) : Int)) = true := decide_eq_true (by omega)
    have c5 : decide (((r'.length : Nat) : Int) = ((r'.length : Nat) : Int) ∧ (0 : Int) = 0 ∧ r'.length ≤ 1048576 ∧ x.size + (U.sumS r' + p) ≤ 140737488355328) = true := decide_eq_true (by omega)
    simp only [d77, Tr.val, List.length_cons, sumS_cons, k1, k2, k3, k4, k5, k6, k7, k8, e1, e2, e3, e4, hp, c1, c2, c3, c4, c5, Bool.not_false, cond_true, cond_false]
    have a1 : (0 : Int) ≤ ((p : Nat) : Int) := by omega
    have a2 : r'.length + 1 ≤ 1048576 := by omega
    have a3 : ((p : Nat) : Int) + ((x.size + U.sumS r' : Nat) : Int) ≤ 140737488355328 := by omega
    have a4 : r'.length ≤ 1048576 := by omega
    have a5 : x.size + (U.sumS r' + p) ≤ 140737488355328 := by omega
    simp only [a1, a2, a3, a4, a5, and_self, decide_true, cond_true]
    rfl
end Go.Proofs.YtdlbnlbajnafdaaDoor
end
section
set_option linter.unusedVariables false
set_option linter.unusedSimpArgs false
set_option maxRecDepth 20000
set_option maxHeartbeats 4000000
open Go Go.Ev
namespace U
open Go.Proofs.YtdlbnlbajnafdaaDoor
theorem strOf_size (l : List Int) : (strOf l).size = l.length := by
  show ((strOf l).data).size = _
  simp [strOf]
end U
end
section
set_option linter.unusedVariables false
set_option linter.unusedSimpArgs false
set_option maxRecDepth 20000
set_option maxHeartbeats 4000000
open Go Go.Ev
namespace Go.Ev
def filtI {α : Type} (q : Nat → Bool) : List α → Nat → List α
  | [], _ => []
  | x :: l, i => bif q i then x :: filtI q l (i + 1) else filtI q l (i + 1)
theorem Rounds.filtA {α ρ τ : Type} {B : τ → Tr (τ ⊕ ρ)} (xs : List α) (st : Nat → List α → τ) (q : Nat → Bool) (fin : List α → ρ) (N : Nat)
    (hs : ∀ i s (h : i < xs.length), s.length + (xs.length - i) ≤ N → (B (st i s)).val = some (.inl (st (i + 1) (bif q i then s ++ [xs[i]] else s)))) (he : ∀ s, (B (st xs.length s)).val = some (.inr (fin s))) :
    ∀ (k i : Nat) (s : List α), i + k = xs.length → s.length + k ≤ N → Rounds B (st i s) (fin (s ++ filtI q (xs.drop i) i))
  | 0, i, s, e, h => by
    have : i = xs.length := by omega
    subst this
    rw [List.drop_length]
    show Rounds B (st xs.length s) (fin (s ++ []))
    rw [List.append_nil]
    exact .exit (he s)
  | k + 1, i, s, e, h => by
    have hi : i < xs.length := by omega
    have h1 := hs i s hi (by omega)
    rw [List.drop_eq_getElem_cons hi]
    unfold filtI
    cases hq : q i with
    | true =>
      rw [hq] at h1
      have ih := Rounds.filtA xs st q fin N hs he k (i + 1) (s ++ [xs[i]]) (by omega) (by rw [List.length_append, List.length_singleton]; omega)
      rw [List.append_assoc, List.singleton_append] at ih
      exact .step h1 ih
    | false =>
      rw [hq] at h1
      exact .step h1 (Rounds.filtA xs st q fin N hs he k (i + 1) s (by omega) (by omega))
end Go.Ev
namespace U
open Go.Proofs.YtdlbnlbajnafdaaDoor
theorem join_snoc (sep y : ByteArray) (x : ByteArray) (r : List ByteArray) : strOf (joinI sep ((x :: r) ++ [y])) = strOf (joinI sep (x :: r)) ++ sep ++ y := by
  show strOf (bytesL x ++ (r ++ [y]).flatMap fun y => bytesL sep ++ bytesL y) = strOf (bytesL x ++ r.flatMap fun y => bytesL sep ++ bytesL y) ++ sep ++ y
  rw [List.flatMap_append, ← List.append_assoc, strOf_app (bytesL x ++ _)]
  rw [show List.flatMap (fun y => bytesL sep ++ bytesL y) [y] = bytesL sep ++ bytesL y by simp, strOf_app (bytesL sep), strOf_bytes, strOf_bytes, ByteArray.append_assoc]
theorem join_one (sep y : ByteArray) : strOf (joinI sep [y]) = y := by
  show strOf (bytesL y ++ []) = y
  rw [List.append_nil, strOf_bytes]
end U
end
section
set_option maxRecDepth 100000
namespace Go.Proofs.YtdlbnlbajnafdaaDoor
open Go.Ev
def laysRen : Go.Shelf.Ren := ⟨fun | 171 => 51 | 243 => 109 | 246 => 160 | 283 => 186 | 284 => 187 | 285 => 188 | 286 => 189 | 129 => 202 | 317 => 201 | 318 => 203 | 319 => 204 | 320 => 205 | 337 => 215 | 338 => 216 | n => n, fun | 3 => 3 | 9 => 9 | 2 => 2 | 4 => 4 | 171 => 228 | 0 => 0 | 53 => 193 | 37 => 96 | 5 => 5 | 173 => 231 | 212 => 241 | 51 => 190 | 20 => 20 | 213 => 242 | 46 => 138 | 232 => 258 | 233 => 259 | n => n, fun | 17 => 5 | 18 => 8 | 19 => 9 | n => n⟩
theorem laysItoa : Go.Proofs.LaysM.n171 Tryd.prog laysRen where
  mixed := by kernel_rfl
  f129 := Tryd.func202.trans (congrArg some (by kernel_rfl))
  f171 := Tryd.func51.trans (congrArg some (by kernel_rfl))
  f243 := Tryd.func109.trans (congrArg some (by kernel_rfl))
  f246 := Tryd.func160.trans (congrArg some (by kernel_rfl))
  f283 := Tryd.func186.trans (congrArg some (by kernel_rfl))
  f284 := Tryd.func187.trans (congrArg some (by kernel_rfl))
  f285 := Tryd.func188.trans (congrArg some (by kernel_rfl))
  f286 := Tryd.func189.trans (congrArg some (by kernel_rfl))
  f317 := Tryd.func201.trans (congrArg some (by kernel_rfl))
  f318 := Tryd.func203.trans (congrArg some (by kernel_rfl))
  f319 := Tryd.func204.trans (congrArg some (by kernel_rfl))
  f320 := Tryd.func205.trans (congrArg some (by kernel_rfl))
  f337 := Tryd.func215.trans (congrArg some (by kernel_rfl))
  f338 := Tryd.func216.trans (congrArg some (by kernel_rfl))
  t0 := Tryd.underlying0
  a0 := Tryd.isAgg0
  z0 := Tryd.sizeOf0
  v0 := Tryd.zeroValue0
  t2 := Tryd.underlying2
  a2 := Tryd.isAgg2
  z2 := Tryd.sizeOf2
  v2 := Tryd.zeroValue2
  t3 := Tryd.underlying3
  a3 := Tryd.isAgg3
  z3 := Tryd.sizeOf3
  v3 := Tryd.zeroValue3
  t4 := Tryd.underlying4
  a4 := Tryd.isAgg4
  z4 := Tryd.sizeOf4
  v4 := Tryd.zeroValue4
  t5 := Tryd.underlying5
  a5 := Tryd.isAgg5
  z5 := Tryd.sizeOf5
  v5 := Tryd.zeroValue5
  t9 := Tryd.underlying9
  a9 := Tryd.isAgg9
  z9 := Tryd.sizeOf9
  v9 := Tryd.zeroValue9
  t20 := Tryd.underlying20
  a20 := Tryd.isAgg20
  z20 := Tryd.sizeOf20
  v20 := Tryd.zeroValue20
  t37 := Tryd.underlying96
  a37 := Tryd.isAgg96
  z37 := Tryd.sizeOf96
  v37 := Tryd.zeroValue96
  t46 := Tryd.underlying138
  a46 := Tryd.isAgg138
  z46 := Tryd.sizeOf138
  v46 := Tryd.zeroValue138
  t51 := Tryd.underlying190
  a51 := Tryd.isAgg190
  z51 := Tryd.sizeOf190
  v51 := Tryd.zeroValue190
  t53 := Tryd.underlying193
  a53 := Tryd.isAgg193
  z53 := Tryd.sizeOf193
  v53 := Tryd.zeroValue193
  t171 := Tryd.underlying228
  a171 := Tryd.isAgg228
  z171 := Tryd.sizeOf228
  v171 := Tryd.zeroValue228
  t173 := Tryd.underlying231
  a173 := Tryd.isAgg231
  z173 := Tryd.sizeOf231
  v173 := Tryd.zeroValue231
  t212 := Tryd.underlying241
  a212 := Tryd.isAgg241
  z212 := Tryd.sizeOf241
  v212 := Tryd.zeroValue241
  t213 := Tryd.underlying242
  a213 := Tryd.isAgg242
  z213 := Tryd.sizeOf242
  t232 := Tryd.underlying258
  a232 := Tryd.isAgg258
  z232 := Tryd.sizeOf258
  v232 := Tryd.zeroValue258
  t233 := Tryd.underlying259
  a233 := Tryd.isAgg259
  z233 := Tryd.sizeOf259
  v233 := Tryd.zeroValue259
  g17 := by kernel_rfl
  g18 := by kernel_rfl
  g19 := by kernel_rfl
  i0 := by kernel_rfl
  i2 := by kernel_rfl
  i3 := by kernel_rfl
  i4 := by kernel_rfl
  i5 := by kernel_rfl
  i9 := by kernel_rfl
  i20 := by kernel_rfl
  i37 := by kernel_rfl
  i46 := by kernel_rfl
  i51 := by kernel_rfl
  i53 := by kernel_rfl
  i171 := by kernel_rfl
  i173 := by kernel_rfl
  i212 := by kernel_rfl
  i232 := by kernel_rfl
  i233 := by kernel_rfl
  m17 := by kernel_rfl
  m18 := by kernel_rfl
  m19 := by kernel_rfl
theorem pow10_eq : Go.Lib.pow10Tab = U.pow10L := by kernel_rfl
theorem wk51 : SpecOK Tryd.prog E0 51 itoaS :=
  itoa_ok (ρ := laysRen) laysItoa (g := 5) (by rw [pow10_eq]; kernel_rfl) (by kernel_rfl) (Go.Proofs.enters_of laysItoa.f171 (by kernel_rfl) rfl) rfl
end Go.Proofs.YtdlbnlbajnafdaaDoor
end
section
set_option linter.unusedVariables false
set_option linter.unusedSimpArgs false
set_option maxRecDepth 20000
set_option maxHeartbeats 4000000
open Go Go.Ev
namespace U
abbrev At := Int × Int × Int × Unit
def look0 : At := (0, 0, 0, ())
def plC (look : At) (c : Cl) : Cl := bif decide (c.2.1 = 0) then (c.1, c.2.1, look, ()) else bif decide (c.2.1 = 1) && decide (c.1 = (⟨#[]⟩ : ByteArray)) then blank c.2.2.1 else c
def plR (look : At) : List Cl → List Cl
  | [] => []
  | c :: l => plC look c :: plR (plC look c).2.2.1 l
theorem mend_first {l : List Cl} (h : 0 < l.length) : cw (mend l) 0 ≠ 0 := by
  have h1 := mend_whole l 0 (by rw [mend_len]; exact h)
  intro h0
  unfold whole at h1
  rw [h0] at h1
  simp at h1
def isB (c : Cl) : Bool := decide (c.1 = (⟨#[]⟩ : ByteArray)) && decide (c.2.1 = 1)
def alike (c : Cl) : List Cl → Nat
  | [] => 0
  | x :: l => bif eqC x c then alike c l + 1 else 0
theorem alike_le (c : Cl) : ∀ l, alike c l ≤ l.length
  | [] => Nat.le_refl _
  | x :: l => by
    unfold alike
    cases eqC x c
    · exact Nat.zero_le _
    · exact Nat.succ_le_succ (alike_le c l)
def flagsL (f : Int) : List Int := filtI (fun i => decide (f.toNat / 2 ^ i % 2 = 1)) [1, 2, 3, 4, 5, 7, 8, 9] 0
def askL (a : At) : List Int := 0 :: (flagsL a.2.2.1 ++ ((bif decide ((0 : Int) < a.1) then [38, 5, a.1 - 1] else []) ++ (bif decide ((0 : Int) < a.2.1) then [48, 5, a.2.1 - 1] else [])))
def smiS : ByteArray := ⟨#[59]⟩
def escS : ByteArray := ⟨#[27, 91]⟩
def mS : ByteArray := ⟨#[109]⟩
def xS : ByteArray := ⟨#[88]⟩
def cS : ByteArray := ⟨#[67]⟩
def seqS (e : ByteArray) (l : List Int) : ByteArray := escS ++ strOf (joinI smiS (l.map itoaB)) ++ e
def askS (a : At) : ByteArray := seqS mS (askL a)
def rowB : Nat → Bool → At → List Cl → List Int
  | 0, _, _, _ => []
  | _ + 1, _, _, [] => []
  | k + 1, fst, look, c :: t =>
    bif isB c then
      bytesL (askS c.2.2.1 ++ seqS xS [((alike c t + 1 : Nat) : Int)]) ++ ((bif decide (alike c t < t.length) then bytesL (seqS cS [((alike c t + 1 : Nat) : Int)]) else []) ++ rowB k false c.2.2.1 (t.drop (alike c t)))
    else bif decide ((0 : Int) < c.2.1) then
      (bif fst || !decide (look = c.2.2.1) then bytesL (askS c.2.2.1) else []) ++ (bytesL c.1 ++ rowB k false c.2.2.1 t)
    else rowB k false look t
def rowS (l : List Cl) : ByteArray := strOf (rowB l.length true look0 l)
end U
namespace Go.Proofs.YtdlbnlbajnafdaaDoor
open Go.RowKit
def d38 (a : Int) (b : Int) (c : Int) : Tr (Bool) :=
 Tr.ite (decide (b ≤ a)) (Tr.ret (decide (a ≤ c))) (Tr.ret false)
def e38 (r : Bool) : FRes := { rs := Slot.av (AV.one (Leaf.dat Kd.bool r)), upd := [], new := [] }
@[reducible] def a38 : List AK := [AK.d (.int .i64), AK.d (.int .i64), AK.d (.int .i64)]
@[reducible] def b38 : List BK := []
theorem t38 (a : Int) (b : Int) (c : Int) : evFn (E0) Tryd.f38 [PM.data Kd.bool] (akAV a38 (a, b, c, ())) (bkBs b38 ()) = (d38 a b c).map e38 := by kernel_rfl
def s38' (G : akT a38 → Bool) : FSpec := aspec0 a38 b38 e38 (fun x _ => G x)
theorem k38' {G : akT a38 → Bool} (hd : ∀ (a : Int) (b : Int) (c : Int), (d38 a b c).val = some (G (a, b, c, ()))) (IO : ItOK Tryd.prog (E0) := by exact itOK_none rfl) (L : ∀ c, Tryd.f38.body = some c → LsOK (evI 2) ((E0).lend 0) c := by exact fun c _ => LsOK_none rfl c) : SpecOK Tryd.prog E0 38 (s38' G) :=
  aspec0_ok (ak := a38) (bl := b38) (e := e38) (g := fun x _ => G x) (E0 := E0) (E := E0) tab .nil rfl rfl hm Tryd.func38 (by kernel_rfl) [PM.data Kd.bool] (fun X Y => by obtain ⟨a, ⟨b, ⟨c, _⟩⟩⟩ := X; exact val_of (t38 a b c) (hd a b c)) IO L
abbrev w38 : FSpec := s38' fun x => U.inn x.1 x.2.1 x.2.2.1
theorem wk38 : SpecOK Tryd.prog E0 38 w38 := by
  refine k38' fun a b c => ?_
  show _ = some (U.inn a b c)
  unfold U.inn
  by_cases h : b ≤ a <;> simp [d38, Tr.val, h]
def d97 (a1 : ByteArray) (a2 : Int) (a31 : Int) (a32 : Int) (a33 : Int) : Tr (Bool) :=
 Tr.ite (decide (a1 = { data := #[] })) (Tr.ret (decide (a2 = (1 : Int)))) (Tr.ret false)
def e97 (r : Bool) : FRes := { rs := Slot.av (AV.one (Leaf.dat Kd.bool r)), upd := [], new := [] }
@[reducible] def a97 : List AK := [AK.d celk]
@[reducible] def b97 : List BK := []
theorem t97 (a1 : ByteArray) (a2 : Int) (a31 : Int) (a32 : Int) (a33 : Int) : evFn (E0) Tryd.f97 [PM.data Kd.bool] (akAV a97 ((a1, a2, (a31, a32, a33, ()), ()), ())) (bkBs b97 ()) = (d97 a1 a2 a31 a32 a33).map e97 := by kernel_rfl
def s97' (G : akT a97 → Bool) : FSpec := aspec0 a97 b97 e97 (fun x _ => G x)
theorem k97' {G : akT a97 → Bool} (hd : ∀ (a1 : ByteArray) (a2 : Int) (a31 : Int) (a32 : Int) (a33 : Int), (d97 a1 a2 a31 a32 a33).val = some (G ((a1, a2, (a31, a32, a33, ()), ()), ()))) (IO : ItOK Tryd.prog (E0) := by exact itOK_none rfl) (L : ∀ c, Tryd.f97.body = some c → LsOK (evI 2) ((E0).lend 0) c := by exact fun c _ => LsOK_none rfl c) : SpecOK Tryd.prog E0 97 (s97' G) :=
  aspec0_ok (ak := a97) (bl := b97) (e := e97) (g := fun x _ => G x) (E0 := E0) (E := E0) tab .nil rfl rfl hm Tryd.func97 (by kernel_rfl) [PM.data Kd.bool] (fun X Y => by obtain ⟨⟨a1, ⟨a2, ⟨⟨a31, ⟨a32, ⟨a33, _⟩⟩⟩, _⟩⟩⟩, _⟩ := X; exact val_of (t97 a1 a2 a31 a32 a33) (hd a1 a2 a31 a32 a33)) IO L
abbrev w97 : FSpec := s97' fun x => U.isB x.1
theorem wk97 : SpecOK Tryd.prog E0 97 w97 := by
  refine k97' fun a b c d e => ?_
  show _ = some (U.isB (a, b, (c, d, e, ()), ()))
  unfold U.isB
  by_cases h : a = (⟨#[]⟩ : ByteArray) <;> simp [d97, Tr.val, h]
def d182 : Tr (List Int) :=
 Tr.ret [(1 : Int), (2 : Int), (3 : Int), (4 : Int), (5 : Int), (7 : Int), (8 : Int), (9 : Int)]
def e182 (r : List Int) : FRes := { rs := Slot.av (AV.one (Leaf.dat (Kd.sl (.int .i64)) r)), upd := [], new := [] }
@[reducible] def a182 : List AK := []
@[reducible] def b182 : List BK := []
theorem t182 : evFn (E0) Tryd.f182 [PM.data (Kd.sl (.int .i64))] (akAV a182 ()) (bkBs b182 ()) = (d182).map e182 := by kernel_rfl
def s182' (G : akT a182 → List Int) : FSpec := aspec0 a182 b182 e182 (fun x _ => G x)
theorem k182' {G : akT a182 → List Int} (hd : (d182).val = some (G ())) (IO : ItOK Tryd.prog (E0) := by exact itOK_none rfl) (L : ∀ c, Tryd.f182.body = some c → LsOK (evI 2) ((E0).lend 0) c := by exact fun c _ => LsOK_none rfl c) : SpecOK Tryd.prog E0 182 (s182' G) :=
  aspec0_ok (ak := a182) (bl := b182) (e := e182) (g := fun x _ => G x) (E0 := E0) (E := E0) tab .nil rfl rfl hm Tryd.func182 (by kernel_rfl) [PM.data (Kd.sl (.int .i64))] (fun X Y => by exact val_of (t182) (hd)) IO L
abbrev w182 : FSpec := s182' fun _ => [1, 2, 3, 4, 5, 7, 8, 9]
theorem wk182 : SpecOK Tryd.prog E0 182 w182 := k182' (by rfl)
def live154 (key : Nat) : Lv :=
  bif Nat.beq key 4 then { ls := [0, 1, 12, 13] } else bif Nat.beq key 1004 then { ls := [4] } else
  { ls := [] }
abbrev M154 (ls : Nat → VS → Option (Tr (Ex × VS))) : Env := (E0.withFns []).loops live154 ls
@[reducible] def p154_0 : LP := { n := 26, sl := [.d (Kd.sl celk), .d (Kd.sl celk), .d (.int .i64), .d (.int .i64)], bl := [] }
def B154_0 (x0 : List Cell) (x1 : List Cell) (x2 : Int) (x3 : Int) : Tr (p154_0.T ⊕ (Unit ⊕ Unit)) :=
 Tr.ite (decide (x3 < x2)) (Tr.ite (inB x3 (List.length x0)) (Tr.ite (inB x3 (List.length x1)) (Tr.ite (!(decide ((rget celk x0 x3).fst = (rget celk x1 x3).fst) && (decide ((rget celk x0 x3).snd.fst = (rget celk x1 x3).snd.fst) && (decide ((rget celk x0 x3).snd.snd.fst.fst = (rget celk x1 x3).snd.snd.fst.fst) && (decide ((rget celk x0 x3).snd.snd.fst.snd.fst = (rget celk x1 x3).snd.snd.fst.snd.fst) && decide ((rget celk x0 x3).snd.snd.fst.snd.snd.fst = (rget celk x1 x3).snd.snd.fst.snd.snd.fst)))))) (Tr.ret (Sum.inr (Sum.inl ()))) (Tr.ret (Sum.inl ((x0, x1, x2, IntKind.wrap IntKind.i64 (x3 + (1 : Int)), ()), ())))) Tr.fail) Tr.fail) (Tr.ret (Sum.inr (Sum.inr ())))
def X154_0 : (Unit ⊕ Unit) → Ex × VS
  | (.inl r) => Prod.mk Ex.ret { n := 26, v := [Slot.av (AV.one (Leaf.kb false))], h := [] }
  | (.inr r) => Prod.mk (Ex.exit ( 0)) { n := 26, v := [Slot.av (AV.one Leaf.undef)], h := [] }
def b154_0 : p154_0.T → Tr (p154_0.T ⊕ (Unit ⊕ Unit)) := fun ⟨⟨x0, ⟨x1, ⟨x2, ⟨x3, _⟩⟩⟩⟩, _⟩ => B154_0 x0 x1 x2 x3
theorem h154_0 (ls : Nat → VS → Option (Tr (Ex × VS))) (x : p154_0.T) : (evC (evI 2) (lc Tryd.f154 0) (Env.lend (M154 ls) 0) (unV (live154 4) (p154_0.V x))).map (decL 0 (live154 4) (live154 1004)) = (b154_0 x).map (encR p154_0.V X154_0) := by
  obtain ⟨⟨x0, ⟨x1, ⟨x2, ⟨x3, _⟩⟩⟩⟩, _⟩ := x; kernel_rfl
theorem c154_0 (x : p154_0.T) : canV 0 (live154 4) (unV (live154 4) (p154_0.V x)) = p154_0.V x := by
  obtain ⟨⟨x0, ⟨x1, ⟨x2, ⟨x3, _⟩⟩⟩⟩, _⟩ := x; kernel_rfl
theorem l154_0 {T : p154_0.T → Tr (Unit ⊕ Unit)} {ls : Nat → VS → Option (Tr (Ex × VS))} (hls : ∀ x, (Env.lend (M154 ls) 0).ls 4 x = p154_0.ls (fun a => (T a).map X154_0) x) (hS : ∀ x r, (T x).val = some r → Rounds b154_0 x r) : LoopOK (evI 2) (Env.lend (M154 ls) 0) (lc Tryd.f154 0) :=
  loopA 4 (live154 4) (live154 1004) p154_0 b154_0 X154_0 T (by kernel_rfl) rfl rfl hls (h154_0 ls) c154_0 hS
def T154 (x : p154_0.T) : Tr (Unit ⊕ Unit) :=
  match x with
  | ⟨⟨l, m, n, i, _⟩, _⟩ => .ite (decide ((n : Int) = (List.length (α := Cell) l : Int) ∧ (i : Int) = 0 ∧ List.length (α := Cell) l = List.length (α := Cell) m ∧ List.length (α := Cell) l ≤ 1048576))
    (.ite (U.eqCs l m) (.ret (.inr ())) (.ret (.inl ()))) .fail
abbrev E154 : Env := M154 fun key x => bif Nat.beq key 4 then p154_0.ls (fun a => (T154 a).map X154_0) x else none
theorem L154 : LoopOK (evI 2) (E154.lend 0) (lc Tryd.f154 0) := by
  refine l154_0 (T := T154) (fun x => rfl) ?_
  rintro ⟨⟨l, m, n, i, z⟩, z3⟩ r h
  obtain ⟨g1, g2⟩ := pre_val h
  have g1 : (n : Int) = (List.length (α := Cell) l : Int) ∧ (i : Int) = 0 ∧ List.length (α := Cell) l = List.length (α := Cell) m ∧ List.length (α := Cell) l ≤ 1048576 := of_decide_eq_true g1
  obtain ⟨e1, e2, e3, e4⟩ := g1
  subst e1; subst e2
  have := Rounds.all (B := b154_0) (N := List.length (α := Cell) l) (fun i => ((l, m, (List.length (α := Cell) l : Int), (i : Int), ()), ())) (fun i => U.eqC (List.getD (α := Cell) l i U.dC) (List.getD (α := Cell) m i U.dC)) (.inl ()) (.inr ()) (fun i hi => ?_) ?_
  · have e : allN (fun i => U.eqC (List.getD (α := Cell) l i U.dC) (List.getD (α := Cell) m i U.dC)) (List.length (α := Cell) l) 0 = U.eqCs l m := by
      unfold U.eqCs
      rw [decide_eq_true e3, Bool.true_and]
    rw [e] at this
    cases hd : U.eqCs l m <;> simp only [hd, Tr.val, cond_true, cond_false] at g2 this <;> cases g2 <;> exact this
  · have i2 : inB (i : Int) (List.length (α := Cell) m) = true := inB_nat (by omega)
    simp only [b154_0, B154_0, Tr.val, inB_nat hi, i2, rgetC, show ((i : Int) < (List.length (α := Cell) l : Int)) by omega, decide_true, cond_true, wrap64_nat (show i ≤ 1048576 by omega)]
    show (bif !(U.eqC (List.getD (α := Cell) l i U.dC) (List.getD (α := Cell) m i U.dC)) then _ else _) = _
    cases U.eqC (List.getD (α := Cell) l i U.dC) (List.getD (α := Cell) m i U.dC) <;> rfl
  · simp only [b154_0, B154_0, Tr.val, show ¬ ((List.length (α := Cell) l : Int) < (List.length (α := Cell) l : Int)) by omega, decide_false, cond_false]
def d154 (a : List Cell) (b : List Cell) : Tr (Bool) :=
 let v1 : Int := ((↑(List.length a) : Int))
 let v2 : Int := ((↑(List.length b) : Int))
 let v3 : Int := ((↑(List.length a) : Int))
 Tr.ite (!decide (v3 = v2)) (Tr.ret false) (Tr.ite (decide (v3 = v1 ∧ (0 : Int) = (0 : Int) ∧ List.length a = List.length b ∧ List.length a ≤ (1048576 : Nat))) (Tr.ite (U.eqCs a b) (Tr.ret true) (Tr.ret false)) Tr.fail)
def e154 (r : Bool) : FRes := { rs := Slot.av (AV.one (Leaf.dat Kd.bool r)), upd := [], new := [] }
@[reducible] def a154 : List AK := [AK.d (Kd.sl celk), AK.d (Kd.sl celk)]
@[reducible] def b154 : List BK := []
theorem t154 (a : List Cell) (b : List Cell) : evFn (E154) Tryd.f154 [PM.data Kd.bool] (akAV a154 (a, b, ())) (bkBs b154 ()) = (d154 a b).map e154 := by kernel_rfl
def s154 (C : akT a154 → Bool) (G : akT a154 → Bool) : FSpec := aspec a154 b154 e154 (fun x _ => C x) (fun x _ => G x)
theorem k154 {C : akT a154 → Bool} {G : akT a154 → Bool} (hd : ∀ (a : List Cell) (b : List Cell), C (a, b, ()) = true → (d154 a b).val = some (G (a, b, ()))) (IO : ItOK Tryd.prog (E154) := by exact itOK_none rfl) (L : ∀ c, Tryd.f154.body = some c → LsOK (evI 2) ((E154).lend 0) c := by exact fun c _ => LsOK_none rfl c) : SpecOK Tryd.prog E0 154 (s154 C G) :=
  aspec_ok (ak := a154) (bl := b154) (e := e154) (c := fun x _ => C x) (g := fun x _ => G x) (E0 := E0) (E := E154) tab .nil rfl rfl hm Tryd.func154 (by kernel_rfl) [PM.data Kd.bool] (fun X Y H => by obtain ⟨a, ⟨b, _⟩⟩ := X; exact val_of (t154 a b) (hd a b H)) IO L
abbrev w154 : FSpec := s154 (fun x => decide (List.length (α := Cell) x.1 ≤ 1048576)) fun x => U.eqCs x.1 x.2.1
theorem wk154 : SpecOK Tryd.prog E0 154 w154 := by
  refine k154 (fun l m H => ?_) (L := ls_ok (lcs := [lc Tryd.f154 0]) (rgs := []) (by kernel_rfl) (by kernel_rfl) L154 trivial)
  have H : l.length ≤ 1048576 := of_decide_eq_true H
  show _ = some (U.eqCs l m)
  by_cases h : l.length = m.length
  · simp only [d154, Tr.val, h, H, show m.length ≤ 1048576 by omega, and_self, decide_true, Bool.not_true, cond_true, cond_false]
    cases U.eqCs l m <;> rfl
  · have e : U.eqCs l m = false := by unfold U.eqCs; rw [decide_eq_false h]; rfl
    simp only [d154, Tr.val, e, show ¬ ((l.length : Int) = (m.length : Int)) by omega, decide_false, Bool.not_false, cond_true]
def d95 (a1 : List Cell) (a2 : Bool) (b1 : List Cell) (b2 : Bool) : Tr (Bool) :=
 Tr.ite (decide (List.length a1 ≤ (1048576 : Nat))) (Tr.ret (U.eqCs a1 b1)) Tr.fail
def e95 (r : Bool) : FRes := { rs := Slot.av (AV.one (Leaf.dat Kd.bool r)), upd := [], new := [] }
@[reducible] def a95 : List AK := [AK.d link, AK.d link]
@[reducible] def b95 : List BK := []
theorem t95 (a1 : List Cell) (a2 : Bool) (b1 : List Cell) (b2 : Bool) : evFn (Env.withFns E0 [((154 : Nat), w154)]) Tryd.f95 [PM.data Kd.bool] (akAV a95 ((a1, a2, ()), (b1, b2, ()), ())) (bkBs b95 ()) = (d95 a1 a2 b1 b2).map e95 := by kernel_rfl
def s95 (C : akT a95 → Bool) (G : akT a95 → Bool) : FSpec := aspec a95 b95 e95 (fun x _ => C x) (fun x _ => G x)
theorem k95 {C : akT a95 → Bool} {G : akT a95 → Bool} (hd : ∀ (a1 : List Cell) (a2 : Bool) (b1 : List Cell) (b2 : Bool), C ((a1, a2, ()), (b1, b2, ()), ()) = true → (d95 a1 a2 b1 b2).val = some (G ((a1, a2, ()), (b1, b2, ()), ()))) (IO : ItOK Tryd.prog (Env.withFns E0 [((154 : Nat), w154)]) := by exact itOK_none rfl) (L : ∀ c, Tryd.f95.body = some c → LsOK (evI 2) ((Env.withFns E0 [((154 : Nat), w154)]).lend 0) c := by exact fun c _ => LsOK_none rfl c) : SpecOK Tryd.prog E0 95 (s95 C G) :=
  aspec_ok (ak := a95) (bl := b95) (e := e95) (c := fun x _ => C x) (g := fun x _ => G x) (E0 := E0) (E := Env.withFns E0 [((154 : Nat), w154)]) tab (.cons wk154 .nil) rfl rfl hm Tryd.func95 (by kernel_rfl) [PM.data Kd.bool] (fun X Y H => by obtain ⟨⟨a1, ⟨a2, _⟩⟩, ⟨⟨b1, ⟨b2, _⟩⟩, _⟩⟩ := X; exact val_of (t95 a1 a2 b1 b2) (hd a1 a2 b1 b2 H)) IO L
abbrev w95 : FSpec := s95 (fun x => decide (List.length (α := Cell) x.1.1 ≤ 1048576)) fun x => U.eqCs x.1.1 x.2.1.1
theorem wk95 : SpecOK Tryd.prog E0 95 w95 := by
  refine k95 fun l s m t H => ?_
  have H : l.length ≤ 1048576 := of_decide_eq_true H
  show _ = some (U.eqCs l m)
  simp only [d95, Tr.val, H, decide_true, cond_true]
def d159 (a : Int) : Tr (Int) :=
 Tr.ite (!U.inn a (1 : Int) (9 : Int)) (Tr.ret (0 : Int)) (Tr.ite (inB a (10 : Nat)) (Tr.ret (List.getD [(0 : Int), (1 : Int), (2 : Int), (4 : Int), (8 : Int), (16 : Int), (0 : Int), (32 : Int), (64 : Int), (128 : Int)] (Int.toNat a) (0 : Int))) Tr.fail)
def e159 (r : Int) : FRes := { rs := Slot.av (AV.one (Leaf.dat (.int .i64) r)), upd := [], new := [] }
@[reducible] def a159 : List AK := [AK.d (.int .i64)]
@[reducible] def b159 : List BK := []
theorem t159 (a : Int) : evFn (Env.withFns E0 [((183 : Nat), w183)]) Tryd.f159 [PM.data (.int .i64)] (akAV a159 (a, ())) (bkBs b159 ()) = (d159 a).map e159 := by kernel_rfl
def s159 (C : akT a159 → Bool) (G : akT a159 → Int) : FSpec := aspec a159 b159 e159 (fun x _ => C x) (fun x _ => G x)
theorem k159 {C : akT a159 → Bool} {G : akT a159 → Int} (hd : ∀ (a : Int), C (a, ()) = true → (d159 a).val = some (G (a, ()))) (IO : ItOK Tryd.prog (Env.withFns E0 [((183 : Nat), w183)]) := by exact itOK_none rfl) (L : ∀ c, Tryd.f159.body = some c → LsOK (evI 2) ((Env.withFns E0 [((183 : Nat), w183)]).lend 0) c := by exact fun c _ => LsOK_none rfl c) : SpecOK Tryd.prog E0 159 (s159 C G) :=
  aspec_ok (ak := a159) (bl := b159) (e := e159) (c := fun x _ => C x) (g := fun x _ => G x) (E0 := E0) (E := Env.withFns E0 [((183 : Nat), w183)]) tab (.cons wk183 .nil) rfl rfl hm Tryd.func159 (by kernel_rfl) [PM.data (.int .i64)] (fun X Y H => by obtain ⟨a, _⟩ := X; exact val_of (t159 a) (hd a H)) IO L
end Go.Proofs.YtdlbnlbajnafdaaDoor
namespace U
def flagT : List Int := [0, 1, 2, 4, 8, 16, 0, 32, 64, 128]
def flagF (n : Int) : Int := flagT.getD n.toNat 0
end U
namespace Go.Proofs.YtdlbnlbajnafdaaDoor
abbrev w159 : FSpec := s159 (fun x => decide (0 ≤ (x.1 : Int) ∧ (x.1 : Int) ≤ 9)) fun x => U.flagF x.1
theorem wk159 : SpecOK Tryd.prog E0 159 w159 := by
  refine k159 fun a H => ?_
  have H : 0 ≤ a ∧ a ≤ 9 := of_decide_eq_true H
  obtain ⟨n, rfl⟩ := Int.eq_ofNat_of_zero_le H.1
  have hn : n < 10 := by omega
  show _ = some (U.flagF (n : Int))
  simp only [d159, Tr.val, inB_nat hn, cond_true]
  unfold U.flagF U.inn
  match n, hn with
  | 0, _ | 1, _ | 2, _ | 3, _ | 4, _ | 5, _ | 6, _ | 7, _ | 8, _ | 9, _ => rfl
def live156 (key : Nat) : Lv :=
  bif Nat.beq key 5 then { ls := [1, 4, 11, 12, 13], wd := [⟨4, none, .row 3 (.int .i64)⟩] } else bif Nat.beq key 1005 then { ls := [1, 4] } else
  { ls := [] }
abbrev G156 : List (Nat × FSpec) := [(146, w146), (182, w182)]
theorem AG156 : AllFn Tryd.prog E0 G156 := .cons wk146 (.cons wk182 .nil)
abbrev M156 (ls : Nat → VS → Option (Tr (Ex × VS))) : Env := (E0.withFns G156).loops live156 ls
@[reducible] def p156_0 : LP := { n := 48, sl := [.c (Leaf.ptr ( 0) ( 0)), .c (Leaf.row ( 1)), .d (Kd.sl (.int .i64)), .d (.int .i64), .d (.int .i64)], bl := [(0, .box [.d (.int .i64), .d (.int .i64), .d (.int .i64)]), (1, .row 3 (.int .i64))] }
def B156_0 (x2 : List Int) (x3 : Int) (x4 : Int) (h0_0 : Int) (h0_1 : Int) (h0_2 : Int) (h1 : List Int) : Tr (p156_0.T ⊕ (Int × Int × Int × List Int)) :=
 let v1 : Int := (IntKind.wrap IntKind.i64 (↑(BitVec.toNat (BitVec.ofInt (64 : Nat) (Int.fdiv h0_2 ((2 : Int) ^ min (Int.toNat x4) (64 : Nat))) &&& BitVec.ofInt (64 : Nat) (1 : Int))) : Int))
 Tr.ite (decide (x4 < x3)) (Tr.ite (inB x4 (List.length x2)) (Tr.ite (decide ((0 : Int) ≤ x4)) (Tr.ite (decide (v1 = (1 : Int))) (Tr.ite (decide ((List.length h1 + (1 : Nat)) * (8 : Nat) ≤ (140737488355328 : Nat))) (Tr.ret (Sum.inl ((x2, x3, IntKind.wrap IntKind.i64 (x4 + (1 : Int)), ()), (h0_0, h0_1, h0_2, ()), h1 ++ [rget (.int .i64) x2 x4], ()))) Tr.fail) (Tr.ret (Sum.inl ((x2, x3, IntKind.wrap IntKind.i64 (x4 + (1 : Int)), ()), (h0_0, h0_1, h0_2, ()), h1, ())))) Tr.fail) Tr.fail) (Tr.ret (Sum.inr (h0_0, h0_1, h0_2, h1)))
def X156_0 (r : (Int × Int × Int × List Int)) : Ex × VS := Prod.mk (Ex.exit ( 0)) { n := 48, v := [Slot.av (AV.one (Leaf.ptr ( 0) ( 0))), Slot.av (AV.one (Leaf.row ( 1)))], h := [( 0, Blk.box [Leaf.dat (.int .i64) r.fst, Leaf.dat (.int .i64) r.snd.fst, Leaf.dat (.int .i64) r.snd.snd.fst]), ( 1, Blk.row ( 3) (.int .i64) r.snd.snd.snd)] }
def b156_0 : p156_0.T → Tr (p156_0.T ⊕ (Int × Int × Int × List Int)) := fun ⟨⟨x2, ⟨x3, ⟨x4, _⟩⟩⟩, ⟨⟨h0_0, ⟨h0_1, ⟨h0_2, _⟩⟩⟩, ⟨h1, _⟩⟩⟩ => B156_0 x2 x3 x4 h0_0 h0_1 h0_2 h1
theorem h156_0 (ls : Nat → VS → Option (Tr (Ex × VS))) (x : p156_0.T) : (evC (evI 2) (lc Tryd.f156 0) (Env.lend (M156 ls) 0) (unV (live156 5) (p156_0.V x))).map (decL 0 (live156 5) (live156 1005)) = (b156_0 x).map (encR p156_0.V X156_0) := by
  obtain ⟨⟨x2, ⟨x3, ⟨x4, _⟩⟩⟩, ⟨⟨h0_0, ⟨h0_1, ⟨h0_2, _⟩⟩⟩, ⟨h1, _⟩⟩⟩ := x; kernel_rfl
theorem c156_0 (x : p156_0.T) : canV 0 (live156 5) (unV (live156 5) (p156_0.V x)) = p156_0.V x := by
  obtain ⟨⟨x2, ⟨x3, ⟨x4, _⟩⟩⟩, ⟨⟨h0_0, ⟨h0_1, ⟨h0_2, _⟩⟩⟩, ⟨h1, _⟩⟩⟩ := x; kernel_rfl
theorem l156_0 {T : p156_0.T → Tr (Int × Int × Int × List Int)} {ls : Nat → VS → Option (Tr (Ex × VS))} (hls : ∀ x, (Env.lend (M156 ls) 0).ls 5 x = p156_0.ls (fun a => (T a).map X156_0) x) (hS : ∀ x r, (T x).val = some r → Rounds b156_0 x r) : LoopOK (evI 2) (Env.lend (M156 ls) 0) (lc Tryd.f156 0) :=
  loopA 5 (live156 5) (live156 1005) p156_0 b156_0 X156_0 T (by kernel_rfl) rfl rfl hls (h156_0 ls) c156_0 hS
def bitv (f : Int) (i : Int) : Int := IntKind.wrap IntKind.i64 (↑(BitVec.toNat (BitVec.ofInt (64 : Nat) (Int.fdiv f ((2 : Int) ^ min (Int.toNat i) (64 : Nat))) &&& BitVec.ofInt (64 : Nat) (1 : Int))) : Int)
def T156 (x : p156_0.T) : Tr (Int × Int × Int × List Int) :=
  match x with
  | ⟨⟨l, n, i, _⟩, ⟨⟨a, b, f, _⟩, out, _⟩⟩ => .ite (decide ((n : Int) = (List.length (α := Int) l : Int) ∧ (i : Int) = 0 ∧ List.length (α := Int) out + List.length (α := Int) l ≤ 1048576))
    (.ret (a, b, f, List.append (α := Int) out (filtI (fun i : Nat => decide (bitv f (i : Int) = 1)) l 0))) .fail
abbrev E156 : Env := M156 fun key x => bif Nat.beq key 5 then p156_0.ls (fun a => (T156 a).map X156_0) x else none
theorem L156 : LoopOK (evI 2) (E156.lend 0) (lc Tryd.f156 0) := by
  refine l156_0 (T := T156) (fun x => rfl) ?_
  rintro ⟨⟨l, n, i, z⟩, ⟨⟨a, b, f, z1⟩, out, z2⟩⟩ r h
  obtain ⟨g1, g2⟩ := pre_val h
  have g1 : (n : Int) = (l.length : Int) ∧ (i : Int) = 0 ∧ out.length + l.length ≤ 1048576 := of_decide_eq_true g1
  obtain ⟨e1, e2, e3⟩ := g1
  subst e1; subst e2
  cases g2
  have := Rounds.filtA (B := b156_0) l (fun i s => ((l, (l.length : Int), (i : Int), ()), (a, b, f, ()), s, ())) (fun i : Nat => decide (bitv f (i : Int) = 1)) (fun s => (a, b, f, s)) 1048576 (fun i s hi hv => ?_) (fun s => ?_) l.length 0 out (by omega) (by omega)
  · rw [List.drop_zero] at this
    exact this
  · have e : rget (.int .i64) l (i : Int) = l[i] := by rw [rget_nat]; exact getD_el hi
    simp only [b156_0, B156_0, Tr.val, inB_nat hi, e, show ((i : Int) < (l.length : Int)) by omega, Int.natCast_nonneg, show (s.length + 1) * 8 ≤ 140737488355328 by omega, decide_true, cond_true, wrap64_nat (show i ≤ 1048576 by omega)]
    show (bif decide (bitv f (i : Int) = 1) then _ else _) = _
    cases decide (bitv f (i : Int) = 1) <;> rfl
  · simp only [b156_0, B156_0, Tr.val, show ¬ ((l.length : Int) < (l.length : Int)) by omega, decide_false, cond_false]
def d156 (a1 : Int) (a2 : Int) (a3 : Int) : Tr (List Int × Int) :=
 let v1 : Bool := (decide ((0 : Int) < a2))
 let v2 : List Int := (List.append [(0 : Int)] (filtI (fun (i : Nat) => decide (bitv a3 (↑i : Int) = (1 : Int))) [(1 : Int), (2 : Int), (3 : Int), (4 : Int), (5 : Int), (7 : Int), (8 : Int), (9 : Int)] (0 : Nat)))
 let v3 : Bool := (decide ((List.length v2 + (3 : Nat)) * (8 : Nat) ≤ (140737488355328 : Nat)))
 Tr.ite (!U.look (a1, a2, a3, ())) (Tr.ret ([], (1 : Int))) (Tr.ite true (Tr.ite (decide ((0 : Int) < a1)) (Tr.ite v3 (Tr.ite v1 (Tr.ite (decide ((List.length (v2 ++ [(38 : Int), (5 : Int), IntKind.wrap IntKind.i64 (a1 - (1 : Int))]) + (3 : Nat)) * (8 : Nat) ≤ (140737488355328 : Nat))) (Tr.ret (v2 ++ [(38 : Int), (5 : Int), IntKind.wrap IntKind.i64 (a1 - (1 : Int))] ++ [(48 : Int), (5 : Int), IntKind.wrap IntKind.i64 (a2 - (1 : Int))], (0 : Int))) Tr.fail) (Tr.ret (v2 ++ [(38 : Int), (5 : Int), IntKind.wrap IntKind.i64 (a1 - (1 : Int))], (0 : Int)))) Tr.fail) (Tr.ite v1 (Tr.ite v3 (Tr.ret (v2 ++ [(48 : Int), (5 : Int), IntKind.wrap IntKind.i64 (a2 - (1 : Int))], (0 : Int))) Tr.fail) (Tr.ret (v2, (0 : Int))))) Tr.fail)
def e156 (r : List Int × Int) : FRes := { rs := Slot.tup [AV.one (Leaf.dat (Kd.sl (.int .i64)) r.fst), AV.one (Leaf.dat (.int .i64) r.snd)], upd := [], new := [] }
@[reducible] def a156 : List AK := [AK.d attk]
@[reducible] def b156 : List BK := []
theorem t156 (a1 : Int) (a2 : Int) (a3 : Int) : evFn (E156) Tryd.f156 [PM.data (Kd.sl (.int .i64)), PM.data (.int .i64)] (akAV a156 ((a1, a2, a3, ()), ())) (bkBs b156 ()) = (d156 a1 a2 a3).map e156 := by kernel_rfl
def s156' (G : akT a156 → List Int × Int) : FSpec := aspec0 a156 b156 e156 (fun x _ => G x)
theorem k156' {G : akT a156 → List Int × Int} (hd : ∀ (a1 : Int) (a2 : Int) (a3 : Int), (d156 a1 a2 a3).val = some (G ((a1, a2, a3, ()), ()))) (IO : ItOK Tryd.prog (E156) := by exact itOK_none rfl) (L : ∀ c, Tryd.f156.body = some c → LsOK (evI 2) ((E156).lend 0) c := by exact fun c _ => LsOK_none rfl c) : SpecOK Tryd.prog E0 156 (s156' G) :=
  aspec0_ok (ak := a156) (bl := b156) (e := e156) (g := fun x _ => G x) (E0 := E0) (E := E156) tab AG156 rfl rfl hm Tryd.func156 (by kernel_rfl) [PM.data (Kd.sl (.int .i64)), PM.data (.int .i64)] (fun X Y => by obtain ⟨⟨a1, ⟨a2, ⟨a3, _⟩⟩⟩, _⟩ := X; exact val_of (t156 a1 a2 a3) (hd a1 a2 a3)) IO L
end Go.Proofs.YtdlbnlbajnafdaaDoor
namespace Go.Ev
theorem filtI_len {α : Type} (q : Nat → Bool) : ∀ (l : List α) (i : Nat), (filtI q l i).length ≤ l.length
  | [], _ => Nat.le_refl _
  | x :: l, i => by
    unfold filtI
    have := filtI_len q l (i + 1)
    cases q i
    · exact Nat.le_succ_of_le this
    · exact Nat.succ_le_succ this
theorem filtI_in {α : Type} (q : Nat → Bool) : ∀ (l : List α) (i : Nat) (x : α), x ∈ filtI q l i → x ∈ l
  | [], _, _, h => by cases h
  | y :: l, i, x, h => by
    unfold filtI at h
    cases hq : q i with
    | true =>
      rw [hq, cond_true] at h
      rcases List.mem_cons.1 h with h | h
      · exact List.mem_cons.2 (.inl h)
      · exact List.mem_cons.2 (.inr (filtI_in q l (i + 1) x h))
    | false =>
      rw [hq, cond_false] at h
      exact List.mem_cons.2 (.inr (filtI_in q l (i + 1) x h))
end Go.Ev
namespace Go.Proofs.YtdlbnlbajnafdaaDoor
theorem bits_all : ((List.range 256).all fun n => decide (filtI (fun i : Nat => decide (bitv (n : Int) (i : Int) = 1)) [(1 : Int), 2, 3, 4, 5, 7, 8, 9] 0 = U.flagsL (n : Int))) = true := by kernel_rfl
theorem bits_eq {f : Int} (h0 : 0 ≤ f) (h1 : f ≤ 255) : filtI (fun i : Nat => decide (bitv f (i : Int) = 1)) [(1 : Int), 2, 3, 4, 5, 7, 8, 9] 0 = U.flagsL f := by
  obtain ⟨n, rfl⟩ := Int.eq_ofNat_of_zero_le h0
  exact of_decide_eq_true (List.all_eq_true.1 bits_all n (List.mem_range.2 (by omega)))
theorem look_in {a b c : Int} (h : U.look (a, b, c, ()) = true) : (0 ≤ a ∧ a ≤ 256) ∧ (0 ≤ b ∧ b ≤ 256) ∧ 0 ≤ c ∧ c ≤ 255 := by
  unfold U.look U.inn at h
  simp only [Bool.and_eq_true, decide_eq_true_eq] at h
  exact h
abbrev w156 : FSpec := s156' fun x => bif U.look x.1 then (U.askL x.1, (0 : Int)) else ([], 1)
theorem wk156 : SpecOK Tryd.prog E0 156 w156 := by
  refine k156' (fun a b f => ?_) (L := ls_ok (lcs := [lc Tryd.f156 0]) (rgs := []) (by kernel_rfl) (by kernel_rfl) L156 trivial)
  show _ = some (bif U.look (a, b, f, ()) then (U.askL (a, b, f, ()), (0 : Int)) else ([], 1))
  cases hl : U.look (a, b, f, ()) with
  | false => simp only [d156, Tr.val, hl, Bool.not_false, cond_true, cond_false]
  | true =>
    obtain ⟨⟨a0, a1⟩, ⟨b0, b1⟩, f0, f1⟩ := look_in hl
    have hb : ∀ g : Nat → Bool, ([(0 : Int)] ++ filtI g [(1 : Int), 2, 3, 4, 5, 7, 8, 9] 0).length ≤ 9 := fun g => by
      have := filtI_len g [(1 : Int), 2, 3, 4, 5, 7, 8, 9] 0
      rw [List.length_append]
      simp only [List.length_cons, List.length_nil] at this ⊢
      omega
    have e1 : IntKind.wrap IntKind.i64 (a - 1) = a - 1 := w64 (by omega) (by omega)
    have e2 : IntKind.wrap IntKind.i64 (b - 1) = b - 1 := w64 (by omega) (by omega)
    have e3 := bits_eq f0 f1
    have h1 : ([(0 : Int)] ++ U.flagsL f).length ≤ 9 := hb _
    have h2 : ([(0 : Int)] ++ U.flagsL f ++ [38, 5, a - 1]).length ≤ 12 := by rw [List.length_append]; exact Nat.add_le_add_right h1 3
    have h1' : (List.append [(0 : Int)] (U.flagsL f)).length ≤ 9 := h1
    have h2' : (List.append [(0 : Int)] (U.flagsL f) ++ [38, 5, a - 1]).length ≤ 12 := h2
    unfold U.askL
    by_cases p : 0 < a <;> by_cases q : 0 < b <;>
      simp only [d156, Tr.val, hl, e1, e2, e3, p, q, Bool.not_true, cond_true, cond_false, decide_true, decide_false, show ((List.append [(0 : Int)] (U.flagsL f)).length + 3) * 8 ≤ 140737488355328 by omega, show ((List.append [(0 : Int)] (U.flagsL f) ++ [38, 5, a - 1]).length + 3) * 8 ≤ 140737488355328 by omega] <;> simp
def live108 (key : Nat) : Lv :=
  bif Nat.beq key 3 then { ls := [1, 3, 4], wd := [⟨3, none, .row 3 (.int .i64)⟩] } else bif Nat.beq key 1003 then { ls := [1, 3] } else
  { ls := [] }
abbrev M108 (ls : Nat → VS → Option (Tr (Ex × VS))) : Env := (E0.withFns [(159, w159)]).loops live108 ls
@[reducible] def p108_0 : LP := { n := 45, sl := [.c (Leaf.ptr ( 0) ( 0)), .c (Leaf.row ( 1)), .d (.int .i64)], bl := [(0, .box [.d (.int .i64), .d (.int .i64), .d (.int .i64)]), (1, .row 3 (.int .i64))] }
def B108_0 (x2 : Int) (h0_0 : Int) (h0_1 : Int) (h0_2 : Int) (h1 : List Int) : Tr (p108_0.T ⊕ (Int × Int × Int × List Int)) :=
 let v1 : Int := (Int.tmod (IntKind.wrap IntKind.i64 (Int.tdiv h0_2 (U.flagF x2))) (2 : Int))
 let v2 : Bool := (decide ((0 : Int) ≤ x2 ∧ x2 ≤ (9 : Int)))
 Tr.ite (decide (x2 < (10 : Int))) (Tr.ite v2 (Tr.ite (decide ((0 : Int) < U.flagF x2)) (Tr.ite v2 (Tr.ite (!decide (U.flagF x2 = (0 : Int))) (Tr.ite true (Tr.ite (decide (v1 = (1 : Int))) (Tr.ite (decide ((List.length h1 + (1 : Nat)) * (8 : Nat) ≤ (140737488355328 : Nat))) (Tr.ret (Sum.inl ((IntKind.wrap IntKind.i64 (x2 + (1 : Int)), ()), (h0_0, h0_1, h0_2, ()), h1 ++ [x2], ()))) Tr.fail) (Tr.ret (Sum.inl ((IntKind.wrap IntKind.i64 (x2 + (1 : Int)), ()), (h0_0, h0_1, h0_2, ()), h1, ())))) Tr.fail) Tr.fail) Tr.fail) (Tr.ret (Sum.inl ((IntKind.wrap IntKind.i64 (x2 + (1 : Int)), ()), (h0_0, h0_1, h0_2, ()), h1, ())))) Tr.fail) (Tr.ret (Sum.inr (h0_0, h0_1, h0_2, h1)))
def X108_0 (r : (Int × Int × Int × List Int)) : Ex × VS := Prod.mk (Ex.exit ( 0)) { n := 45, v := [Slot.av (AV.one (Leaf.ptr ( 0) ( 0))), Slot.av (AV.one (Leaf.row ( 1)))], h := [( 0, Blk.box [Leaf.dat (.int .i64) r.fst, Leaf.dat (.int .i64) r.snd.fst, Leaf.dat (.int .i64) r.snd.snd.fst]), ( 1, Blk.row ( 3) (.int .i64) r.snd.snd.snd)] }
def b108_0 : p108_0.T → Tr (p108_0.T ⊕ (Int × Int × Int × List Int)) := fun ⟨⟨x2, _⟩, ⟨⟨h0_0, ⟨h0_1, ⟨h0_2, _⟩⟩⟩, ⟨h1, _⟩⟩⟩ => B108_0 x2 h0_0 h0_1 h0_2 h1
theorem h108_0 (ls : Nat → VS → Option (Tr (Ex × VS))) (x : p108_0.T) : (evC (evI 2) (lc Tryd.f108 0) (Env.lend (M108 ls) 0) (unV (live108 3) (p108_0.V x))).map (decL 0 (live108 3) (live108 1003)) = (b108_0 x).map (encR p108_0.V X108_0) := by
  obtain ⟨⟨x2, _⟩, ⟨⟨h0_0, ⟨h0_1, ⟨h0_2, _⟩⟩⟩, ⟨h1, _⟩⟩⟩ := x; kernel_rfl
theorem c108_0 (x : p108_0.T) : canV 0 (live108 3) (unV (live108 3) (p108_0.V x)) = p108_0.V x := by
  obtain ⟨⟨x2, _⟩, ⟨⟨h0_0, ⟨h0_1, ⟨h0_2, _⟩⟩⟩, ⟨h1, _⟩⟩⟩ := x; kernel_rfl
theorem l108_0 {T : p108_0.T → Tr (Int × Int × Int × List Int)} {ls : Nat → VS → Option (Tr (Ex × VS))} (hls : ∀ x, (Env.lend (M108 ls) 0).ls 3 x = p108_0.ls (fun a => (T a).map X108_0) x) (hS : ∀ x r, (T x).val = some r → Rounds b108_0 x r) : LoopOK (evI 2) (Env.lend (M108 ls) 0) (lc Tryd.f108 0) :=
  loopA 3 (live108 3) (live108 1003) p108_0 b108_0 X108_0 T (by kernel_rfl) rfl rfl hls (h108_0 ls) c108_0 hS
def askAt (f : Int) (n : Nat) (s : List Int) : List Int := bif decide (0 < U.flagF (n : Int)) && decide (Int.tmod (IntKind.wrap IntKind.i64 (Int.tdiv f (U.flagF (n : Int)))) 2 = 1) then s ++ [(n : Int)] else s
def T108 (x : p108_0.T) : Tr (Int × Int × Int × List Int) :=
  match x with
  | ⟨⟨n, _⟩, ⟨⟨a, b, f, _⟩, out, _⟩⟩ => .ite (decide ((n : Int) = 1 ∧ List.length (α := Int) out ≤ 1000))
    (.ret (a, b, f, (List.range' 1 9).foldl (fun s i => askAt f i s) out)) .fail
abbrev E108 : Env := M108 fun key x => bif Nat.beq key 3 then p108_0.ls (fun a => (T108 a).map X108_0) x else none
theorem L108 : LoopOK (evI 2) (E108.lend 0) (lc Tryd.f108 0) := by
  refine l108_0 (T := T108) (fun x => rfl) ?_
  rintro ⟨⟨n, z⟩, ⟨⟨a, b, f, z1⟩, out, z2⟩⟩ r h
  obtain ⟨g1, g2⟩ := pre_val h
  have g1 : (n : Int) = 1 ∧ out.length ≤ 1000 := of_decide_eq_true g1
  obtain ⟨e1, e3⟩ := g1
  subst e1
  cases g2
  refine Rounds.uptoA (B := b108_0) (N := 10) (fun i s => (((i : Int), ()), (a, b, f, ()), s, ())) (askAt f) (fun s => (a, b, f, s)) (fun i s => s.length ≤ 1000 + i) (fun i s hi hv => ?_) (fun s hv => ?_) 9 1 out rfl (by omega)
  · refine ⟨?_, by unfold askAt; cases decide (0 < U.flagF (i : Int)) && decide (Int.tmod (IntKind.wrap IntKind.i64 (Int.tdiv f (U.flagF (i : Int)))) 2 = 1) <;> simp only [cond_true, cond_false, List.length_append, List.length_singleton] <;> omega⟩
    unfold askAt
    by_cases p : 0 < U.flagF (i : Int)
    · have p2 : ¬ (U.flagF (i : Int) = 0) := by omega
      simp only [b108_0, B108_0, Tr.val, p, p2, show ((i : Int) < 10) by omega, show (0 ≤ (i : Int) ∧ (i : Int) ≤ 9) by omega, and_self, show (s.length + 1) * 8 ≤ 140737488355328 by omega, decide_true, decide_false, Bool.not_false, Bool.true_and, cond_true, wrap64_nat (show i ≤ 1048576 by omega)]
      cases decide (Int.tmod (IntKind.wrap IntKind.i64 (Int.tdiv f (U.flagF (i : Int)))) 2 = 1) <;> rfl
    · simp only [b108_0, B108_0, Tr.val, p, show ((i : Int) < 10) by omega, show (0 ≤ (i : Int) ∧ (i : Int) ≤ 9) by omega, and_self, decide_true, decide_false, Bool.false_and, cond_true, cond_false, wrap64_nat (show i ≤ 1048576 by omega)]
  · simp only [b108_0, B108_0, Tr.val, show ¬ (((10 : Nat) : Int) < 10) by omega, decide_false, cond_false]
theorem asks_all : ((List.range 256).all fun n => decide ((List.range' 1 9).foldl (fun s i => askAt (n : Int) i s) [(0 : Int)] = 0 :: U.flagsL (n : Int))) = true := by kernel_rfl
theorem asks_eq {f : Int} (h0 : 0 ≤ f) (h1 : f ≤ 255) : (List.range' 1 9).foldl (fun s i => askAt f i s) [(0 : Int)] = 0 :: U.flagsL f := by
  obtain ⟨n, rfl⟩ := Int.eq_ofNat_of_zero_le h0
  exact of_decide_eq_true (List.all_eq_true.1 asks_all n (List.mem_range.2 (by omega)))
def d108 (a1 : Int) (a2 : Int) (a3 : Int) : Tr (List Int) :=
 let v1 : Bool := (decide ((0 : Int) < a2))
 let v2 : List Int := (List.foldl (fun (s : List Int) (i : Nat) => askAt a3 i s) [(0 : Int)] (List.range' (1 : Nat) (9 : Nat)))
 let v3 : Bool := (decide ((List.length v2 + (3 : Nat)) * (8 : Nat) ≤ (140737488355328 : Nat)))
 Tr.ite true (Tr.ite (decide ((0 : Int) < a1)) (Tr.ite v3 (Tr.ite v1 (Tr.ite (decide ((List.length (v2 ++ [(38 : Int), (5 : Int), IntKind.wrap IntKind.i64 (a1 - (1 : Int))]) + (3 : Nat)) * (8 : Nat) ≤ (140737488355328 : Nat))) (Tr.ret (v2 ++ [(38 : Int), (5 : Int), IntKind.wrap IntKind.i64 (a1 - (1 : Int))] ++ [(48 : Int), (5 : Int), IntKind.wrap IntKind.i64 (a2 - (1 : Int))])) Tr.fail) (Tr.ret (v2 ++ [(38 : Int), (5 : Int), IntKind.wrap IntKind.i64 (a1 - (1 : Int))]))) Tr.fail) (Tr.ite v1 (Tr.ite v3 (Tr.ret (v2 ++ [(48 : Int), (5 : Int), IntKind.wrap IntKind.i64 (a2 - (1 : Int))])) Tr.fail) (Tr.ret v2))) Tr.fail
def e108 (r : List Int) : FRes := { rs := Slot.av (AV.one (Leaf.dat (Kd.sl (.int .i64)) r)), upd := [], new := [] }
@[reducible] def a108 : List AK := [AK.d attk]
@[reducible] def b108 : List BK := []
theorem t108 (a1 : Int) (a2 : Int) (a3 : Int) : evFn (E108) Tryd.f108 [PM.data (Kd.sl (.int .i64))] (akAV a108 ((a1, a2, a3, ()), ())) (bkBs b108 ()) = (d108 a1 a2 a3).map e108 := by kernel_rfl
def s108 (C : akT a108 → Bool) (G : akT a108 → List Int) : FSpec := aspec a108 b108 e108 (fun x _ => C x) (fun x _ => G x)
theorem k108 {C : akT a108 → Bool} {G : akT a108 → List Int} (hd : ∀ (a1 : Int) (a2 : Int) (a3 : Int), C ((a1, a2, a3, ()), ()) = true → (d108 a1 a2 a3).val = some (G ((a1, a2, a3, ()), ()))) (IO : ItOK Tryd.prog (E108) := by exact itOK_none rfl) (L : ∀ c, Tryd.f108.body = some c → LsOK (evI 2) ((E108).lend 0) c := by exact fun c _ => LsOK_none rfl c) : SpecOK Tryd.prog E0 108 (s108 C G) :=
  aspec_ok (ak := a108) (bl := b108) (e := e108) (c := fun x _ => C x) (g := fun x _ => G x) (E0 := E0) (E := E108) tab (.cons wk159 .nil) rfl rfl hm Tryd.func108 (by kernel_rfl) [PM.data (Kd.sl (.int .i64))] (fun X Y H => by obtain ⟨⟨a1, ⟨a2, ⟨a3, _⟩⟩⟩, _⟩ := X; exact val_of (t108 a1 a2 a3) (hd a1 a2 a3 H)) IO L
abbrev w108 : FSpec := s108 (fun x => U.look x.1) fun x => U.askL x.1
theorem wk108 : SpecOK Tryd.prog E0 108 w108 := by
  refine k108 (fun a b f H => ?_) (L := ls_ok (lcs := [lc Tryd.f108 0]) (rgs := []) (by kernel_rfl) (by kernel_rfl) L108 trivial)
  have hl : U.look (a, b, f, ()) = true := H
  show _ = some (U.askL (a, b, f, ()))
  obtain ⟨⟨a0, a1⟩, ⟨b0, b1⟩, f0, f1⟩ := look_in hl
  have hb : (U.flagsL f).length ≤ 8 := filtI_len _ _ _
  have e1 : IntKind.wrap IntKind.i64 (a - 1) = a - 1 := w64 (by omega) (by omega)
  have e2 : IntKind.wrap IntKind.i64 (b - 1) = b - 1 := w64 (by omega) (by omega)
  have e3 := asks_eq f0 f1
  have h1 : (0 :: U.flagsL f).length ≤ 9 := by rw [List.length_cons]; omega
  have h2 : (0 :: U.flagsL f ++ [38, 5, a - 1]).length ≤ 12 := by rw [List.length_append]; exact Nat.add_le_add_right h1 3
  unfold U.askL
  by_cases p : 0 < a <;> by_cases q : 0 < b <;>
    simp only [d108, Tr.val, e1, e2, e3, p, q, Bool.not_true, cond_true, cond_false, decide_true, decide_false, and_self, List.length_singleton, show (1 : Nat) ≤ 1000 by omega, show ((0 :: U.flagsL f).length + 3) * 8 ≤ 140737488355328 by omega, show ((0 :: U.flagsL f ++ [38, 5, a - 1]).length + 3) * 8 ≤ 140737488355328 by omega] <;> simp
end Go.Proofs.YtdlbnlbajnafdaaDoor
namespace U
theorem nDig_le : ∀ (k u : Nat), u < 10 ^ (k + 1) → Go.Lib.nDigits u ≤ k + 1
  | 0, u, h => by rw [Go.Lib.nDigits_small (by omega)]; exact Nat.le_refl _
  | k + 1, u, h => by
    by_cases hu : u < 10
    · rw [Go.Lib.nDigits_small hu]; omega
    · rw [Go.Lib.nDigits, dif_neg hu]
      have := nDig_le k (u / 10) (by rw [Nat.pow_succ] at h; omega)
      omega
theorem itoa_size {n : Int} (h0 : 0 ≤ n) (h1 : n < 1000000000) : (itoaB n).size ≤ 9 := by
  unfold itoaB Go.Lib.itoa
  rw [if_neg (by omega)]
  show (Go.Lib.decDigits n.toNat).toArray.size ≤ 9
  rw [List.size_toArray, Go.Lib.decDigits_length]
  exact nDig_le 8 _ (by omega)
def okN (l : List Int) : Bool := decide (l.length ≤ 1000) && l.all fun n => decide (0 ≤ n ∧ n < 1000000000)
theorem okN_sum : ∀ {l : List Int}, (l.all fun n => decide (0 ≤ n ∧ n < 1000000000)) = true → sumS (l.map itoaB) ≤ 9 * l.length
  | [], _ => Nat.le_refl _
  | x :: l, h => by
    rw [List.all_cons, Bool.and_eq_true] at h
    have h1 := of_decide_eq_true h.1
    have := okN_sum h.2
    have h2 := itoa_size h1.1 h1.2
    show (itoaB x).size + sumS (l.map itoaB) ≤ _
    rw [List.length_cons]
    omega
end U
namespace Go.Proofs.YtdlbnlbajnafdaaDoor
abbrev G99 : List (Nat × FSpec) := [(51, itoaS), (77, w77)]
theorem AG99 : AllFn Tryd.prog E0 G99 := .cons wk51 (.cons wk77 .nil)
def live99 (key : Nat) : Lv :=
  bif Nat.beq key 3 then { ls := [0, 5, 8, 9, 10], wd := [⟨5, none, .row 9 .str⟩] } else bif Nat.beq key 1003 then { ls := [0, 5] } else
  { ls := [] }
abbrev M99 (ls : Nat → VS → Option (Tr (Ex × VS))) : Env := (E0.withFns G99).loops live99 ls
@[reducible] def p99_0 : LP := { n := 25, sl := [.d (Kd.str), .c (Leaf.row ( 0)), .d (Kd.sl (.int .i64)), .d (.int .i64), .d (.int .i64)], bl := [(0, .row 9 (Kd.str))] }
def B99_0 (x0 : ByteArray) (x2 : List Int) (x3 : Int) (x4 : Int) (h0 : List ByteArray) : Tr (p99_0.T ⊕ (ByteArray × List ByteArray)) :=
 Tr.ite (decide (x4 < x3)) (Tr.ite (inB x4 (List.length x2)) (Tr.ite (decide ((-9223372036854775808 : Int) ≤ rget (.int .i64) x2 x4 ∧ rget (.int .i64) x2 x4 ≤ (9223372036854775807 : Int))) (Tr.ite (decide ((List.length h0 + (1 : Nat)) * (16 : Nat) ≤ (140737488355328 : Nat))) (Tr.ret (Sum.inl ((x0, x2, x3, IntKind.wrap IntKind.i64 (x4 + (1 : Int)), ()), h0 ++ [itoaB (rget (.int .i64) x2 x4)], ()))) Tr.fail) Tr.fail) Tr.fail) (Tr.ret (Sum.inr (x0, h0)))
def X99_0 (r : (ByteArray × List ByteArray)) : Ex × VS := Prod.mk (Ex.exit ( 0)) { n := 25, v := [Slot.av (AV.one (Leaf.dat Kd.str r.fst)), Slot.av (AV.one (Leaf.row ( 0)))], h := [( 0, Blk.row ( 9) Kd.str r.snd)] }
def b99_0 : p99_0.T → Tr (p99_0.T ⊕ (ByteArray × List ByteArray)) := fun ⟨⟨x0, ⟨x2, ⟨x3, ⟨x4, _⟩⟩⟩⟩, ⟨h0, _⟩⟩ => B99_0 x0 x2 x3 x4 h0
theorem h99_0 (ls : Nat → VS → Option (Tr (Ex × VS))) (x : p99_0.T) : (evC (evI 2) (lc Tryd.f99 0) (Env.lend (M99 ls) 0) (unV (live99 3) (p99_0.V x))).map (decL 0 (live99 3) (live99 1003)) = (b99_0 x).map (encR p99_0.V X99_0) := by
  obtain ⟨⟨x0, ⟨x2, ⟨x3, ⟨x4, _⟩⟩⟩⟩, ⟨h0, _⟩⟩ := x; kernel_rfl
theorem c99_0 (x : p99_0.T) : canV 0 (live99 3) (unV (live99 3) (p99_0.V x)) = p99_0.V x := by
  obtain ⟨⟨x0, ⟨x2, ⟨x3, ⟨x4, _⟩⟩⟩⟩, ⟨h0, _⟩⟩ := x; kernel_rfl
theorem l99_0 {T : p99_0.T → Tr (ByteArray × List ByteArray)} {ls : Nat → VS → Option (Tr (Ex × VS))} (hls : ∀ x, (Env.lend (M99 ls) 0).ls 3 x = p99_0.ls (fun a => (T a).map X99_0) x) (hS : ∀ x r, (T x).val = some r → Rounds b99_0 x r) : LoopOK (evI 2) (Env.lend (M99 ls) 0) (lc Tryd.f99 0) :=
  loopA 3 (live99 3) (live99 1003) p99_0 b99_0 X99_0 T (by kernel_rfl) rfl rfl hls (h99_0 ls) c99_0 hS
def T99 (x : p99_0.T) : Tr (ByteArray × List ByteArray) :=
  match x with
  | ⟨⟨e, l, n, i, _⟩, ⟨out, _⟩⟩ => .ite (decide ((n : Int) = (List.length (α := Int) l : Int) ∧ (i : Int) = 0 ∧ List.length (α := ByteArray) out ≤ 1000) && U.okN l)
    (.ret (e, List.append (α := ByteArray) out (List.map (α := Int) (β := ByteArray) itoaB l))) .fail
abbrev E99 : Env := M99 fun key x => bif Nat.beq key 3 then p99_0.ls (fun a => (T99 a).map X99_0) x else none
theorem L99 : LoopOK (evI 2) (E99.lend 0) (lc Tryd.f99 0) := by
  refine l99_0 (T := T99) (fun x => rfl) ?_
  rintro ⟨⟨e, l, n, i, z⟩, ⟨out, z2⟩⟩ r h
  obtain ⟨g1, g2⟩ := pre_val h
  rw [Bool.and_eq_true] at g1
  obtain ⟨g1, g3⟩ := g1
  have g1 : (n : Int) = (l.length : Int) ∧ (i : Int) = 0 ∧ out.length ≤ 1000 := of_decide_eq_true g1
  obtain ⟨e1, e2, e3⟩ := g1
  subst e1; subst e2
  cases g2
  have g3 : U.okN l = true := g3
  unfold U.okN at g3
  rw [Bool.and_eq_true] at g3
  have g4 : l.length ≤ 1000 := of_decide_eq_true g3.1
  refine Rounds.mapA (B := b99_0) l (fun i s => ((e, l, (l.length : Int), (i : Int), ()), s, ())) itoaB (fun s => (e, s)) 2000 (fun i s hi hv => ?_) (fun s => ?_) out (by omega)
  · have er : rget (.int .i64) l (i : Int) = l[i] := by rw [rget_nat]; exact getD_el hi
    have hr : 0 ≤ (l[i] : Int) ∧ (l[i] : Int) < 1000000000 := of_decide_eq_true (List.all_eq_true.1 g3.2 l[i] (List.getElem_mem hi))
    have hr2 : decide ((-9223372036854775808 : Int) ≤ rget (.int .i64) l (i : Int) ∧ rget (.int .i64) l (i : Int) ≤ (9223372036854775807 : Int)) = true := by
      rw [er]
      exact decide_eq_true ⟨Int.le_trans (by decide) hr.1, Int.le_trans (Int.le_of_lt hr.2) (by decide)⟩
    have h16 : (s.length + 1) * 16 ≤ 140737488355328 := by omega
    simp only [b99_0, B99_0, Tr.val, inB_nat hi, hr2, show ((i : Int) < (l.length : Int)) by omega, h16, decide_true, cond_true, wrap64_nat (show i ≤ 1048576 by omega)]
    rw [er]
  · simp only [b99_0, B99_0, Tr.val, show ¬ ((l.length : Int) < (l.length : Int)) by omega, decide_false, cond_false]
def d99 (a : ByteArray) (b : List Int) : Tr (ByteArray) :=
 let v1 : Int := ((↑(List.length b) : Int))
 let v2 : Int := ((↑(List.length b) : Int))
 let v3 : List ByteArray := (List.append [] (List.map itoaB b))
 let v4 : ByteArray := (strOf (U.joinI { data := #[OfNat.ofNat (59 : Nat)] } v3))
 let v5 : ByteArray := ({ data := #[OfNat.ofNat (27 : Nat), OfNat.ofNat (91 : Nat)] } ++ v4)
 Tr.ite (decide (v2 = v1 ∧ (0 : Int) = (0 : Int) ∧ (0 : Nat) ≤ (1000 : Nat)) && U.okN b) (Tr.ite (decide ((1 : Nat) ≤ (1 : Nat) ∧ (1 : Nat) ≤ (1048576 : Nat) ∧ List.length v3 ≤ (1048576 : Nat) ∧ U.sumS v3 + List.length v3 * (1 : Nat) ≤ (140737488355328 : Nat))) (Tr.ite (decide ((2 : Nat) + ByteArray.size v4 ≤ (9223372036854775807 : Nat))) (Tr.ite (decide (ByteArray.size v5 + ByteArray.size a ≤ (9223372036854775807 : Nat))) (Tr.ret (v5 ++ a)) Tr.fail) Tr.fail) Tr.fail) Tr.fail
def e99 (r : ByteArray) : FRes := { rs := Slot.av (AV.one (Leaf.dat Kd.str r)), upd := [], new := [] }
@[reducible] def a99 : List AK := [AK.d Kd.str, AK.d (Kd.sl (.int .i64))]
@[reducible] def b99 : List BK := []
theorem t99 (a : ByteArray) (b : List Int) : evFn (E99) Tryd.f99 [PM.data Kd.str] (akAV a99 (a, b, ())) (bkBs b99 ()) = (d99 a b).map e99 := by kernel_rfl
def s99 (C : akT a99 → Bool) (G : akT a99 → ByteArray) : FSpec := aspec a99 b99 e99 (fun x _ => C x) (fun x _ => G x)
theorem k99 {C : akT a99 → Bool} {G : akT a99 → ByteArray} (hd : ∀ (a : ByteArray) (b : List Int), C (a, b, ()) = true → (d99 a b).val = some (G (a, b, ()))) (IO : ItOK Tryd.prog (E99) := by exact itOK_none rfl) (L : ∀ c, Tryd.f99.body = some c → LsOK (evI 2) ((E99).lend 0) c := by exact fun c _ => LsOK_none rfl c) : SpecOK Tryd.prog E0 99 (s99 C G) :=
  aspec_ok (ak := a99) (bl := b99) (e := e99) (c := fun x _ => C x) (g := fun x _ => G x) (E0 := E0) (E := E99) tab AG99 rfl rfl hm Tryd.func99 (by kernel_rfl) [PM.data Kd.str] (fun X Y H => by obtain ⟨a, ⟨b, _⟩⟩ := X; exact val_of (t99 a b) (hd a b H)) IO L
end Go.Proofs.YtdlbnlbajnafdaaDoor
namespace U
theorem joinI_len (s : ByteArray) : ∀ l : List ByteArray, (joinI s l).length ≤ sumS l + l.length * s.size
  | [] => Nat.zero_le _
  | x :: r => by
    have e : ∀ r : List ByteArray, (r.flatMap fun y => bytesL s ++ bytesL y).length = sumS r + r.length * s.size := by
      intro r
      induction r with
      | nil => show 0 = 0 + 0 * _; rw [Nat.zero_mul]
      | cons y r ih =>
        rw [List.flatMap_cons, List.length_append, ih, List.length_append, Ev.bytesL_len, Ev.bytesL_len, List.length_cons, Nat.add_mul]
        show _ = y.size + sumS r + _
        omega
    show (bytesL x ++ r.flatMap fun y => bytesL s ++ bytesL y).length ≤ x.size + sumS r + _
    rw [List.length_append, e, Ev.bytesL_len, List.length_cons, Nat.add_mul]
    omega
theorem seq_in {l : List Int} (h : okN l = true) : (joinI smiS (l.map itoaB)).length ≤ 10000 := by
  unfold okN at h
  rw [Bool.and_eq_true] at h
  have h1 : l.length ≤ 1000 := of_decide_eq_true h.1
  have h2 := okN_sum h.2
  have h3 := joinI_len smiS (l.map itoaB)
  rw [List.length_map, show smiS.size = 1 from rfl] at h3
  omega
end U
namespace Go.Proofs.YtdlbnlbajnafdaaDoor
abbrev w99 : FSpec := s99 (fun x => decide (ByteArray.size x.1 ≤ 1048576) && U.okN x.2.1) fun x => U.seqS x.1 x.2.1
theorem wk99 : SpecOK Tryd.prog E0 99 w99 := by
  refine k99 (fun e l H => ?_) (L := ls_ok (lcs := [lc Tryd.f99 0]) (rgs := []) (by kernel_rfl) (by kernel_rfl) L99 trivial)
  have H : (decide (e.size ≤ 1048576) && U.okN l) = true := H
  rw [Bool.and_eq_true] at H
  have he : e.size ≤ 1048576 := of_decide_eq_true H.1
  have hl : U.okN l = true := H.2
  show _ = some (U.seqS e l)
  have g6 := U.seq_in hl
  have hl' := hl
  unfold U.okN at hl
  rw [Bool.and_eq_true] at hl
  have g4 : l.length ≤ 1000 := of_decide_eq_true hl.1
  have g5 := U.okN_sum hl.2
  have p1 : (List.append [] (List.map itoaB l)).length ≤ 1048576 := by
    show (List.map itoaB l).length ≤ _
    rw [List.length_map]; omega
  have p2 : U.sumS (List.append [] (List.map itoaB l)) + (List.append [] (List.map itoaB l)).length * 1 ≤ 140737488355328 := by
    show U.sumS (List.map itoaB l) + (List.map itoaB l).length * 1 ≤ _
    rw [List.length_map]; omega
  have g7 : (strOf (U.joinI { data := #[59] } (List.append [] (List.map itoaB l)))).size ≤ 10000 := by
    rw [U.strOf_size]
    exact g6
  have p3 : 2 + (strOf (U.joinI { data := #[59] } (List.append [] (List.map itoaB l)))).size ≤ 9223372036854775807 := by omega
  have p4 : (({ data := #[27, 91] } : ByteArray) ++ strOf (U.joinI { data := #[59] } (List.append [] (List.map itoaB l)))).size + e.size ≤ 9223372036854775807 := by
    rw [ByteArray.size_append]
    have : (⟨#[27, 91]⟩ : ByteArray).size = 2 := rfl
    omega
  simp only [d99, Tr.val, hl', p1, p2, p3, p4, show (1 : Nat) ≤ 1 from Nat.le_refl 1, show (1 : Nat) ≤ 1048576 by omega, show (0 : Nat) ≤ 1000 by omega, and_self, decide_true, Bool.and_self, cond_true]
  rfl
abbrev G50 : List (Nat × FSpec) := [(51, itoaS), (108, w108)]
theorem AG50 : AllFn Tryd.prog E0 G50 := .cons wk51 (.cons wk108 .nil)
def live50 (key : Nat) : Lv :=
  bif Nat.beq key 3 then { ls := [3, 7, 8, 9] } else bif Nat.beq key 1003 then { ls := [3] } else
  { ls := [] }
abbrev M50 (ls : Nat → VS → Option (Tr (Ex × VS))) : Env := (E0.withFns G50).loops live50 ls
@[reducible] def p50_0 : LP := { n := 25, sl := [.d (Kd.str), .d (Kd.sl (.int .i64)), .d (.int .i64), .d (.int .i64)], bl := [] }
def B50_0 (x0 : ByteArray) (x1 : List Int) (x2 : Int) (x3 : Int) : Tr (p50_0.T ⊕ (ByteArray)) :=
 let v1 : ByteArray := (itoaB (rget (.int .i64) x1 x3))
 let v2 : ByteArray := (x0 ++ { data := #[OfNat.ofNat (59 : Nat)] })
 let v3 : Bool := (decide ((-9223372036854775808 : Int) ≤ rget (.int .i64) x1 x3 ∧ rget (.int .i64) x1 x3 ≤ (9223372036854775807 : Int)))
 Tr.ite (decide (x3 < x2)) (Tr.ite (inB x3 (List.length x1)) (Tr.ite (decide ((0 : Int) < x3)) (Tr.ite (decide (ByteArray.size x0 + (1 : Nat) ≤ (9223372036854775807 : Nat))) (Tr.ite v3 (Tr.ite (decide (ByteArray.size v2 + ByteArray.size v1 ≤ (9223372036854775807 : Nat))) (Tr.ret (Sum.inl ((v2 ++ v1, x1, x2, IntKind.wrap IntKind.i64 (x3 + (1 : Int)), ()), ()))) Tr.fail) Tr.fail) Tr.fail) (Tr.ite v3 (Tr.ite (decide (ByteArray.size x0 + ByteArray.size v1 ≤ (9223372036854775807 : Nat))) (Tr.ret (Sum.inl ((x0 ++ v1, x1, x2, IntKind.wrap IntKind.i64 (x3 + (1 : Int)), ()), ()))) Tr.fail) Tr.fail)) Tr.fail) (Tr.ret (Sum.inr x0))
def X50_0 (r : (ByteArray)) : Ex × VS := Prod.mk (Ex.exit ( 0)) { n := 25, v := [Slot.av (AV.one (Leaf.dat Kd.str r))], h := [] }
def b50_0 : p50_0.T → Tr (p50_0.T ⊕ (ByteArray)) := fun ⟨⟨x0, ⟨x1, ⟨x2, ⟨x3, _⟩⟩⟩⟩, _⟩ => B50_0 x0 x1 x2 x3
theorem h50_0 (ls : Nat → VS → Option (Tr (Ex × VS))) (x : p50_0.T) : (evC (evI 2) (lc Tryd.f50 0) (Env.lend (M50 ls) 0) (unV (live50 3) (p50_0.V x))).map (decL 0 (live50 3) (live50 1003)) = (b50_0 x).map (encR p50_0.V X50_0) := by
  obtain ⟨⟨x0, ⟨x1, ⟨x2, ⟨x3, _⟩⟩⟩⟩, _⟩ := x; kernel_rfl
theorem c50_0 (x : p50_0.T) : canV 0 (live50 3) (unV (live50 3) (p50_0.V x)) = p50_0.V x := by
  obtain ⟨⟨x0, ⟨x1, ⟨x2, ⟨x3, _⟩⟩⟩⟩, _⟩ := x; kernel_rfl
theorem l50_0 {T : p50_0.T → Tr (ByteArray)} {ls : Nat → VS → Option (Tr (Ex × VS))} (hls : ∀ x, (Env.lend (M50 ls) 0).ls 3 x = p50_0.ls (fun a => (T a).map X50_0) x) (hS : ∀ x r, (T x).val = some r → Rounds b50_0 x r) : LoopOK (evI 2) (Env.lend (M50 ls) 0) (lc Tryd.f50 0) :=
  loopA 3 (live50 3) (live50 1003) p50_0 b50_0 X50_0 T (by kernel_rfl) rfl rfl hls (h50_0 ls) c50_0 hS
def T50 (x : p50_0.T) : Tr ByteArray :=
  match x with
  | ⟨⟨s, l, n, i, _⟩, _⟩ => .ite (decide ((n : Int) = (List.length (α := Int) l : Int) ∧ (i : Int) = 0 ∧ ByteArray.size s ≤ 1048576) && U.okN l)
    (.ret (s ++ strOf (U.joinI U.smiS (List.map (α := Int) (β := ByteArray) itoaB l)))) .fail
abbrev E50 : Env := M50 fun key x => bif Nat.beq key 3 then p50_0.ls (fun a => (T50 a).map X50_0) x else none
end Go.Proofs.YtdlbnlbajnafdaaDoor
namespace U
theorem okN_take {l : List Int} (h : okN l = true) (i : Nat) : okN (l.take i) = true := by
  unfold okN at h ⊢
  rw [Bool.and_eq_true] at h ⊢
  have h1 : l.length ≤ 1000 := of_decide_eq_true h.1
  refine ⟨decide_eq_true (by rw [List.length_take]; omega), List.all_eq_true.2 fun x hx => List.all_eq_true.1 h.2 x (List.mem_of_mem_take hx)⟩
end U
namespace Go.Proofs.YtdlbnlbajnafdaaDoor
theorem R50 (s : ByteArray) (l : List Int) (hs : s.size ≤ 1048576) (hl : U.okN l = true) : ∀ (k i : Nat), i + k = l.length →
    Rounds b50_0 ((s ++ strOf (U.joinI U.smiS ((l.take i).map itoaB)), l, (l.length : Int), (i : Int), ()), ()) (s ++ strOf (U.joinI U.smiS (l.map itoaB)))
  | 0, i, e => by
    have e : i = l.length := by omega
    subst e
    rw [List.take_length]
    refine .exit ?_
    simp only [b50_0, B50_0, Tr.val, show ¬ ((l.length : Int) < (l.length : Int)) by omega, decide_false, cond_false]
  | k + 1, i, e => by
    have hi : i < l.length := by omega
    have hl' := hl
    unfold U.okN at hl'
    rw [Bool.and_eq_true] at hl'
    have g4 : l.length ≤ 1000 := of_decide_eq_true hl'.1
    have er : rget (.int .i64) l (i : Int) = l[i] := by rw [rget_nat]; exact getD_el hi
    have hr : 0 ≤ (l[i] : Int) ∧ (l[i] : Int) < 1000000000 := of_decide_eq_true (List.all_eq_true.1 hl'.2 l[i] (List.getElem_mem hi))
    have h9 := U.itoa_size hr.1 hr.2
    have hr2 : decide ((-9223372036854775808 : Int) ≤ rget (.int .i64) l (i : Int) ∧ rget (.int .i64) l (i : Int) ≤ (9223372036854775807 : Int)) = true := by
      rw [er]
      exact decide_eq_true ⟨Int.le_trans (by decide) hr.1, Int.le_trans (Int.le_of_lt hr.2) (by decide)⟩
    have g6 := U.seq_in (U.okN_take hl i)
    have hz : (s ++ strOf (U.joinI U.smiS ((l.take i).map itoaB))).size ≤ 1058576 := by
      rw [ByteArray.size_append, U.strOf_size]
      omega
    refine .step ?_ (R50 s l hs hl k (i + 1) (by omega))
    have lt : decide ((i : Int) < (l.length : Int)) = true := decide_eq_true (by omega)
    have ht : l.take (i + 1) = l.take i ++ [l[i]] := by rw [List.take_succ_eq_append_getElem hi]
    generalize hq : strOf (U.joinI U.smiS ((l.take i).map itoaB)) = q at hz
    rw [ht, List.map_append]
    cases i with
    | zero =>
      have hq : q = ⟨#[]⟩ := by rw [← hq]; rfl
      have c1 : decide ((s ++ q).size + (itoaB (rget (.int .i64) l ((0 : Nat) : Int))).size ≤ 9223372036854775807) = true := by rw [er]; exact decide_eq_true (by omega)
      simp only [b50_0, B50_0, Tr.val, lt, inB_nat hi, hr2, c1, show ¬ ((0 : Int) < ((0 : Nat) : Int)) by omega, decide_false, cond_true, cond_false, wrap64_nat (show 0 ≤ 1048576 by omega)]
      rw [er, hq]
      show some (Sum.inl ((s ++ ByteArray.empty ++ itoaB l[0], _), _)) = some (Sum.inl ((s ++ strOf (U.joinI U.smiS [itoaB l[0]]), _), _))
      rw [U.join_one]
      simp
    | succ i =>
      obtain ⟨x, r, hx⟩ : ∃ x r, l.take (i + 1) = x :: r := by
        cases hc : l.take (i + 1) with
        | nil => rw [List.take_eq_nil_iff] at hc; rcases hc with hc | hc <;> simp_all
        | cons x r => exact ⟨x, r, rfl⟩
      have c2 : decide ((s ++ q).size + 1 ≤ 9223372036854775807) = true := decide_eq_true (by omega)
      have c1 : decide ((s ++ q ++ (⟨#[59]⟩ : ByteArray)).size + (itoaB (rget (.int .i64) l ((i + 1 : Nat) : Int))).size ≤ 9223372036854775807) = true := by
        rw [er, ByteArray.size_append]
        have : (⟨#[59]⟩ : ByteArray).size = 1 := rfl
        exact decide_eq_true (by omega)
      simp only [b50_0, B50_0, Tr.val, lt, inB_nat hi, hr2, c2, show ((0 : Int) < ((i + 1 : Nat) : Int)) by omega, decide_true, cond_true, cond_false, wrap64_nat (show i + 1 ≤ 1048576 by omega)]
      erw [c1]
      rw [hx] at hq ⊢
      show some (Sum.inl ((s ++ q ++ U.smiS ++ itoaB _, _), _)) = some (Sum.inl ((s ++ strOf (U.joinI U.smiS ((itoaB x :: r.map itoaB) ++ [itoaB l[i + 1]])), _), _))
      rw [U.join_snoc, er, show strOf (U.joinI U.smiS (itoaB x :: List.map itoaB r)) = q from hq, ByteArray.append_assoc, ByteArray.append_assoc, ByteArray.append_assoc]
theorem L50 : LoopOK (evI 2) (E50.lend 0) (lc Tryd.f50 0) := by
  refine l50_0 (T := T50) (fun x => rfl) ?_
  rintro ⟨⟨s, l, n, i, z⟩, z2⟩ r h
  obtain ⟨g1, g2⟩ := pre_val h
  rw [Bool.and_eq_true] at g1
  obtain ⟨g1, g3⟩ := g1
  have g1 : (n : Int) = (l.length : Int) ∧ (i : Int) = 0 ∧ s.size ≤ 1048576 := of_decide_eq_true g1
  obtain ⟨e1, e2, e3⟩ := g1
  subst e1; subst e2
  cases g2
  have := R50 s l e3 g3 l.length 0 (by omega)
  have e : s ++ strOf (U.joinI U.smiS ((l.take 0).map itoaB)) = s := by
    rw [List.take_zero]
    show s ++ ByteArray.empty = s
    simp
  rw [e] at this
  exact this
def d50 (a1 : Int) (a2 : Int) (a3 : Int) : Tr (ByteArray) :=
 let v1 : List Int := (U.askL (a1, a2, a3, ()))
 let v2 : Int := ((↑(List.length v1) : Int))
 let v3 : Int := ((↑(List.length v1) : Int))
 Tr.ite (U.look (a1, a2, a3, ())) (Tr.ite (decide (v3 = v2 ∧ (0 : Int) = (0 : Int) ∧ (2 : Nat) ≤ (1048576 : Nat)) && U.okN v1) (Tr.ite (decide (ByteArray.size ({ data := #[OfNat.ofNat (27 : Nat), OfNat.ofNat (91 : Nat)] } ++ strOf (U.joinI U.smiS (List.map itoaB v1))) + (1 : Nat) ≤ (9223372036854775807 : Nat))) (Tr.ret ({ data := #[OfNat.ofNat (27 : Nat), OfNat.ofNat (91 : Nat)] } ++ strOf (U.joinI U.smiS (List.map itoaB v1)) ++ { data := #[OfNat.ofNat (109 : Nat)] })) Tr.fail) Tr.fail) Tr.fail
def e50 (r : ByteArray) : FRes := { rs := Slot.av (AV.one (Leaf.dat Kd.str r)), upd := [], new := [] }
@[reducible] def a50 : List AK := [AK.d attk]
@[reducible] def b50 : List BK := []
theorem t50 (a1 : Int) (a2 : Int) (a3 : Int) : evFn (E50) Tryd.f50 [PM.data Kd.str] (akAV a50 ((a1, a2, a3, ()), ())) (bkBs b50 ()) = (d50 a1 a2 a3).map e50 := by kernel_rfl
def s50 (C : akT a50 → Bool) (G : akT a50 → ByteArray) : FSpec := aspec a50 b50 e50 (fun x _ => C x) (fun x _ => G x)
theorem k50 {C : akT a50 → Bool} {G : akT a50 → ByteArray} (hd : ∀ (a1 : Int) (a2 : Int) (a3 : Int), C ((a1, a2, a3, ()), ()) = true → (d50 a1 a2 a3).val = some (G ((a1, a2, a3, ()), ()))) (IO : ItOK Tryd.prog (E50) := by exact itOK_none rfl) (L : ∀ c, Tryd.f50.body = some c → LsOK (evI 2) ((E50).lend 0) c := by exact fun c _ => LsOK_none rfl c) : SpecOK Tryd.prog E0 50 (s50 C G) :=
  aspec_ok (ak := a50) (bl := b50) (e := e50) (c := fun x _ => C x) (g := fun x _ => G x) (E0 := E0) (E := E50) tab AG50 rfl rfl hm Tryd.func50 (by kernel_rfl) [PM.data Kd.str] (fun X Y H => by obtain ⟨⟨a1, ⟨a2, ⟨a3, _⟩⟩⟩, _⟩ := X; exact val_of (t50 a1 a2 a3) (hd a1 a2 a3 H)) IO L
def d98 (a1 : Int) (a2 : Int) (a3 : Int) : Tr (ByteArray) :=
 let v1 : List Int := ((bif U.look (a1, a2, a3, ()) then (U.askL (a1, a2, a3, ()), (0 : Int)) else ([], (1 : Int))).fst)
 Tr.ite (true && U.okN v1) (Tr.ret (U.seqS { data := #[OfNat.ofNat (109 : Nat)] } v1)) Tr.fail
def e98 (r : ByteArray) : FRes := { rs := Slot.av (AV.one (Leaf.dat Kd.str r)), upd := [], new := [] }
@[reducible] def a98 : List AK := [AK.d attk]
@[reducible] def b98 : List BK := []
theorem t98 (a1 : Int) (a2 : Int) (a3 : Int) : evFn (Env.withFns E0 [((156 : Nat), w156), ((99 : Nat), w99)]) Tryd.f98 [PM.data Kd.str] (akAV a98 ((a1, a2, a3, ()), ())) (bkBs b98 ()) = (d98 a1 a2 a3).map e98 := by kernel_rfl
def s98 (C : akT a98 → Bool) (G : akT a98 → ByteArray) : FSpec := aspec a98 b98 e98 (fun x _ => C x) (fun x _ => G x)
theorem k98 {C : akT a98 → Bool} {G : akT a98 → ByteArray} (hd : ∀ (a1 : Int) (a2 : Int) (a3 : Int), C ((a1, a2, a3, ()), ()) = true → (d98 a1 a2 a3).val = some (G ((a1, a2, a3, ()), ()))) (IO : ItOK Tryd.prog (Env.withFns E0 [((156 : Nat), w156), ((99 : Nat), w99)]) := by exact itOK_none rfl) (L : ∀ c, Tryd.f98.body = some c → LsOK (evI 2) ((Env.withFns E0 [((156 : Nat), w156), ((99 : Nat), w99)]).lend 0) c := by exact fun c _ => LsOK_none rfl c) : SpecOK Tryd.prog E0 98 (s98 C G) :=
  aspec_ok (ak := a98) (bl := b98) (e := e98) (c := fun x _ => C x) (g := fun x _ => G x) (E0 := E0) (E := Env.withFns E0 [((156 : Nat), w156), ((99 : Nat), w99)]) tab (.cons wk156 (.cons wk99 .nil)) rfl rfl hm Tryd.func98 (by kernel_rfl) [PM.data Kd.str] (fun X Y H => by obtain ⟨⟨a1, ⟨a2, ⟨a3, _⟩⟩⟩, _⟩ := X; exact val_of (t98 a1 a2 a3) (hd a1 a2 a3 H)) IO L
end Go.Proofs.YtdlbnlbajnafdaaDoor
namespace U
theorem flags_in {f : Int} : ∀ x ∈ flagsL f, 0 ≤ x ∧ x < 1000000000 := by
  intro x hx
  have := filtI_in _ _ _ _ hx
  simp only [List.mem_cons, List.mem_nil_iff, or_false] at this
  omega
theorem ask_ok {a : At} (h : look a = true) : okN (askL a) = true := by
  obtain ⟨a, b, f, u⟩ := a
  obtain ⟨⟨a0, a1⟩, ⟨b0, b1⟩, f0, f1⟩ := Go.Proofs.YtdlbnlbajnafdaaDoor.look_in h
  have hb : (flagsL f).length ≤ 8 := filtI_len _ _ _
  unfold okN askL
  rw [Bool.and_eq_true]
  refine ⟨decide_eq_true ?_, List.all_eq_true.2 fun x hx => decide_eq_true ?_⟩
  · rw [List.length_cons, List.length_append, List.length_append]
    by_cases p : 0 < a <;> by_cases q : 0 < b <;> simp only [p, q, decide_true, decide_false, cond_true, cond_false, List.length_cons, List.length_nil] <;> omega
  · rcases List.mem_cons.1 hx with hx | hx
    · rw [hx]; decide
    · rcases List.mem_append.1 hx with hx | hx
      · exact flags_in x hx
      · rcases List.mem_append.1 hx with hx | hx
        · by_cases p : 0 < a <;> simp only [p, decide_true, decide_false, cond_true, cond_false, List.mem_cons, List.mem_nil_iff, or_false] at hx
          omega
        · by_cases p : 0 < b <;> simp only [p, decide_true, decide_false, cond_true, cond_false, List.mem_cons, List.mem_nil_iff, or_false] at hx
          omega
theorem seqS_size {e : ByteArray} {l : List Int} (h : okN l = true) : (seqS e l).size ≤ 10002 + e.size := by
  unfold seqS
  rw [ByteArray.size_append, ByteArray.size_append, strOf_size]
  have := seq_in h
  have : escS.size = 2 := rfl
  omega
theorem one_ok {n : Nat} (h : n ≤ 1048576) : okN [((n : Nat) : Int)] = true := by
  unfold okN
  rw [Bool.and_eq_true]
  refine ⟨rfl, List.all_eq_true.2 fun x hx => decide_eq_true ?_⟩
  rw [List.mem_singleton] at hx
  omega
end U
namespace Go.Proofs.YtdlbnlbajnafdaaDoor
abbrev w50 : FSpec := s50 (fun x => U.look x.1) fun x => U.askS x.1
theorem wk50 : SpecOK Tryd.prog E0 50 w50 := by
  refine k50 (fun a b f H => ?_) (L := ls_ok (lcs := [lc Tryd.f50 0]) (rgs := []) (by kernel_rfl) (by kernel_rfl) L50 trivial)
  have hl : U.look (a, b, f, ()) = true := H
  have ho := U.ask_ok hl
  have h6 := U.seq_in ho
  have p4 : (({ data := #[27, 91] } : ByteArray) ++ strOf (U.joinI U.smiS (List.map itoaB (U.askL (a, b, f, ()))))).size + 1 ≤ 9223372036854775807 := by
    rw [ByteArray.size_append, U.strOf_size]
    have : (⟨#[27, 91]⟩ : ByteArray).size = 2 := rfl
    omega
  show _ = some (U.askS (a, b, f, ()))
  simp only [d50, Tr.val, hl, ho, p4, show (2 : Nat) ≤ 1048576 by omega, and_self, decide_true, Bool.and_self, cond_true]
  rfl
abbrev w98 : FSpec := s98 (fun x => U.look x.1) fun x => U.askS x.1
theorem wk98 : SpecOK Tryd.prog E0 98 w98 := by
  refine k98 fun a b f H => ?_
  have hl : U.look (a, b, f, ()) = true := H
  have ho := U.ask_ok hl
  show _ = some (U.askS (a, b, f, ()))
  simp only [d98, Tr.val, hl, ho, Bool.and_self, cond_true]
  rfl
end Go.Proofs.YtdlbnlbajnafdaaDoor
end
section
set_option linter.unusedVariables false
set_option linter.unusedSimpArgs false
set_option maxRecDepth 20000
set_option maxHeartbeats 4000000
open Go Go.Ev
namespace Go.Proofs.YtdlbnlbajnafdaaDoor
open Go.RowKit
namespace Mr
def d153 (a1 : List Cell) (a2 : Bool) : Tr (Bool × List U.Cl) :=
 let v1 : Int := ((↑(List.length a1) : Int))
 let v2 : Int := ((↑(List.length a1) : Int))
 Tr.ite (decide (List.length a1 ≤ (1048576 : Nat))) (Tr.ite (decide (v2 = v1 ∧ (0 : Int) = (0 : Int) ∧ List.length a1 ≤ (1048576 : Nat))) (Tr.ret (a2, U.mend a1)) Tr.fail) Tr.fail
def e153 (r : Bool × List U.Cl) : FRes := { rs := Slot.av (AV.agg [Leaf.row ( 0), Leaf.dat Kd.bool r.fst]), upd := [], new := [Blk.row ( 76) celk r.snd] }
@[reducible] def a153 : List AK := [AK.d link]
@[reducible] def b153 : List BK := []
theorem t153 (a1 : List Cell) (a2 : Bool) : evFn (E153) Tryd.f153 [PM.raw] (akAV a153 ((a1, a2, ()), ())) (bkBs b153 ()) = (d153 a1 a2).map e153 := by kernel_rfl
def s153 (C : akT a153 → Bool) (G : akT a153 → Bool × List U.Cl) : FSpec := aspec a153 b153 e153 (fun x _ => C x) (fun x _ => G x)
theorem k153 {C : akT a153 → Bool} {G : akT a153 → Bool × List U.Cl} (hd : ∀ (a1 : List Cell) (a2 : Bool), C ((a1, a2, ()), ()) = true → (d153 a1 a2).val = some (G ((a1, a2, ()), ()))) (IO : ItOK Tryd.prog (E153) := by exact itOK_none rfl) (L : ∀ c, Tryd.f153.body = some c → LsOK (evI 2) ((E153).lend 0) c := by exact fun c _ => LsOK_none rfl c) : SpecOK Tryd.prog E0 153 (s153 C G) :=
  aspec_ok (ak := a153) (bl := b153) (e := e153) (c := fun x _ => C x) (g := fun x _ => G x) (E0 := E0) (E := E153) tab AG153 rfl rfl hm Tryd.func153 (by kernel_rfl) [PM.raw] (fun X Y H => by obtain ⟨⟨a1, ⟨a2, _⟩⟩, _⟩ := X; exact val_of (t153 a1 a2) (hd a1 a2 H)) IO L
end Mr
abbrev w153r : FSpec := Mr.s153 (fun x => decide (List.length (α := Cell) x.1.1 ≤ 1048576)) fun x => (x.1.2.1, U.mend x.1.1)
theorem wk153r : SpecOK Tryd.prog E0 153 w153r := by
  refine Mr.k153 (fun l s H => ?_) (L := ls_ok (lcs := [lc Tryd.f153 0]) (rgs := []) (by kernel_rfl) (by kernel_rfl) L153 trivial)
  have hl : l.length ≤ 1048576 := of_decide_eq_true H
  show _ = some (s, U.mend l)
  simp only [Mr.d153, Tr.val, hl, decide_true, and_self, cond_true]
abbrev G94 : List (Nat × FSpec) := [(151, w151), (152, w152), (153, w153r)]
theorem AG94 : AllFn Tryd.prog E0 G94 := .cons wk151 (.cons wk152 (.cons wk153r .nil))
def live94 (key : Nat) : Lv :=
  bif Nat.beq key 7 then { ls := [2, 4, 33, 34, 35], wd := [⟨2, some 0, .row 76 celk⟩] } else bif Nat.beq key 1007 then { ls := [2, 4] } else
  bif Nat.beq key 3 then { ls := [1, 2, 4, 5], wd := [⟨5, none, .row 76 celk⟩] } else bif Nat.beq key 1003 then { ls := [2, 4, 5] } else
  { ls := [] }
abbrev M94 (ls : Nat → VS → Option (Tr (Ex × VS))) : Env := (E0.withFns G94).loops live94 ls
@[reducible] def p94_0 : LP := { n := 74, sl := [.d (.int .i64), .c (Leaf.ptr ( 0) ( 0)), .c (Leaf.ptr ( 1) ( 0)), .c (Leaf.row ( 2))], bl := [(0, .box [.d (Kd.sl celk), .d (Kd.bool)]), (1, .box [.c (Leaf.nils), .d (Kd.bool)]), (2, .row 76 (celk))] }
def B94_0 (x0 : Int) (h0_0 : List Cell) (h0_1 : Bool) (h1_1 : Bool) (h2 : List Cell) : Tr (p94_0.T ⊕ (List Cell × Bool × Bool × List Cell)) :=
 let v1 : Int := ((↑(List.length h2) : Int))
 Tr.ite (decide (v1 < x0)) (Tr.ite (decide ((List.length h2 + (1 : Nat)) * (48 : Nat) ≤ (140737488355328 : Nat))) (Tr.ret (Sum.inl ((x0, ()), (h0_0, h0_1, ()), (h1_1, ()), h2 ++ [(ByteArray.empty, (1 : Int), ((0 : Int), (0 : Int), (0 : Int), ()), ())], ()))) Tr.fail) (Tr.ret (Sum.inr (h0_0, h0_1, h1_1, h2)))
def X94_0 (r : (List Cell × Bool × Bool × List Cell)) : Ex × VS := Prod.mk (Ex.exit ( 0)) { n := 74, v := [Slot.av (AV.one (Leaf.ptr ( 0) ( 0))), Slot.av (AV.one (Leaf.ptr ( 1) ( 0))), Slot.av (AV.one (Leaf.row ( 2)))], h := [( 0, Blk.box [Leaf.dat (Kd.sl celk) r.fst, Leaf.dat Kd.bool r.snd.fst]), ( 1, Blk.box [Leaf.nils, Leaf.dat Kd.bool r.snd.snd.fst]), ( 2, Blk.row ( 76) celk r.snd.snd.snd)] }
def b94_0 : p94_0.T → Tr (p94_0.T ⊕ (List Cell × Bool × Bool × List Cell)) := fun ⟨⟨x0, _⟩, ⟨⟨h0_0, ⟨h0_1, _⟩⟩, ⟨⟨h1_1, _⟩, ⟨h2, _⟩⟩⟩⟩ => B94_0 x0 h0_0 h0_1 h1_1 h2
theorem h94_0 (ls : Nat → VS → Option (Tr (Ex × VS))) (x : p94_0.T) : (evC (evI 2) (lc Tryd.f94 0) (Env.lend (M94 ls) 0) (unV (live94 3) (p94_0.V x))).map (decL 0 (live94 3) (live94 1003)) = (b94_0 x).map (encR p94_0.V X94_0) := by
  obtain ⟨⟨x0, _⟩, ⟨⟨h0_0, ⟨h0_1, _⟩⟩, ⟨⟨h1_1, _⟩, ⟨h2, _⟩⟩⟩⟩ := x; kernel_rfl
theorem c94_0 (x : p94_0.T) : canV 0 (live94 3) (unV (live94 3) (p94_0.V x)) = p94_0.V x := by
  obtain ⟨⟨x0, _⟩, ⟨⟨h0_0, ⟨h0_1, _⟩⟩, ⟨⟨h1_1, _⟩, ⟨h2, _⟩⟩⟩⟩ := x; kernel_rfl
theorem l94_0 {T : p94_0.T → Tr (List Cell × Bool × Bool × List Cell)} {ls : Nat → VS → Option (Tr (Ex × VS))} (hls : ∀ x, (Env.lend (M94 ls) 0).ls 3 x = p94_0.ls (fun a => (T a).map X94_0) x) (hS : ∀ x r, (T x).val = some r → Rounds b94_0 x r) : LoopOK (evI 2) (Env.lend (M94 ls) 0) (lc Tryd.f94 0) :=
  loopA 3 (live94 3) (live94 1003) p94_0 b94_0 X94_0 T (by kernel_rfl) rfl rfl hls (h94_0 ls) c94_0 hS
def T94_0 (x : p94_0.T) : Tr (List Cell × Bool × Bool × List Cell) :=
  match x with
  | ⟨⟨n, _⟩, ⟨⟨l, s, _⟩, ⟨t, _⟩, out, _⟩⟩ => .ite (decide (0 ≤ (n : Int) ∧ (n : Int) ≤ 1048576 ∧ List.length (α := Cell) out ≤ 1048576)) (.ret (l, s, t, U.fillL out (Int.toNat n))) .fail
abbrev N94 (ls : Nat → VS → Option (Tr (Ex × VS))) : Env := M94 fun key x => bif Nat.beq key 3 then p94_0.ls (fun a => (T94_0 a).map X94_0) x else ls key x
theorem R94_0 (n : Nat) (hn : n ≤ 1048576) (l : List Cell) (s t : Bool) : ∀ (k : Nat) (out : List Cell), k = n - out.length → out.length ≤ 1048576 →
    Rounds b94_0 (((n : Int), ()), (l, s, ()), (t, ()), out, ()) (l, s, t, U.fillL out n)
  | 0, out, e, h => by
    have e2 : U.fillL out n = out := by unfold U.fillL; rw [← e]; simp
    rw [e2]
    refine .exit ?_
    simp only [b94_0, B94_0, Tr.val, show ¬ ((out.length : Int) < (n : Int)) by omega, decide_false, cond_false]
  | k + 1, out, e, h => by
    have ih := R94_0 n hn l s t k (out ++ [U.noneC]) (by rw [List.length_append, List.length_singleton]; omega) (by rw [List.length_append, List.length_singleton]; omega)
    have e2 : U.fillL (out ++ [U.noneC]) n = U.fillL out n := by
      unfold U.fillL
      rw [List.length_append, List.length_singleton, List.append_assoc, show n - out.length = (n - (out.length + 1)) + 1 by omega, List.replicate_succ]
      rfl
    rw [e2] at ih
    refine .step ?_ ih
    simp only [b94_0, B94_0, Tr.val, show ((out.length : Int) < (n : Int)) by omega, show (out.length + 1) * 48 ≤ 140737488355328 by omega, decide_true, cond_true]
    rfl
theorem L94_0 {ls : Nat → VS → Option (Tr (Ex × VS))} : LoopOK (evI 2) ((N94 ls).lend 0) (lc Tryd.f94 0) := by
  refine l94_0 (T := T94_0) (fun x => rfl) ?_
  rintro ⟨⟨n, z⟩, ⟨⟨l, s, z1⟩, ⟨t, z2⟩, out, z3⟩⟩ r h
  obtain ⟨g1, g2⟩ := pre_val h
  have g1 : 0 ≤ (n : Int) ∧ (n : Int) ≤ 1048576 ∧ out.length ≤ 1048576 := of_decide_eq_true g1
  obtain ⟨n', rfl⟩ := Int.eq_ofNat_of_zero_le g1.1
  cases g2
  have g2 : (n' : Int) ≤ 1048576 := g1.2.1
  exact R94_0 n' (by omega) l s t _ out rfl g1.2.2
@[reducible] def p94_1 : LP := { n := 74, sl := [.c (Leaf.ptr ( 0) ( 0)), .c (Leaf.ptr ( 1) ( 0)), .c (Leaf.row ( 2)), .d (.int .i64), .d (.int .i64)], bl := [(0, .box [.c (Leaf.row ( 2)), .d (Kd.bool)]), (1, .box [.c (Leaf.nils), .d (Kd.bool)]), (2, .row 76 (celk))] }
def B94_1 (x3 : Int) (x4 : Int) (h0_1 : Bool) (h1_1 : Bool) (h2 : List Cell) : Tr (p94_1.T ⊕ (Bool × Bool × List Cell)) :=
 let v1 : Bool := (inB x4 (List.length h2))
 let v2 : Int := (IntKind.wrap IntKind.i64 (x4 - (1 : Int)))
 Tr.ite (decide (x4 < x3)) (Tr.ite v1 (Tr.ite (decide ((List.getD h2 (Int.toNat x4) (Kd.dflt celk)).snd.fst = (0 : Int))) (Tr.ite (inB v2 (List.length h2)) (Tr.ite v1 (Tr.ret (Sum.inl ((x3, IntKind.wrap IntKind.i64 (x4 + (1 : Int)), ()), (h0_1, ()), (h1_1, ()), List.set h2 (Int.toNat x4) ((List.getD h2 (Int.toNat x4) (Kd.dflt celk)).fst, (List.getD h2 (Int.toNat x4) (Kd.dflt celk)).snd.fst, (List.getD h2 (Int.toNat v2) (Kd.dflt celk)).snd.snd), ()))) Tr.fail) Tr.fail) (Tr.ite (decide ((List.getD h2 (Int.toNat x4) (Kd.dflt celk)).snd.fst = (1 : Int))) (Tr.ite (decide ((List.getD h2 (Int.toNat x4) (Kd.dflt celk)).fst = { data := #[] })) (Tr.ite v1 (Tr.ret (Sum.inl ((x3, IntKind.wrap IntKind.i64 (x4 + (1 : Int)), ()), (h0_1, ()), (h1_1, ()), List.set h2 (Int.toNat x4) (ByteArray.empty, (1 : Int), ((0 : Int), (List.getD h2 (Int.toNat x4) (Kd.dflt celk)).snd.snd.fst.snd.fst, (0 : Int), ()), ()), ()))) Tr.fail) (Tr.ret (Sum.inl ((x3, IntKind.wrap IntKind.i64 (x4 + (1 : Int)), ()), (h0_1, ()), (h1_1, ()), h2, ())))) (Tr.ret (Sum.inl ((x3, IntKind.wrap IntKind.i64 (x4 + (1 : Int)), ()), (h0_1, ()), (h1_1, ()), h2, ()))))) Tr.fail) (Tr.ret (Sum.inr (h0_1, h1_1, h2)))
def X94_1 (r : (Bool × Bool × List Cell)) : Ex × VS := Prod.mk (Ex.exit ( 2)) { n := 74, v := [Slot.av (AV.one (Leaf.ptr ( 0) ( 0))), Slot.av (AV.one (Leaf.ptr ( 1) ( 0)))], h := [( 0, Blk.box [Leaf.row ( 2), Leaf.dat Kd.bool r.fst]), ( 1, Blk.box [Leaf.nils, Leaf.dat Kd.bool r.snd.fst]), ( 2, Blk.row ( 76) celk r.snd.snd)] }
def b94_1 : p94_1.T → Tr (p94_1.T ⊕ (Bool × Bool × List Cell)) := fun ⟨⟨x3, ⟨x4, _⟩⟩, ⟨⟨h0_1, _⟩, ⟨⟨h1_1, _⟩, ⟨h2, _⟩⟩⟩⟩ => B94_1 x3 x4 h0_1 h1_1 h2
theorem h94_1 (ls : Nat → VS → Option (Tr (Ex × VS))) (x : p94_1.T) : (evC (evI 2) (lc Tryd.f94 1) (Env.lend (N94 ls) 0) (unV (live94 7) (p94_1.V x))).map (decL 0 (live94 7) (live94 1007)) = (b94_1 x).map (encR p94_1.V X94_1) := by
  obtain ⟨⟨x3, ⟨x4, _⟩⟩, ⟨⟨h0_1, _⟩, ⟨⟨h1_1, _⟩, ⟨h2, _⟩⟩⟩⟩ := x; kernel_rfl
theorem c94_1 (x : p94_1.T) : canV 0 (live94 7) (unV (live94 7) (p94_1.V x)) = p94_1.V x := by
  obtain ⟨⟨x3, ⟨x4, _⟩⟩, ⟨⟨h0_1, _⟩, ⟨⟨h1_1, _⟩, ⟨h2, _⟩⟩⟩⟩ := x; kernel_rfl
theorem l94_1 {T : p94_1.T → Tr (Bool × Bool × List Cell)} {ls : Nat → VS → Option (Tr (Ex × VS))} (hls : ∀ x, (Env.lend (N94 ls) 0).ls 7 x = p94_1.ls (fun a => (T a).map X94_1) x) (hS : ∀ x r, (T x).val = some r → Rounds b94_1 x r) : LoopOK (evI 2) (Env.lend (N94 ls) 0) (lc Tryd.f94 1) :=
  loopA 7 (live94 7) (live94 1007) p94_1 b94_1 X94_1 T (by kernel_rfl) rfl rfl hls (h94_1 ls) c94_1 hS
theorem getD_mid {α : Type} (pre : List α) (c : α) (rest : List α) (d : α) : (pre ++ c :: rest).getD pre.length d = c := by
  simp [List.getD_eq_getElem?_getD]
theorem set_mid {α : Type} (pre : List α) (c : α) (rest : List α) (y : α) : (pre ++ c :: rest).set pre.length y = pre ++ y :: rest := by
  simp [List.set_append]
theorem getD_pre {α : Type} (pre : List α) (l : List α) (d : α) (h : pre ≠ []) : (pre ++ l).getD (pre.length - 1) d = pre.getD (pre.length - 1) d := by
  have : pre.length - 1 < pre.length := by have := List.length_pos_iff.2 h; omega
  rw [List.getD_eq_getElem?_getD, List.getD_eq_getElem?_getD, List.getElem?_append_left this]
theorem getD_last {α : Type} (pre : List α) (c : α) (d : α) : (pre ++ [c]).getD ((pre ++ [c]).length - 1) d = c := by
  simp [List.getD_eq_getElem?_getD]
def T94_1 (x : p94_1.T) : Tr (Bool × Bool × List Cell) :=
  match x with
  | ⟨⟨n, i, _⟩, ⟨⟨s, _⟩, ⟨t, _⟩, l, _⟩⟩ => .ite (decide ((n : Int) = (List.length (α := Cell) l : Int) ∧ (i : Int) = 0 ∧ List.length (α := Cell) l ≤ 1048576 ∧ (0 < List.length (α := Cell) l → U.cw l 0 ≠ 0)))
    (.ret (s, t, U.plR U.look0 l)) .fail
abbrev E94 : Env := N94 fun key x => bif Nat.beq key 7 then p94_1.ls (fun a => (T94_1 a).map X94_1) x else none
theorem R94_1 (n : Nat) (hn : n ≤ 1048576) (s t : Bool) : ∀ (rest pre : List Cell) (a : U.At), n = pre.length + rest.length → (pre ≠ [] → (pre.getD (pre.length - 1) U.dC).2.2.1 = a) → (pre = [] → 0 < rest.length → U.cw rest 0 ≠ 0) →
    Rounds b94_1 (((n : Int), (pre.length : Int), ()), (s, ()), (t, ()), pre ++ rest, ()) (s, t, pre ++ U.plR a rest)
  | [], pre, a, e, _, _ => by
    have e : n = pre.length := e
    refine .exit ?_
    subst e
    simp only [b94_1, B94_1, Tr.val, show ¬ ((pre.length : Int) < (pre.length : Int)) by omega, decide_false, cond_false]
    rfl
  | c :: rest, pre, a, e, h1, h2 => by
    rw [List.length_cons] at e
    have ih := fun (y : Cell) (b : U.At) (hb : y.2.2.1 = b) => R94_1 n hn s t rest (pre ++ [y]) b (by rw [List.length_append, List.length_singleton]; omega) (fun _ => by rw [getD_last]; exact hb) (fun h => absurd h (by simp))
    have lt : decide ((pre.length : Int) < (n : Int)) = true := decide_eq_true (by omega)
    have hi : inB (pre.length : Int) (pre ++ c :: rest).length = true := inB_nat (by rw [List.length_append, List.length_cons]; omega)
    have w : IntKind.wrap IntKind.i64 ((pre.length : Int) + 1) = ((pre.length + 1 : Nat) : Int) := wrap64_nat (by omega)
    have eg : List.getD (pre ++ c :: rest) pre.length (Kd.dflt celk) = c := getD_mid pre c rest _
    have key : ∀ y : Cell, U.plC a c = y → (b94_1 (((n : Int), (pre.length : Int), ()), (s, ()), (t, ()), pre ++ c :: rest, ())).val = some (.inl (((n : Int), ((pre.length + 1 : Nat) : Int), ()), (s, ()), (t, ()), pre ++ y :: rest, ())) →
        Rounds b94_1 (((n : Int), (pre.length : Int), ()), (s, ()), (t, ()), pre ++ c :: rest, ()) (s, t, pre ++ U.plR a (c :: rest)) := by
      intro y hy hv
      unfold U.plR
      rw [hy, show pre ++ y :: U.plR y.2.2.1 rest = pre ++ [y] ++ U.plR y.2.2.1 rest from by simp]
      have := ih y y.2.2.1 rfl
      rw [List.length_append, List.length_singleton, List.append_assoc] at this
      exact .step hv this
    obtain ⟨xt, xw, ⟨x1, x2, x3, u1⟩, u2⟩ := c
    by_cases w0 : xw = 0
    · subst w0
      have hp : pre ≠ [] := fun hp => h2 hp (by simp) rfl
      have hpl := List.length_pos_iff.2 hp
      have w2 : IntKind.wrap IntKind.i64 ((pre.length : Int) - 1) = ((pre.length - 1 : Nat) : Int) := by
        rw [Go.Ev.w64 (by omega) (by omega)]; omega
      have hi2 : inB ((pre.length - 1 : Nat) : Int) (pre ++ (xt, 0, (x1, x2, x3, u1), u2) :: rest).length = true := inB_nat (by rw [List.length_append, List.length_cons]; omega)
      have eg2 : List.getD (pre ++ (xt, 0, (x1, x2, x3, u1), u2) :: rest) (pre.length - 1) (Kd.dflt celk) = pre.getD (pre.length - 1) U.dC := getD_pre pre _ _ hp
      have h1 : (pre.getD (pre.length - 1) U.dC).2.2 = (a, ()) := Prod.ext (h1 hp) rfl
      refine key (xt, 0, a, ()) rfl ?_
      simp only [b94_1, B94_1, Tr.val, lt, hi, w, w2, hi2, Int.toNat_natCast, eg, eg2, decide_true, cond_true]
      erw [set_mid]
      rw [h1]
    · by_cases w1 : xw = 1
      · subst w1
        by_cases t0 : xt = (⟨#[]⟩ : ByteArray)
        · subst t0
          refine key (ByteArray.empty, 1, (0, x2, 0, ()), ()) rfl ?_
          simp only [b94_1, B94_1, Tr.val, lt, hi, w, Int.toNat_natCast, eg, show ¬ ((1 : Int) = 0) by omega, decide_true, decide_false, cond_true, cond_false]
          erw [set_mid]
        · refine key (xt, 1, (x1, x2, x3, u1), u2) (by unfold U.plC; simp [t0]) ?_
          simp only [b94_1, B94_1, Tr.val, lt, hi, w, Int.toNat_natCast, eg, t0, show ¬ ((1 : Int) = 0) by omega, decide_true, decide_false, cond_true, cond_false]
      · refine key (xt, xw, (x1, x2, x3, u1), u2) (by unfold U.plC; simp [w0, w1]) ?_
        simp only [b94_1, B94_1, Tr.val, lt, hi, w, Int.toNat_natCast, eg, w0, w1, decide_true, decide_false, cond_true, cond_false]
theorem L94_1 : LoopOK (evI 2) (E94.lend 0) (lc Tryd.f94 1) := by
  refine l94_1 (T := T94_1) (fun x => rfl) ?_
  rintro ⟨⟨n, i, z⟩, ⟨⟨s, z1⟩, ⟨t, z2⟩, l, z3⟩⟩ r h
  obtain ⟨g1, g2⟩ := pre_val h
  have g1 : (n : Int) = (l.length : Int) ∧ (i : Int) = 0 ∧ l.length ≤ 1048576 ∧ (0 < l.length → U.cw l 0 ≠ 0) := of_decide_eq_true g1
  obtain ⟨e1, e2, e3, e4⟩ := g1
  subst e1; subst e2
  cases g2
  exact R94_1 l.length e3 s t l [] U.look0 (by simp) (fun h => absurd rfl h) fun _ => e4
def d94 (a1 : List Cell) (a2 : Bool) (b : Int) : Tr (List U.Cl × Bool) :=
 let v1 : Int := ((↑(List.length a1) : Int))
 let v2 : Int := (maxI (0 : Int) (minI b (80 : Int)))
 let v3 : Int := (minI v1 v2)
 let v4 : List Cell := (sub a1 (0 : Nat) (Int.toNat v3))
 let v5 : List U.Cl := (U.fillL v4 (Int.toNat v2))
 let v6 : List U.Cl := (U.mend v5)
 let v7 : Int := ((↑(List.length v6) : Int))
 let v8 : Int := ((↑(List.length v6) : Int))
 Tr.ite (decide ((0 : Int) ≤ v3 ∧ v3 ≤ v1)) (Tr.ite (decide (List.length v4 ≤ (1048576 : Nat))) (Tr.ite (decide ((0 : Int) ≤ v2 ∧ v2 ≤ (1048576 : Int) ∧ List.length v4 ≤ (1048576 : Nat))) (Tr.ite (decide (List.length v5 ≤ (1048576 : Nat))) (Tr.ite (decide (v8 = v7 ∧ (0 : Int) = (0 : Int) ∧ List.length v6 ≤ (1048576 : Nat) ∧ ((0 : Nat) < List.length v6 → U.cw v6 (0 : Nat) ≠ (0 : Int)))) (Tr.ret (U.plR U.look0 v6, false)) Tr.fail) Tr.fail) Tr.fail) Tr.fail) Tr.fail
def e94 (r : List U.Cl × Bool) : FRes := { rs := Slot.av (AV.agg [Leaf.dat (Kd.sl celk) r.fst, Leaf.dat Kd.bool r.snd]), upd := [], new := [] }
@[reducible] def a94 : List AK := [AK.d link, AK.d (.int .i64)]
@[reducible] def b94 : List BK := []
theorem t94 (a1 : List Cell) (a2 : Bool) (b : Int) : evFn (E94) Tryd.f94 [PM.data link] (akAV a94 ((a1, a2, ()), b, ())) (bkBs b94 ()) = (d94 a1 a2 b).map e94 := by kernel_rfl
def s94 (C : akT a94 → Bool) (G : akT a94 → List U.Cl × Bool) : FSpec := aspec a94 b94 e94 (fun x _ => C x) (fun x _ => G x)
theorem k94 {C : akT a94 → Bool} {G : akT a94 → List U.Cl × Bool} (hd : ∀ (a1 : List Cell) (a2 : Bool) (b : Int), C ((a1, a2, ()), b, ()) = true → (d94 a1 a2 b).val = some (G ((a1, a2, ()), b, ()))) (IO : ItOK Tryd.prog (E94) := by exact itOK_none rfl) (L : ∀ c, Tryd.f94.body = some c → LsOK (evI 2) ((E94).lend 0) c := by exact fun c _ => LsOK_none rfl c) : SpecOK Tryd.prog E0 94 (s94 C G) :=
  aspec_ok (ak := a94) (bl := b94) (e := e94) (c := fun x _ => C x) (g := fun x _ => G x) (E0 := E0) (E := E94) tab AG94 rfl rfl hm Tryd.func94 (by kernel_rfl) [PM.data link] (fun X Y H => by obtain ⟨⟨a1, ⟨a2, _⟩⟩, ⟨b, _⟩⟩ := X; exact val_of (t94 a1 a2 b) (hd a1 a2 b H)) IO L
end Go.Proofs.YtdlbnlbajnafdaaDoor
namespace U
def colN (b : Int) : Nat := (max 0 (min b 80)).toNat
def plainN (l : List Cl) (n : Nat) : List Cl := plR look0 (mend (fillL (l.take n) n))
theorem fill_len {l : List Cl} {n : Nat} (h : l.length ≤ n) : (fillL l n).length = n := by
  unfold fillL
  rw [List.length_append, List.length_replicate]
  omega
end U
namespace Go.Proofs.YtdlbnlbajnafdaaDoor
abbrev w94 : FSpec := s94 (fun x => decide (List.length (α := Cell) x.1.1 ≤ 1048576)) fun x => (U.plainN x.1.1 (U.colN x.2.1), false)
theorem wk94 : SpecOK Tryd.prog E0 94 w94 := by
  refine k94 (fun l s b H => ?_) (L := ls_ok (lcs := [lc Tryd.f94 0, lc Tryd.f94 1]) (rgs := []) (by kernel_rfl) (by kernel_rfl) ⟨L94_0, L94_1⟩ trivial)
  have hl : l.length ≤ 1048576 := of_decide_eq_true H
  show _ = some (U.plainN l (U.colN b), false)
  obtain ⟨c, hc, ec, e2⟩ : ∃ c : Nat, c ≤ 80 ∧ U.colN b = c ∧ maxI 0 (minI b 80) = (c : Int) := by
    refine ⟨U.colN b, by unfold U.colN; omega, rfl, ?_⟩
    unfold U.colN maxI minI
    split <;> split <;> omega
  rw [ec]
  have e3 : minI (l.length : Int) (c : Int) = ((min l.length c : Nat) : Int) := by unfold minI; split <;> omega
  have e4 : sub l 0 (min l.length c) = l.take c := by
    unfold sub
    rw [List.drop_zero]
    rcases Nat.le_total l.length c with h | h
    · rw [Nat.min_eq_left h, List.take_length, List.take_of_length_le h]
    · rw [Nat.min_eq_right h]
  have h5 : (l.take c).length ≤ 1048576 := by rw [List.length_take]; omega
  have h6 : (U.fillL (l.take c) c).length ≤ 1048576 := by rw [U.fill_len (by rw [List.length_take]; omega)]; omega
  have h7 : (U.mend (U.fillL (l.take c) c)).length ≤ 1048576 := by rw [U.mend_len]; exact h6
  have h8 : 0 < (U.mend (U.fillL (l.take c) c)).length → U.cw (U.mend (U.fillL (l.take c) c)) 0 ≠ 0 := fun h => U.mend_first (by rw [U.mend_len] at h; exact h)
  have h9 : (0 : Int) ≤ ((min l.length c : Nat) : Int) ∧ ((min l.length c : Nat) : Int) ≤ (l.length : Int) := by omega
  have h10 : (0 : Int) ≤ (c : Int) ∧ (c : Int) ≤ 1048576 := by omega
  simp only [d94, Tr.val, e2, e3, Int.toNat_natCast, e4, h5, h6, h7, h9, h10, eq_true h8, and_self, decide_true, cond_true]
  rfl
abbrev G48 : List (Nat × FSpec) := [(105, w105), (106, w106), (107, w107)]
theorem AG48 : AllFn Tryd.prog E0 G48 := .cons wk105 (.cons wk106 (.cons wk107 .nil))
def live48 (key : Nat) : Lv :=
  bif Nat.beq key 12 then { ls := [4, 7, 8, 31, 32, 33], wd := [⟨7, none, .row 76 celk⟩] } else bif Nat.beq key 1012 then { ls := [4, 7] } else
  bif Nat.beq key 20020 then { ls := [9999, 1, 4, 5] } else bif Nat.beq key 40020 then { ls := [5, 21, 22, 23] } else
  bif Nat.beq key 20014 then { ls := [9999, 1, 2, 4] } else bif Nat.beq key 40014 then { ls := [1] } else
  bif Nat.beq key 20012 then { ls := [9999, 1, 2, 4] } else bif Nat.beq key 40012 then { ls := [1] } else
  { ls := [] }
abbrev M48 (ls : Nat → VS → Option (Tr (Ex × VS))) : Env := (E0.withFns G48).loops live48 ls
@[reducible] def p48_0 : LP := { n := 62, sl := [.c (Leaf.ptr ( 0) ( 0)), .c (Leaf.row ( 1)), .c (Leaf.ptr ( 2) ( 0)), .d (Kd.sl celk), .d (.int .i64), .d (.int .i64)], bl := [(0, .box [.c (Leaf.nils), .d (Kd.bool)]), (1, .row 76 (celk)), (2, .box [.d (.int .i64), .d (.int .i64), .d (.int .i64)])] }
def B48_0 (x3 : List Cell) (x4 : Int) (x5 : Int) (h0_1 : Bool) (h1 : List Cell) (h2_0 : Int) (h2_1 : Int) (h2_2 : Int) : Tr (p48_0.T ⊕ (Bool × List Cell)) :=
 let v1 : Bool := (decide ((rget celk x3 x5).fst = { data := #[] }))
 let v2 : Bool := (decide ((rget celk x3 x5).snd.fst = (1 : Int)))
 let v3 : Bool := (decide ((List.length h1 + (1 : Nat)) * (48 : Nat) ≤ (140737488355328 : Nat)))
 Tr.ite (decide (x5 < x4)) (Tr.ite (inB x5 (List.length x3)) (Tr.ite (decide ((rget celk x3 x5).snd.fst = (0 : Int))) (Tr.ite v2 (Tr.ite v1 (Tr.ite v3 (Tr.ret (Sum.inl ((x3, x4, IntKind.wrap IntKind.i64 (x5 + (1 : Int)), ()), (h0_1, ()), h1 ++ [(ByteArray.empty, (1 : Int), ((0 : Int), h2_1, (0 : Int), ()), ())], ((0 : Int), h2_1, (0 : Int), ()), ()))) Tr.fail) (Tr.ite v3 (Tr.ret (Sum.inl ((x3, x4, IntKind.wrap IntKind.i64 (x5 + (1 : Int)), ()), (h0_1, ()), h1 ++ [((rget celk x3 x5).fst, (rget celk x3 x5).snd.fst, (h2_0, h2_1, h2_2, ()), ())], (h2_0, h2_1, h2_2, ()), ()))) Tr.fail)) (Tr.ite v3 (Tr.ret (Sum.inl ((x3, x4, IntKind.wrap IntKind.i64 (x5 + (1 : Int)), ()), (h0_1, ()), h1 ++ [((rget celk x3 x5).fst, (rget celk x3 x5).snd.fst, (h2_0, h2_1, h2_2, ()), ())], (h2_0, h2_1, h2_2, ()), ()))) Tr.fail)) (Tr.ite v2 (Tr.ite v1 (Tr.ite v3 (Tr.ret (Sum.inl ((x3, x4, IntKind.wrap IntKind.i64 (x5 + (1 : Int)), ()), (h0_1, ()), h1 ++ [(ByteArray.empty, (1 : Int), ((0 : Int), (rget celk x3 x5).snd.snd.fst.snd.fst, (0 : Int), ()), ())], ((0 : Int), (rget celk x3 x5).snd.snd.fst.snd.fst, (0 : Int), ()), ()))) Tr.fail) (Tr.ite v3 (Tr.ret (Sum.inl ((x3, x4, IntKind.wrap IntKind.i64 (x5 + (1 : Int)), ()), (h0_1, ()), h1 ++ [rget celk x3 x5], ((rget celk x3 x5).snd.snd.fst.fst, (rget celk x3 x5).snd.snd.fst.snd.fst, (rget celk x3 x5).snd.snd.fst.snd.snd.fst, ()), ()))) Tr.fail)) (Tr.ite v3 (Tr.ret (Sum.inl ((x3, x4, IntKind.wrap IntKind.i64 (x5 + (1 : Int)), ()), (h0_1, ()), h1 ++ [rget celk x3 x5], ((rget celk x3 x5).snd.snd.fst.fst, (rget celk x3 x5).snd.snd.fst.snd.fst, (rget celk x3 x5).snd.snd.fst.snd.snd.fst, ()), ()))) Tr.fail))) Tr.fail) (Tr.ret (Sum.inr (h0_1, h1)))
def X48_0 (r : (Bool × List Cell)) : Ex × VS := Prod.mk (Ex.exit ( 0)) { n := 62, v := [Slot.av (AV.one (Leaf.ptr ( 0) ( 0))), Slot.av (AV.one (Leaf.row ( 1)))], h := [( 0, Blk.box [Leaf.nils, Leaf.dat Kd.bool r.fst]), ( 1, Blk.row ( 76) celk r.snd)] }
def b48_0 : p48_0.T → Tr (p48_0.T ⊕ (Bool × List Cell)) := fun ⟨⟨x3, ⟨x4, ⟨x5, _⟩⟩⟩, ⟨⟨h0_1, _⟩, ⟨h1, ⟨⟨h2_0, ⟨h2_1, ⟨h2_2, _⟩⟩⟩, _⟩⟩⟩⟩ => B48_0 x3 x4 x5 h0_1 h1 h2_0 h2_1 h2_2
theorem h48_0 (ls : Nat → VS → Option (Tr (Ex × VS))) (x : p48_0.T) : (evC (evI 2) (lc Tryd.f48 0) (Env.lend (M48 ls) 0) (unV (live48 12) (p48_0.V x))).map (decL 0 (live48 12) (live48 1012)) = (b48_0 x).map (encR p48_0.V X48_0) := by
  obtain ⟨⟨x3, ⟨x4, ⟨x5, _⟩⟩⟩, ⟨⟨h0_1, _⟩, ⟨h1, ⟨⟨h2_0, ⟨h2_1, ⟨h2_2, _⟩⟩⟩, _⟩⟩⟩⟩ := x; kernel_rfl
theorem c48_0 (x : p48_0.T) : canV 0 (live48 12) (unV (live48 12) (p48_0.V x)) = p48_0.V x := by
  obtain ⟨⟨x3, ⟨x4, ⟨x5, _⟩⟩⟩, ⟨⟨h0_1, _⟩, ⟨h1, ⟨⟨h2_0, ⟨h2_1, ⟨h2_2, _⟩⟩⟩, _⟩⟩⟩⟩ := x; kernel_rfl
theorem l48_0 {T : p48_0.T → Tr (Bool × List Cell)} {ls : Nat → VS → Option (Tr (Ex × VS))} (hls : ∀ x, (Env.lend (M48 ls) 0).ls 12 x = p48_0.ls (fun a => (T a).map X48_0) x) (hS : ∀ x r, (T x).val = some r → Rounds b48_0 x r) : LoopOK (evI 2) (Env.lend (M48 ls) 0) (lc Tryd.f48 0) :=
  loopA 12 (live48 12) (live48 1012) p48_0 b48_0 X48_0 T (by kernel_rfl) rfl rfl hls (h48_0 ls) c48_0 hS
def T48 (x : p48_0.T) : Tr (Bool × List Cell) :=
  match x with
  | ⟨⟨l, n, i, _⟩, ⟨⟨s, _⟩, out, ⟨a, b, c, _⟩, _⟩⟩ => .ite (decide ((n : Int) = (List.length (α := Cell) l : Int) ∧ (i : Int) = 0 ∧ List.length (α := Cell) out + List.length (α := Cell) l ≤ 1048576))
    (.ret (s, List.append (α := Cell) out (U.plR (a, b, c, ()) l))) .fail
abbrev E48 : Env := M48 fun key x => bif Nat.beq key 12 then p48_0.ls (fun a => (T48 a).map X48_0) x else none
theorem R48 (l : List Cell) (hl : l.length ≤ 1048576) (s : Bool) : ∀ (k i : Nat) (out : List Cell) (a b c : Int), i + k = l.length → out.length + k ≤ 1048576 →
    Rounds b48_0 ((l, (l.length : Int), (i : Int), ()), (s, ()), out, (a, b, c, ()), ()) (s, out ++ U.plR (a, b, c, ()) (l.drop i))
  | 0, i, out, a, b, c, e, h => by
    have e : i = l.length := by omega
    subst e
    rw [List.drop_length]
    refine .exit ?_
    simp only [b48_0, B48_0, Tr.val, show ¬ ((l.length : Int) < (l.length : Int)) by omega, decide_false, cond_false]
    show some (Sum.inr (s, out)) = some (Sum.inr (s, out ++ []))
    rw [List.append_nil]
  | k + 1, i, out, a, b, c, e, h => by
    have hi : i < l.length := by omega
    rw [List.drop_eq_getElem_cons hi]
    have er : rget celk l (i : Int) = l[i] := by rw [rgetC]; exact getD_el hi
    generalize hx : l[i] = x at er
    obtain ⟨xt, xw, ⟨x1, x2, x3, u1⟩, u2⟩ := x
    have ih := fun p q r y => R48 l hl s k (i + 1) (out ++ [y]) p q r (by omega) (by rw [List.length_append, List.length_singleton]; omega)
    have lt : decide ((i : Int) < (l.length : Int)) = true := decide_eq_true (by omega)
    have h8 : (out.length + 1) * 48 ≤ 140737488355328 := by omega
    unfold U.plR
    rw [List.append_cons]
    by_cases w0 : xw = 0
    · subst w0
      refine .step ?_ (ih a b c (xt, 0, (a, b, c, ()), ()))
      simp only [b48_0, B48_0, Tr.val, lt, inB_nat hi, er, h8, decide_true, cond_true, show ¬ ((0 : Int) = 1) by omega, decide_false, cond_false, wrap64_nat (show i ≤ 1048576 by omega)]
    · by_cases w1 : xw = 1
      · subst w1
        by_cases t0 : xt = (⟨#[]⟩ : ByteArray)
        · subst t0
          refine .step ?_ (ih 0 x2 0 (ByteArray.empty, 1, (0, x2, 0, ()), ()))
          simp only [b48_0, B48_0, Tr.val, lt, inB_nat hi, er, h8, decide_true, cond_true, show ¬ ((1 : Int) = 0) by omega, decide_false, cond_false, wrap64_nat (show i ≤ 1048576 by omega)]
        · have e9 : U.plC (a, b, c, ()) (xt, 1, (x1, x2, x3, u1), u2) = (xt, 1, (x1, x2, x3, u1), u2) := by unfold U.plC; simp [t0]
          rw [e9]
          refine .step ?_ (ih x1 x2 x3 (xt, 1, (x1, x2, x3, u1), u2))
          simp only [b48_0, B48_0, Tr.val, lt, inB_nat hi, er, h8, t0, decide_true, cond_true, show ¬ ((1 : Int) = 0) by omega, decide_false, cond_false, wrap64_nat (show i ≤ 1048576 by omega)]
      · have e9 : U.plC (a, b, c, ()) (xt, xw, (x1, x2, x3, u1), u2) = (xt, xw, (x1, x2, x3, u1), u2) := by unfold U.plC; simp [w0, w1]
        rw [e9]
        refine .step ?_ (ih x1 x2 x3 (xt, xw, (x1, x2, x3, u1), u2))
        simp only [b48_0, B48_0, Tr.val, lt, inB_nat hi, er, h8, w0, w1, decide_true, cond_true, decide_false, cond_false, wrap64_nat (show i ≤ 1048576 by omega)]
theorem L48 : LoopOK (evI 2) (E48.lend 0) (lc Tryd.f48 0) := by
  refine l48_0 (T := T48) (fun x => rfl) ?_
  rintro ⟨⟨l, n, i, z⟩, ⟨⟨s, z1⟩, out, ⟨a, b, c, z2⟩, z3⟩⟩ r h
  obtain ⟨g1, g2⟩ := pre_val h
  have g1 : (n : Int) = (l.length : Int) ∧ (i : Int) = 0 ∧ out.length + l.length ≤ 1048576 := of_decide_eq_true g1
  obtain ⟨e1, e2, e3⟩ := g1
  subst e1; subst e2
  cases g2
  exact R48 l (by omega) s l.length 0 out a b c (by omega) e3
def d48 (a1 : List Cell) (a2 : Bool) (b : Int) : Tr (List Cell × Bool) :=
 let v1 : Int := ((↑(List.length a1) : Int))
 let v2 : Bool := (Kd.eqb (Kd.sl celk) a1 a1 && Kd.eqb Kd.bool a2 a2 && true)
 let v3 : Bool := (decide ((bif decide ((80 : Int) < bif decide (b < (0 : Int)) then (0 : Int) else b) then (80 : Int) else bif decide (b < (0 : Int)) then (0 : Int) else b) < v1))
 let v4 : List U.Cl := (U.fillL (bif v3 then sub a1 (0 : Nat) (Int.toNat (bif decide ((80 : Int) < bif decide (b < (0 : Int)) then (0 : Int) else b) then (80 : Int) else bif decide (b < (0 : Int)) then (0 : Int) else b)) else a1) (Int.toNat (bif decide ((80 : Int) < bif decide (b < (0 : Int)) then (0 : Int) else b) then (80 : Int) else bif decide (b < (0 : Int)) then (0 : Int) else b)))
 let v5 : List U.Cl := (U.mend v4)
 let v6 : Int := ((↑(List.length v5) : Int))
 let v7 : Int := ((↑(List.length v5) : Int))
 Tr.ite v2 (Tr.ite v2 (Tr.ite ((bif v3 then decide (((0 : Int) ≤ bif decide ((80 : Int) < bif decide (b < (0 : Int)) then (0 : Int) else b) then (80 : Int) else bif decide (b < (0 : Int)) then (0 : Int) else b) ∧ (bif decide ((80 : Int) < bif decide (b < (0 : Int)) then (0 : Int) else b) then (80 : Int) else bif decide (b < (0 : Int)) then (0 : Int) else b) ≤ v1) else true) && (Kd.eqb (.int .i64) (bif decide ((80 : Int) < bif decide (b < (0 : Int)) then (0 : Int) else b) then (80 : Int) else bif decide (b < (0 : Int)) then (0 : Int) else b) (bif decide ((80 : Int) < bif decide (b < (0 : Int)) then (0 : Int) else b) then (80 : Int) else bif decide (b < (0 : Int)) then (0 : Int) else b) && true)) (Tr.ite (decide (((0 : Int) ≤ bif decide ((80 : Int) < bif decide (b < (0 : Int)) then (0 : Int) else b) then (80 : Int) else bif decide (b < (0 : Int)) then (0 : Int) else b) ∧ (bif decide ((80 : Int) < bif decide (b < (0 : Int)) then (0 : Int) else b) then (80 : Int) else bif decide (b < (0 : Int)) then (0 : Int) else b) ≤ (1048576 : Int) ∧ List.length (bif v3 then sub a1 (0 : Nat) (Int.toNat (bif decide ((80 : Int) < bif decide (b < (0 : Int)) then (0 : Int) else b) then (80 : Int) else bif decide (b < (0 : Int)) then (0 : Int) else b)) else a1) ≤ (1048576 : Nat))) (Tr.ite (decide (List.length v4 ≤ (1048576 : Nat))) (Tr.ite (decide (v7 = v6 ∧ (0 : Int) = (0 : Int) ∧ (0 : Nat) + List.length v5 ≤ (1048576 : Nat))) (Tr.ret (List.append [] (U.plR ((0 : Int), (0 : Int), (0 : Int), ()) v5), false)) Tr.fail) Tr.fail) Tr.fail) Tr.fail) Tr.fail) Tr.fail
def e48 (r : List Cell × Bool) : FRes := { rs := Slot.av (AV.agg [Leaf.dat (Kd.sl celk) r.fst, Leaf.dat Kd.bool r.snd]), upd := [], new := [] }
@[reducible] def a48 : List AK := [AK.d link, AK.d (.int .i64)]
@[reducible] def b48 : List BK := []
theorem t48 (a1 : List Cell) (a2 : Bool) (b : Int) : evFn (E48) Tryd.f48 [PM.data link] (akAV a48 ((a1, a2, ()), b, ())) (bkBs b48 ()) = (d48 a1 a2 b).map e48 := by kernel_rfl
def s48 (C : akT a48 → Bool) (G : akT a48 → List Cell × Bool) : FSpec := aspec a48 b48 e48 (fun x _ => C x) (fun x _ => G x)
theorem k48 {C : akT a48 → Bool} {G : akT a48 → List Cell × Bool} (hd : ∀ (a1 : List Cell) (a2 : Bool) (b : Int), C ((a1, a2, ()), b, ()) = true → (d48 a1 a2 b).val = some (G ((a1, a2, ()), b, ()))) (IO : ItOK Tryd.prog (E48) := by exact itOK_none rfl) (L : ∀ c, Tryd.f48.body = some c → LsOK (evI 2) ((E48).lend 0) c := by exact fun c _ => LsOK_none rfl c) : SpecOK Tryd.prog E0 48 (s48 C G) :=
  aspec_ok (ak := a48) (bl := b48) (e := e48) (c := fun x _ => C x) (g := fun x _ => G x) (E0 := E0) (E := E48) tab AG48 rfl rfl hm Tryd.func48 (by kernel_rfl) [PM.data link] (fun X Y H => by obtain ⟨⟨a1, ⟨a2, _⟩⟩, ⟨b, _⟩⟩ := X; exact val_of (t48 a1 a2 b) (hd a1 a2 b H)) IO L
abbrev w48 : FSpec := s48 (fun x => decide (1 ≤ (x.2.1 : Int) ∧ (x.2.1 : Int) ≤ 80 ∧ List.length (α := Cell) x.1.1 ≤ 1048576)) fun x => (U.plainN x.1.1 (Int.toNat x.2.1), false)
theorem wk48 : SpecOK Tryd.prog E0 48 w48 := by
  refine k48 (fun l s b H => ?_) (L := ls_ok (lcs := [lc Tryd.f48 0]) (rgs := []) (by kernel_rfl) (by kernel_rfl) L48 trivial)
  have H : 1 ≤ b ∧ b ≤ 80 ∧ l.length ≤ 1048576 := of_decide_eq_true H
  obtain ⟨c, rfl⟩ := Int.eq_ofNat_of_zero_le (a := b) (by omega)
  show _ = some (U.plainN l c, false)
  have h5 : (l.take c).length ≤ 1048576 := by rw [List.length_take]; omega
  have h6 : (U.fillL (l.take c) c).length ≤ 1048576 := by rw [U.fill_len (by rw [List.length_take]; omega)]; omega
  have h7 : (U.mend (U.fillL (l.take c) c)).length ≤ 1048576 := by rw [U.mend_len]; exact h6
  have n1 : ¬ ((c : Int) < 0) := by omega
  have n2 : ¬ ((80 : Int) < (c : Int)) := by omega
  have e4 : sub l 0 c = l.take c := by unfold sub; rw [List.drop_zero]
  by_cases p : c < l.length
  · have p' : (c : Int) < (l.length : Int) := by omega
    simp only [d48, Tr.val, n1, n2, p', e4, h5, h6, h7, eqb_self, Int.toNat_natCast, Nat.zero_add, show ((0 : Int) ≤ (c : Int) ∧ (c : Int) ≤ (l.length : Int)) by omega, show ((0 : Int) ≤ (c : Int) ∧ (c : Int) ≤ 1048576) by omega, show (0 : Int) ≤ (c : Int) by omega, show (c : Int) ≤ 1048576 by omega, and_self, decide_true, decide_false, Bool.and_self, cond_true, cond_false]
    rfl
  · have p' : ¬ ((c : Int) < (l.length : Int)) := by omega
    have e9 : l.take c = l := List.take_of_length_le (by omega)
    rw [e9] at h5 h6 h7
    unfold U.plainN
    rw [e9]
    simp only [d48, Tr.val, n1, n2, p', h5, h6, h7, eqb_self, Int.toNat_natCast, Nat.zero_add, show ((0 : Int) ≤ (c : Int) ∧ (c : Int) ≤ 1048576) by omega, show (0 : Int) ≤ (c : Int) by omega, show (c : Int) ≤ 1048576 by omega, and_self, decide_true, decide_false, Bool.and_self, cond_true, cond_false]
    rfl
def live10 (key : Nat) : Lv :=
  bif Nat.beq key 3 then { ls := [4, 5, 18, 19, 20], wd := [⟨5, some 0, .row 76 celk⟩] } else bif Nat.beq key 1003 then { ls := [4, 5] } else
  { ls := [] }
abbrev M10 (ls : Nat → VS → Option (Tr (Ex × VS))) : Env := (E0.withFns []).loops live10 ls
@[reducible] def p10_0 : LP := { n := 40, sl := [.c (Leaf.ptr ( 0) ( 0)), .c (Leaf.ptr ( 1) ( 0)), .d (Kd.sl celk), .d (.int .i64), .d (.int .i64)], bl := [(0, .box [.c (Leaf.nils), .d (Kd.bool)]), (1, .box [.c (Leaf.row ( 2)), .d (Kd.bool)]), (2, .row 76 (celk))] }
def B10_0 (x2 : List Cell) (x3 : Int) (x4 : Int) (h0_1 : Bool) (h1_1 : Bool) (h2 : List Cell) : Tr (p10_0.T ⊕ (Bool × Bool × List Cell)) :=
 let v1 : Int := ((↑(ByteArray.size (rget celk x2 x4).fst) : Int))
 let v2 : Int := (minI v1 (20 : Int))
 Tr.ite (decide (x4 < x3)) (Tr.ite (inB x4 (List.length x2)) (Tr.ite (decide ((0 : Int) ≤ v2 ∧ v2 ≤ v1)) (Tr.ite (decide ((List.length h2 + (1 : Nat)) * (48 : Nat) ≤ (140737488355328 : Nat))) (Tr.ret (Sum.inl ((x2, x3, IntKind.wrap IntKind.i64 (x4 + (1 : Int)), ()), (h0_1, ()), (h1_1, ()), h2 ++ [(ByteArray.extract (rget celk x2 x4).fst (0 : Nat) (Int.toNat v2), (rget celk x2 x4).snd)], ()))) Tr.fail) Tr.fail) Tr.fail) (Tr.ret (Sum.inr (h0_1, h1_1, h2)))
def X10_0 (r : (Bool × Bool × List Cell)) : Ex × VS := Prod.mk (Ex.exit ( 0)) { n := 40, v := [Slot.av (AV.one (Leaf.ptr ( 0) ( 0))), Slot.av (AV.one (Leaf.ptr ( 1) ( 0)))], h := [( 0, Blk.box [Leaf.nils, Leaf.dat Kd.bool r.fst]), ( 1, Blk.box [Leaf.row ( 2), Leaf.dat Kd.bool r.snd.fst]), ( 2, Blk.row ( 76) celk r.snd.snd)] }
def b10_0 : p10_0.T → Tr (p10_0.T ⊕ (Bool × Bool × List Cell)) := fun ⟨⟨x2, ⟨x3, ⟨x4, _⟩⟩⟩, ⟨⟨h0_1, _⟩, ⟨⟨h1_1, _⟩, ⟨h2, _⟩⟩⟩⟩ => B10_0 x2 x3 x4 h0_1 h1_1 h2
theorem h10_0 (ls : Nat → VS → Option (Tr (Ex × VS))) (x : p10_0.T) : (evC (evI 2) (lc Tryd.f10 0) (Env.lend (M10 ls) 0) (unV (live10 3) (p10_0.V x))).map (decL 0 (live10 3) (live10 1003)) = (b10_0 x).map (encR p10_0.V X10_0) := by
  obtain ⟨⟨x2, ⟨x3, ⟨x4, _⟩⟩⟩, ⟨⟨h0_1, _⟩, ⟨⟨h1_1, _⟩, ⟨h2, _⟩⟩⟩⟩ := x; kernel_rfl
theorem c10_0 (x : p10_0.T) : canV 0 (live10 3) (unV (live10 3) (p10_0.V x)) = p10_0.V x := by
  obtain ⟨⟨x2, ⟨x3, ⟨x4, _⟩⟩⟩, ⟨⟨h0_1, _⟩, ⟨⟨h1_1, _⟩, ⟨h2, _⟩⟩⟩⟩ := x; kernel_rfl
theorem l10_0 {T : p10_0.T → Tr (Bool × Bool × List Cell)} {ls : Nat → VS → Option (Tr (Ex × VS))} (hls : ∀ x, (Env.lend (M10 ls) 0).ls 3 x = p10_0.ls (fun a => (T a).map X10_0) x) (hS : ∀ x r, (T x).val = some r → Rounds b10_0 x r) : LoopOK (evI 2) (Env.lend (M10 ls) 0) (lc Tryd.f10 0) :=
  loopA 3 (live10 3) (live10 1003) p10_0 b10_0 X10_0 T (by kernel_rfl) rfl rfl hls (h10_0 ls) c10_0 hS
def T10 (x : p10_0.T) : Tr (Bool × Bool × List Cell) :=
  match x with
  | ⟨⟨l, n, i, _⟩, ⟨⟨s, _⟩, ⟨t, _⟩, out, _⟩⟩ => .ite (decide ((n : Int) = (List.length (α := Cell) l : Int) ∧ (i : Int) = 0 ∧ List.length (α := Cell) out + List.length (α := Cell) l ≤ 1048576))
    (.ret (s, t, List.append (α := Cell) out (List.map (α := Cell) (β := Cell) U.cutC l))) .fail
abbrev E10 : Env := M10 fun key x => bif Nat.beq key 3 then p10_0.ls (fun a => (T10 a).map X10_0) x else none
theorem L10 : LoopOK (evI 2) (E10.lend 0) (lc Tryd.f10 0) := by
  refine l10_0 (T := T10) (fun x => rfl) ?_
  rintro ⟨⟨l, n, i, z⟩, ⟨⟨s, z1⟩, ⟨t, z2⟩, out, z3⟩⟩ r h
  obtain ⟨g1, g2⟩ := pre_val h
  have g1 : (n : Int) = (l.length : Int) ∧ (i : Int) = 0 ∧ out.length + l.length ≤ 1048576 := of_decide_eq_true g1
  obtain ⟨e1, e2, e3⟩ := g1
  subst e1; subst e2
  cases g2
  refine Rounds.mapA (B := b10_0) l (fun i o => ((l, (l.length : Int), (i : Int), ()), (s, ()), (t, ()), o, ())) U.cutC (fun o => (s, t, o)) 1048576 (fun i o hi hv => ?_) (fun o => ?_) out (by omega)
  · have e : rget celk l (i : Int) = l[i] := by rw [rgetC]; exact getD_el hi
    have e6 : minI (l[i].1.size : Int) 20 = ((min l[i].1.size 20 : Nat) : Int) := by unfold minI; split <;> omega
    have e7 : (0 : Int) ≤ ((min l[i].1.size 20 : Nat) : Int) ∧ ((min l[i].1.size 20 : Nat) : Int) ≤ (l[i].1.size : Int) := by omega
    have e8 : (o.length + 1) * 48 ≤ 140737488355328 := by omega
    simp only [b10_0, B10_0, Tr.val, e, e6, e7, e8, inB_nat hi, Int.toNat_natCast, show ((i : Int) < (l.length : Int)) by omega, and_self, decide_true, cond_true, wrap64_nat (show i ≤ 1048576 by omega)]
    rfl
  · simp only [b10_0, B10_0, Tr.val, show ¬ ((l.length : Int) < (l.length : Int)) by omega, decide_false, cond_false]
def d10 (a1 : List Cell) (a2 : Bool) (b : Int) : Tr (List Cell × Bool) :=
 let v1 : Int := ((↑(List.length a1) : Int))
 let v2 : Int := (minI v1 b)
 let v3 : List Cell := (sub a1 (0 : Nat) (Int.toNat v2))
 let v4 : Int := ((↑(List.length v3) : Int))
 let v5 : Int := ((↑(List.length v3) : Int))
 Tr.ite (decide ((0 : Int) ≤ v2 ∧ v2 ≤ v1)) (Tr.ite (decide (v5 = v4 ∧ (0 : Int) = (0 : Int) ∧ (0 : Nat) + List.length v3 ≤ (1048576 : Nat))) (Tr.ret (List.append [] (List.map U.cutC v3), a2)) Tr.fail) Tr.fail
def e10 (r : List Cell × Bool) : FRes := { rs := Slot.av (AV.agg [Leaf.dat (Kd.sl celk) r.fst, Leaf.dat Kd.bool r.snd]), upd := [], new := [] }
@[reducible] def a10 : List AK := [AK.d link, AK.d (.int .i64)]
@[reducible] def b10 : List BK := []
theorem t10 (a1 : List Cell) (a2 : Bool) (b : Int) : evFn (E10) Tryd.f10 [PM.data link] (akAV a10 ((a1, a2, ()), b, ())) (bkBs b10 ()) = (d10 a1 a2 b).map e10 := by kernel_rfl
def s10 (C : akT a10 → Bool) (G : akT a10 → List Cell × Bool) : FSpec := aspec a10 b10 e10 (fun x _ => C x) (fun x _ => G x)
theorem k10 {C : akT a10 → Bool} {G : akT a10 → List Cell × Bool} (hd : ∀ (a1 : List Cell) (a2 : Bool) (b : Int), C ((a1, a2, ()), b, ()) = true → (d10 a1 a2 b).val = some (G ((a1, a2, ()), b, ()))) (IO : ItOK Tryd.prog (E10) := by exact itOK_none rfl) (L : ∀ c, Tryd.f10.body = some c → LsOK (evI 2) ((E10).lend 0) c := by exact fun c _ => LsOK_none rfl c) : SpecOK Tryd.prog E0 10 (s10 C G) :=
  aspec_ok (ak := a10) (bl := b10) (e := e10) (c := fun x _ => C x) (g := fun x _ => G x) (E0 := E0) (E := E10) tab .nil rfl rfl hm Tryd.func10 (by kernel_rfl) [PM.data link] (fun X Y H => by obtain ⟨⟨a1, ⟨a2, _⟩⟩, ⟨b, _⟩⟩ := X; exact val_of (t10 a1 a2 b) (hd a1 a2 b H)) IO L
end Go.Proofs.YtdlbnlbajnafdaaDoor
namespace U
def cutLn (x : Ln) : Ln := (cutL x.1, x.2.1, ())
end U
namespace Go.Proofs.YtdlbnlbajnafdaaDoor
abbrev w10 : FSpec := s10 (fun x => decide ((x.2.1 : Int) = 82)) fun x => (U.cutL x.1.1, x.1.2.1)
theorem wk10 : SpecOK Tryd.prog E0 10 w10 := by
  refine k10 (fun l s b H => ?_) (L := ls_ok (lcs := [lc Tryd.f10 0]) (rgs := []) (by kernel_rfl) (by kernel_rfl) L10 trivial)
  have H : b = 82 := of_decide_eq_true H
  subst H
  have e3 : minI (l.length : Int) 82 = ((min l.length 82 : Nat) : Int) := by unfold minI; split <;> omega
  have e4 : sub l 0 (min l.length 82) = l.take 82 := by
    unfold sub
    rw [List.drop_zero]
    rcases Nat.le_total l.length 82 with h | h
    · rw [Nat.min_eq_left h, List.take_length, List.take_of_length_le h]
    · rw [Nat.min_eq_right h]
  have h5 : 0 + (l.take 82).length ≤ 1048576 := by rw [List.length_take]; omega
  show _ = some (U.cutL l, s)
  simp only [d10, Tr.val, e3, Int.toNat_natCast, e4, h5, show ((0 : Int) ≤ ((min l.length 82 : Nat) : Int) ∧ ((min l.length 82 : Nat) : Int) ≤ (l.length : Int)) by omega, and_self, decide_true, cond_true]
  rfl
@[reducible] def scrk : Kd := .pr gridk (.pr (.int .i64) (.pr (.int .i64) (.pr .bool .un)))
def live9 (key : Nat) : Lv :=
  bif Nat.beq key 3 then { ls := [1, 2, 3, 14, 15, 16], wd := [⟨3, none, .row 29 link⟩] } else bif Nat.beq key 1003 then { ls := [1, 2, 3] } else
  { ls := [] }
abbrev M9 (ls : Nat → VS → Option (Tr (Ex × VS))) : Env := (E0.withFns [(10, w10)]).loops live9 ls
@[reducible] def p9_0 : LP := { n := 30, sl := [.c (Leaf.ptr ( 0) ( 0)), .c (Leaf.ptr ( 1) ( 0)), .c (Leaf.row ( 2)), .d (Kd.sl link), .d (.int .i64), .d (.int .i64)], bl := [(0, .box [.d (.int .i64), .d (Kd.sl link), .d (.int .i64), .d (.int .i64), .d (Kd.bool)]), (1, .box [.d (.int .i64), .c (Leaf.nils), .d (.int .i64), .d (.int .i64), .d (Kd.bool)]), (2, .row 29 (link))] }
def B9_0 (x3 : List Line) (x4 : Int) (x5 : Int) (h0_0 : Int) (h0_1 : List Line) (h0_2 : Int) (h0_3 : Int) (h0_4 : Bool) (h1_0 : Int) (h1_2 : Int) (h1_3 : Int) (h1_4 : Bool) (h2 : List Line) : Tr (p9_0.T ⊕ (Int × List Line × Int × Int × Bool × Int × Int × Int × Bool × List Line)) :=
 Tr.ite (decide (x5 < x4)) (Tr.ite (inB x5 (List.length x3)) (Tr.ite true (Tr.ite (decide ((List.length h2 + (1 : Nat)) * (32 : Nat) ≤ (140737488355328 : Nat))) (Tr.ret (Sum.inl ((x3, x4, IntKind.wrap IntKind.i64 (x5 + (1 : Int)), ()), (h0_0, h0_1, h0_2, h0_3, h0_4, ()), (h1_0, h1_2, h1_3, h1_4, ()), h2 ++ [(U.cutL (rget link x3 x5).fst, (rget link x3 x5).snd)], ()))) Tr.fail) Tr.fail) Tr.fail) (Tr.ret (Sum.inr (h0_0, h0_1, h0_2, h0_3, h0_4, h1_0, h1_2, h1_3, h1_4, h2)))
def X9_0 (r : (Int × List Line × Int × Int × Bool × Int × Int × Int × Bool × List Line)) : Ex × VS := Prod.mk (Ex.exit ( 0)) { n := 30, v := [Slot.av (AV.one (Leaf.ptr ( 0) ( 0))), Slot.av (AV.one (Leaf.ptr ( 1) ( 0))), Slot.av (AV.one (Leaf.row ( 2)))], h := [( 0, Blk.box [Leaf.dat (.int .i64) r.fst, Leaf.dat (Kd.sl link) r.snd.fst, Leaf.dat (.int .i64) r.snd.snd.fst, Leaf.dat (.int .i64) r.snd.snd.snd.fst, Leaf.dat Kd.bool r.snd.snd.snd.snd.fst]), ( 1, Blk.box [Leaf.dat (.int .i64) r.snd.snd.snd.snd.snd.fst, Leaf.nils, Leaf.dat (.int .i64) r.snd.snd.snd.snd.snd.snd.fst, Leaf.dat (.int .i64) r.snd.snd.snd.snd.snd.snd.snd.fst, Leaf.dat Kd.bool r.snd.snd.snd.snd.snd.snd.snd.snd.fst]), ( 2, Blk.row ( 29) link r.snd.snd.snd.snd.snd.snd.snd.snd.snd)] }
def b9_0 : p9_0.T → Tr (p9_0.T ⊕ (Int × List Line × Int × Int × Bool × Int × Int × Int × Bool × List Line)) := fun ⟨⟨x3, ⟨x4, ⟨x5, _⟩⟩⟩, ⟨⟨h0_0, ⟨h0_1, ⟨h0_2, ⟨h0_3, ⟨h0_4, _⟩⟩⟩⟩⟩, ⟨⟨h1_0, ⟨h1_2, ⟨h1_3, ⟨h1_4, _⟩⟩⟩⟩, ⟨h2, _⟩⟩⟩⟩ => B9_0 x3 x4 x5 h0_0 h0_1 h0_2 h0_3 h0_4 h1_0 h1_2 h1_3 h1_4 h2
theorem h9_0 (ls : Nat → VS → Option (Tr (Ex × VS))) (x : p9_0.T) : (evC (evI 2) (lc Tryd.f9 0) (Env.lend (M9 ls) 0) (unV (live9 3) (p9_0.V x))).map (decL 0 (live9 3) (live9 1003)) = (b9_0 x).map (encR p9_0.V X9_0) := by
  obtain ⟨⟨x3, ⟨x4, ⟨x5, _⟩⟩⟩, ⟨⟨h0_0, ⟨h0_1, ⟨h0_2, ⟨h0_3, ⟨h0_4, _⟩⟩⟩⟩⟩, ⟨⟨h1_0, ⟨h1_2, ⟨h1_3, ⟨h1_4, _⟩⟩⟩⟩, ⟨h2, _⟩⟩⟩⟩ := x; kernel_rfl
theorem c9_0 (x : p9_0.T) : canV 0 (live9 3) (unV (live9 3) (p9_0.V x)) = p9_0.V x := by
  obtain ⟨⟨x3, ⟨x4, ⟨x5, _⟩⟩⟩, ⟨⟨h0_0, ⟨h0_1, ⟨h0_2, ⟨h0_3, ⟨h0_4, _⟩⟩⟩⟩⟩, ⟨⟨h1_0, ⟨h1_2, ⟨h1_3, ⟨h1_4, _⟩⟩⟩⟩, ⟨h2, _⟩⟩⟩⟩ := x; kernel_rfl
theorem l9_0 {T : p9_0.T → Tr (Int × List Line × Int × Int × Bool × Int × Int × Int × Bool × List Line)} {ls : Nat → VS → Option (Tr (Ex × VS))} (hls : ∀ x, (Env.lend (M9 ls) 0).ls 3 x = p9_0.ls (fun a => (T a).map X9_0) x) (hS : ∀ x r, (T x).val = some r → Rounds b9_0 x r) : LoopOK (evI 2) (Env.lend (M9 ls) 0) (lc Tryd.f9 0) :=
  loopA 3 (live9 3) (live9 1003) p9_0 b9_0 X9_0 T (by kernel_rfl) rfl rfl hls (h9_0 ls) c9_0 hS
def d40 (a1 : List Cell) (a2 : Bool) : Tr (Bool) :=
 let v1 : Bool := (decide (List.length a1 ≤ (1048576 : Nat)))
 Tr.ite v1 (Tr.ite (a2 == false) (Tr.ite v1 (Tr.ret (U.eqCs a1 (U.plainN a1 (U.colN (↑(List.length a1) : Int))))) Tr.fail) (Tr.ret false)) Tr.fail
def e40 (r : Bool) : FRes := { rs := Slot.av (AV.one (Leaf.dat Kd.bool r)), upd := [], new := [] }
@[reducible] def a40 : List AK := [AK.d link]
@[reducible] def b40 : List BK := []
theorem t40 (a1 : List Cell) (a2 : Bool) : evFn (Env.withFns E0 [((94 : Nat), w94), ((95 : Nat), w95)]) Tryd.f40 [PM.data Kd.bool] (akAV a40 ((a1, a2, ()), ())) (bkBs b40 ()) = (d40 a1 a2).map e40 := by kernel_rfl
def s40 (C : akT a40 → Bool) (G : akT a40 → Bool) : FSpec := aspec a40 b40 e40 (fun x _ => C x) (fun x _ => G x)
theorem k40 {C : akT a40 → Bool} {G : akT a40 → Bool} (hd : ∀ (a1 : List Cell) (a2 : Bool), C ((a1, a2, ()), ()) = true → (d40 a1 a2).val = some (G ((a1, a2, ()), ()))) (IO : ItOK Tryd.prog (Env.withFns E0 [((94 : Nat), w94), ((95 : Nat), w95)]) := by exact itOK_none rfl) (L : ∀ c, Tryd.f40.body = some c → LsOK (evI 2) ((Env.withFns E0 [((94 : Nat), w94), ((95 : Nat), w95)]).lend 0) c := by exact fun c _ => LsOK_none rfl c) : SpecOK Tryd.prog E0 40 (s40 C G) :=
  aspec_ok (ak := a40) (bl := b40) (e := e40) (c := fun x _ => C x) (g := fun x _ => G x) (E0 := E0) (E := Env.withFns E0 [((94 : Nat), w94), ((95 : Nat), w95)]) tab (.cons wk94 (.cons wk95 .nil)) rfl rfl hm Tryd.func40 (by kernel_rfl) [PM.data Kd.bool] (fun X Y H => by obtain ⟨⟨a1, ⟨a2, _⟩⟩, _⟩ := X; exact val_of (t40 a1 a2) (hd a1 a2 H)) IO L
end Go.Proofs.YtdlbnlbajnafdaaDoor
end
section
set_option linter.unusedVariables false
set_option linter.unusedSimpArgs false
set_option maxRecDepth 20000
set_option maxHeartbeats 4000000
open Go Go.Ev
namespace Go.Proofs.YtdlbnlbajnafdaaDoor
open Go.Ev Go.RowKit
theorem m63 {x : Int} (h0 : 0 ≤ x) (h1 : x ≤ 255) : IntKind.u8.wrap (((BitVec.ofInt 8 x &&& BitVec.ofInt 8 63).toNat : Int)) = x % 64 := u8_and63 x h0 (by omega)
theorem m15 {x : Int} (h0 : 0 ≤ x) (h1 : x ≤ 255) : IntKind.u8.wrap (((BitVec.ofInt 8 x &&& BitVec.ofInt 8 15).toNat : Int)) = x % 16 := u8_and15 x h0 (by omega)
theorem m7 {x : Int} (h0 : 0 ≤ x) (h1 : x ≤ 255) : IntKind.u8.wrap (((BitVec.ofInt 8 x &&& BitVec.ofInt 8 7).toNat : Int)) = x % 8 := u8_and7 x h0 (by omega)
theorem o6 {x y : Int} (hx0 : 0 ≤ x) (hx : x % 64 = 0) (hx1 : x < 2147483648) (h0 : 0 ≤ y) (h1 : y < 64) : IntKind.i32.wrap (((BitVec.ofInt 32 x ||| BitVec.ofInt 32 y).toNat : Int)) = x + y := i32_or6 x y hx0 hx hx1 h0 h1
theorem o12 {x y : Int} (hx0 : 0 ≤ x) (hx : x % 4096 = 0) (hx1 : x < 2147483648) (h0 : 0 ≤ y) (h1 : y < 4096) : IntKind.i32.wrap (((BitVec.ofInt 32 x ||| BitVec.ofInt 32 y).toNat : Int)) = x + y := i32_or12 x y hx0 hx hx1 h0 h1
theorem o18 {x y : Int} (hx0 : 0 ≤ x) (hx : x % 262144 = 0) (hx1 : x < 2147483648) (h0 : 0 ≤ y) (h1 : y < 262144) : IntKind.i32.wrap (((BitVec.ofInt 32 x ||| BitVec.ofInt 32 y).toNat : Int)) = x + y := i32_or18 x y hx0 hx hx1 h0 h1
theorem v169 (s : ByteArray) : (evFn (E0.withFns []) Tryd.f194 [.data (.int .i32), .data (.int .i64)] (toAVs [.str] (s, ())) []).val = some (rd (U.dec s)) := by
  have b0 := bt_ge s 0
  have b1 := bt_lt s 0
  have b2 := bt_ge s 1
  have b3 := bt_lt s 1
  have b4 := bt_ge s 2
  have b5 := bt_lt s 2
  have b6 := bt_ge s 3
  have b7 := bt_lt s 3
  obtain ⟨x0, x1, big, hq, f0, f1, hl, hh, hx⟩ := U.row b0 b1
  have hq' : IntKind.i64.wrap (IntKind.u8.wrap (((BitVec.ofInt 8 (rget (.int .u8) U.firstL (bt s 0)) &&& BitVec.ofInt 8 7).toNat : Int))) = _ := hq
  rw [t194 s rfl rfl rfl rfl rfl rfl rfl rfl rfl rfl rfl]
  unfold U.dec
  rw [hq', m63 b2 b3, m63 b4 b5, m63 b6 b7, m31 b0 b1, m15 b0 b1, m7 b0 b1]
  have i0 : inB (bt s 0) 256 = true := inB_true ⟨b0, by omega⟩
  have i1 : inB ((rget (.int .u8) U.firstL (bt s 0) : Int).fdiv 16) 16 = true := inB_true ⟨f0, f1⟩
  by_cases c0 : s.size = 0
  · have c0' : (s.size : Int) < 1 := by omega
    simp only [Tr.val, c0, c0', decide_true, cond_true]; rfl
  have c0' : ¬ (s.size : Int) < 1 := by omega
  have i2 : inB 0 s.size = true := inB_true ⟨by omega, by omega⟩
  rcases U.need_cases (bt s 0) with ⟨hn, hc⟩ | hn | hn
  · have hbig := big.2 (by omega)
    have hxx := hx (by omega)
    rw [if_pos hc] at hxx
    simp only [Tr.val, c0, c0', i0, i2, hn, hxx, keep_b b0 b1, decide_false, decide_true, cond_false, cond_true, show ¬ ((1 : Int) = 0) by omega, show (240 : Int) ≤ 240 by omega]
  · have hc : ¬ bt s 0 < 128 := by
      intro h
      unfold U.need at hn
      rw [if_pos h] at hn
      omega
    have hxx := hx (by omega)
    rw [if_neg hc] at hxx
    simp only [Tr.val, c0, c0', i0, i2, hn, hxx, drop_b b0 b1, decide_false, decide_true, cond_false, cond_true, show (240 : Int) ≤ 241 by omega]
  · have hn2 : 2 ≤ U.need (bt s 0) := by omega
    have hc : ¬ bt s 0 < 128 := by omega
    have hn1 : ¬ U.need (bt s 0) ≤ 1 := by omega
    have hn0 : ¬ U.need (bt s 0) = 0 := by omega
    have hn11 : ¬ U.need (bt s 0) = 1 := by omega
    have hbig : ¬ (240 : Int) ≤ (rget (.int .u8) U.firstL (bt s 0) : Int) := fun h => hn1 (big.1 h)
    have hlo := hl hn2
    have hhi := hh hn2
    simp only [Tr.val, c0, c0', i0, i1, i2, hc, hn1, hn0, hn11, hbig, if_false, hlo, hhi, decide_false, decide_true, cond_false, cond_true]
    by_cases c1 : (s.size : Int) < U.need (bt s 0)
    · simp only [c1, decide_true, cond_true]
    · have i3 : inB 1 s.size = true := inB_true ⟨by omega, by omega⟩
      simp only [c1, i3, decide_false, cond_false, cond_true]
      unfold U.ok1 U.cont
      by_cases c3 : bt s 1 < U.lo (bt s 0)
      · have c4 : ¬ U.lo (bt s 0) ≤ bt s 1 := by omega
        simp only [c3, c4, decide_true, decide_false, cond_true, cond_false, Bool.false_and, Bool.not_false]
      · have c4 : U.lo (bt s 0) ≤ bt s 1 := by omega
        by_cases c5 : U.hi (bt s 0) < bt s 1
        · have c6 : ¬ bt s 1 ≤ U.hi (bt s 0) := by omega
          simp only [c3, c4, c5, c6, decide_true, decide_false, cond_true, cond_false, Bool.and_false, Bool.not_false]
        · have c6 : bt s 1 ≤ U.hi (bt s 0) := by omega
          have l1 := lo_ge (bt s 0)
          have l2 := hi_le (bt s 0)
          simp only [c3, c4, c5, c6, decide_true, decide_false, cond_true, cond_false, Bool.and_self, Bool.not_true]
          have w1 : IntKind.i32.wrap (bt s 1 % 64) = bt s 1 - 128 := by rw [wrap32_id (by omega) (by omega)]; omega
          by_cases d2 : U.need (bt s 0) = 2
          · have e0 : IntKind.i32.wrap (bt s 0 % 32) = bt s 0 - 192 := by rw [wrap32_id (by omega) (by omega)]; omega
            have e1 : IntKind.i32.wrap ((bt s 0 - 192) * 64) = (bt s 0 - 192) * 64 := wrap32_id (by omega) (by omega)
            simp only [d2, w1, e0, e1, decide_true, cond_true, show (2 : Int) ≤ 2 by omega]
            rw [o6 (by omega) (by omega) (by omega) (by omega) (by omega)]
            rfl
          · have d2' : ¬ U.need (bt s 0) ≤ 2 := by omega
            have i4 : inB 2 s.size = true := inB_true ⟨by omega, by omega⟩
            simp only [d2, d2', i4, decide_false, cond_false, cond_true]
            by_cases c8 : bt s 2 < 128
            · have c9 : ¬ 128 ≤ bt s 2 := by omega
              simp only [c8, c9, decide_true, decide_false, cond_true, cond_false, Bool.false_and, Bool.not_false]
            · have c9 : 128 ≤ bt s 2 := by omega
              by_cases c10 : 191 < bt s 2
              · have c11 : ¬ bt s 2 ≤ 191 := by omega
                simp only [c8, c9, c10, c11, decide_true, decide_false, cond_true, cond_false, Bool.and_false, Bool.not_false]
              · have c11 : bt s 2 ≤ 191 := by omega
                simp only [c8, c9, c10, c11, decide_true, decide_false, cond_true, cond_false, Bool.and_self, Bool.not_true]
                have w2 : IntKind.i32.wrap (bt s 2 % 64) = bt s 2 - 128 := by rw [wrap32_id (by omega) (by omega)]; omega
                have w11 : IntKind.i32.wrap ((bt s 1 - 128) * 64) = (bt s 1 - 128) * 64 := wrap32_id (by omega) (by omega)
                by_cases d3 : U.need (bt s 0) = 3
                · have e0 : IntKind.i32.wrap (bt s 0 % 16) = bt s 0 - 224 := by rw [wrap32_id (by omega) (by omega)]; omega
                  have e1 : IntKind.i32.wrap ((bt s 0 - 224) * 4096) = (bt s 0 - 224) * 4096 := wrap32_id (by omega) (by omega)
                  simp only [d3, w1, w2, w11, e0, e1, decide_true, cond_true, show (3 : Int) ≤ 3 by omega]
                  rw [o12 (x := (bt s 0 - 224) * 4096) (y := (bt s 1 - 128) * 64) (by omega) (by omega) (by omega) (by omega) (by omega), o6 (x := (bt s 0 - 224) * 4096 + (bt s 1 - 128) * 64) (y := bt s 2 - 128) (by omega) (by omega) (by omega) (by omega) (by omega)]
                  rfl
                · have d3' : ¬ U.need (bt s 0) ≤ 3 := by omega
                  have d4 : U.need (bt s 0) = 4 := by omega
                  have i5 : inB 3 s.size = true := inB_true ⟨by omega, by omega⟩
                  simp only [d3, d3', i5, decide_false, cond_false, cond_true]
                  by_cases c12 : bt s 3 < 128
                  · have c13 : ¬ 128 ≤ bt s 3 := by omega
                    simp only [c12, c13, decide_true, decide_false, cond_true, cond_false, Bool.false_and, Bool.not_false]
                  · have c13 : 128 ≤ bt s 3 := by omega
                    by_cases c14 : 191 < bt s 3
                    · have c15 : ¬ bt s 3 ≤ 191 := by omega
                      simp only [c12, c13, c14, c15, decide_true, decide_false, cond_true, cond_false, Bool.and_false, Bool.not_false]
                    · have c15 : bt s 3 ≤ 191 := by omega
                      have e0 : IntKind.i32.wrap (bt s 0 % 8) = bt s 0 - 240 := by rw [wrap32_id (by omega) (by omega)]; omega
                      have e1 : IntKind.i32.wrap ((bt s 0 - 240) * 262144) = (bt s 0 - 240) * 262144 := wrap32_id (by omega) (by omega)
                      have w12 : IntKind.i32.wrap ((bt s 1 - 128) * 4096) = (bt s 1 - 128) * 4096 := wrap32_id (by omega) (by omega)
                      have w21 : IntKind.i32.wrap ((bt s 2 - 128) * 64) = (bt s 2 - 128) * 64 := wrap32_id (by omega) (by omega)
                      have w3 : IntKind.i32.wrap (bt s 3 % 64) = bt s 3 - 128 := by rw [wrap32_id (by omega) (by omega)]; omega
                      simp only [c12, c13, c14, c15, w1, w2, w12, w21, w3, e0, e1, decide_true, decide_false, cond_true, cond_false, Bool.and_self, Bool.not_true]
                      rw [o18 (x := (bt s 0 - 240) * 262144) (y := (bt s 1 - 128) * 4096) (by omega) (by omega) (by omega) (by omega) (by omega), o12 (x := (bt s 0 - 240) * 262144 + (bt s 1 - 128) * 4096) (y := (bt s 2 - 128) * 64) (by omega) (by omega) (by omega) (by omega) (by omega), o6 (x := (bt s 0 - 240) * 262144 + (bt s 1 - 128) * 4096 + (bt s 2 - 128) * 64) (y := bt s 3 - 128) (by omega) (by omega) (by omega) (by omega) (by omega)]
                      rfl
theorem wk194 : SpecOK Tryd.prog E0 194 w194 := by
  refine dspec_ok (E0 := E0) (E := E0.withFns []) (fns := []) tab .nil rfl rfl hm Tryd.func194 (by kernel_rfl) [.data (.int .i32), .data (.int .i64)] (fun x hx => ?_)
  obtain ⟨s, z⟩ := x
  exact v169 s
theorem A3 : AllFn Tryd.prog E0 F3 := .cons wk214 .nil
theorem wk199 : SpecOK Tryd.prog E0 199 w199 := by
  refine bspec_ok (E0 := E0) (E := E0.withFns F3) (fns := F3) tab A3 rfl rfl hm Tryd.func199 (by kernel_rfl) [.data .bool] (fun x y hc => ?_)
  obtain ⟨xs, z⟩ := x
  obtain ⟨⟨r, z'⟩, z''⟩ := y
  have hl : (decide (xs.length ≤ 1048576)) = true := by simpa using hc
  have e : evFn (E0.withFns F3) Tryd.f199 [.data .bool] (akAV [.d (.sl spk), .c (.fn 200 [0])] (xs, ())) (bkBs [.box [.d (.int .i32)]] ((r, ()), ())) =
    .ite (decide (xs.length ≤ (1048576 : Nat))) (.ret ⟨one (.dat .bool (decide ((0 : Int) ≤ U.idx xs r))), [.box [.dat (.int .i32) r]], []⟩) .fail := by kernel_rfl
  refine (congrArg Tr.val e).trans ?_
  rw [hl, U.idx_within]
  rfl
theorem A4 : AllFn Tryd.prog E0 F4 := .cons wk199 .nil
theorem wk179 : SpecOK Tryd.prog E0 179 w179 := by
  refine dspec_ok (E0 := E0) (E := E0.withFns F4) (fns := F4) tab A4 rfl rfl hm Tryd.func179 (by kernel_rfl) [.data .bool] (fun x hc => ?_)
  obtain ⟨xs, r, z⟩ := x
  have hl : (decide (xs.length ≤ 1048576)) = true := by simpa using hc
  have e : evFn (E0.withFns F4) Tryd.f179 [.data .bool] (toAVs [.sl spk, .int .i32] (xs, r, z)) [] = .ite (decide (xs.length ≤ (1048576 : Nat))) (.ret ⟨one (.dat .bool (U.within xs r)), [], []⟩) .fail := by kernel_rfl
  rw [e, hl]
  rfl
theorem A5 : AllFn Tryd.prog E0 F5 := .cons wk178 (.cons wk179 (.cons wk180 (.cons wk181 .nil)))
theorem wk163 : SpecOK Tryd.prog E0 163 w163 := by
  refine dspec_ok (E0 := E0) (E := E0.withFns F1) (fns := F1) tab (.cons wk194 .nil) rfl rfl hm Tryd.func163 (by kernel_rfl) [.data (.int .i32), .data (.int .i64)] (fun x hx => ?_)
  obtain ⟨s, z⟩ := x
  exact v155 s
theorem A6 : AllFn Tryd.prog E0 F6 := .cons wk177 (.cons wk163 .nil)
theorem wk149 : SpecOK Tryd.prog E0 149 w149 := by
  refine dspec_ok (E0 := E0) (E := E0.withFns F5) (fns := F5) tab A5 rfl rfl hm Tryd.func149 (by kernel_rfl) [.data (.int .i64)] (fun x hx => ?_)
  obtain ⟨s, z⟩ := x
  exact v140 s
abbrev r3 (x : Int × Int × Int) : FRes := ⟨.tup [.one (.dat (.int .i32) x.1), .one (.dat (.int .i64) x.2.1), .one (.dat (.int .i64) x.2.2)], [], []⟩
theorem v139 (s : ByteArray) : (evFn E148 Tryd.f148 [.data (.int .i32), .data (.int .i64), .data (.int .i64)] (toAVs [.str] (s, ())) []).val = some (r3 (U.first s)) := by
  rw [t148 s rfl rfl rfl rfl]
  unfold U.first
  cases hf : U.full s with
  | false => simp only [Tr.val, hf, Bool.not_false, cond_true]
  | true =>
    simp only [Tr.val, hf, Bool.not_true, cond_false]
    cases hl : U.isL s with
    | true =>
      unfold U.isL at hl
      by_cases c1 : (U.dec s).1 = 65533
      · rw [decide_eq_true c1] at hl
        have c2 : (1 : Int) < (U.dec s).2 := by simpa using hl
        simp only [c1, c2, decide_true, Bool.not_true, cond_true, cond_false]
      · simp only [c1, decide_false, Bool.not_false, cond_true]
    | false =>
      obtain ⟨h1, h2, h3, h4⟩ := U.bad_cases hf hl
      rw [h1, h2]
      have w2 : IntKind.i64.wrap (1 + 1) = 2 := by decide
      have w3 : IntKind.i64.wrap (2 + 1) = 3 := by decide
      have w4 : IntKind.i64.wrap (3 + 1) = 4 := by decide
      simp only [w2, w3, w4, decide_true, Bool.not_true, cond_false, show ¬ (1 : Int) < 1 by omega, decide_false]
      unfold U.bad
      by_cases c1 : (1 : Int) < (s.size : Int)
      · have p2 := U.full_pre (s := s) (k := 2) (by omega) (by omega)
        rw [show ((2 : Int).toNat) = 2 from rfl, show ((3 : Int).toNat) = 3 from rfl, show ((4 : Int).toNat) = 4 from rfl, p2]
        have i2 : decide ((0 : Int) ≤ 2 ∧ (2 : Int) ≤ (s.size : Int)) = true := decide_eq_true ⟨by omega, by omega⟩
        rcases h4 with h4 | ⟨a, b, c⟩ | ⟨a, b, c, d⟩ | ⟨a, b, c, d⟩
        · simp only [c1, i2, h4, decide_true, cond_true, Bool.not_true, cond_false, show (0 : Int) ≤ ((2 : Nat) : Int) by omega]
        · have e0 : ¬ U.need (bt s 0) = 0 := by omega
          by_cases e2 : U.need (bt s 0) ≤ ((2 : Nat) : Int)
          · simp only [c1, i2, e0, e2, c, decide_true, decide_false, cond_true, Bool.not_true, Bool.not_false, cond_false]
          · simp only [c1, i2, e0, e2, c, decide_true, decide_false, cond_true, Bool.not_true, Bool.not_false, cond_false, show 1 < 2 by omega, Bool.and_self]
        · have e0 : ¬ U.need (bt s 0) = 0 := by omega
          have e2 : ¬ U.need (bt s 0) ≤ ((2 : Nat) : Int) := by omega
          have p3 := U.full_pre (s := s) (k := 3) (by omega) (by omega)
          rw [p3]
          have i3 : decide ((0 : Int) ≤ 3 ∧ (3 : Int) ≤ (s.size : Int)) = true := decide_eq_true ⟨by omega, by omega⟩
          have c2 : (2 : Int) < (s.size : Int) := by omega
          by_cases e3 : U.need (bt s 0) ≤ ((3 : Nat) : Int)
          · simp only [c1, c2, i2, i3, e0, e2, e3, c, d, decide_true, decide_false, cond_true, Bool.not_true, Bool.not_false, cond_false, show 1 < 2 by omega, show ¬ 2 < 2 by omega, Bool.and_self, Bool.and_false, Bool.false_and]
          · simp only [c1, c2, i2, i3, e0, e2, e3, c, d, decide_true, decide_false, cond_true, Bool.not_true, Bool.not_false, cond_false, show 1 < 2 by omega, show ¬ 2 < 2 by omega, show 1 < 3 by omega, show 2 < 3 by omega, Bool.and_self, Bool.and_false, Bool.false_and]
        · have e0 : ¬ U.need (bt s 0) = 0 := by omega
          have e2 : ¬ U.need (bt s 0) ≤ ((2 : Nat) : Int) := by omega
          have e3 : ¬ U.need (bt s 0) ≤ ((3 : Nat) : Int) := by omega
          have e4 : U.need (bt s 0) ≤ ((4 : Nat) : Int) := by omega
          have p3 := U.full_pre (s := s) (k := 3) (by omega) (by omega)
          have p4 := U.full_pre (s := s) (k := 4) (by omega) (by omega)
          rw [p3, p4]
          have i3 : decide ((0 : Int) ≤ 3 ∧ (3 : Int) ≤ (s.size : Int)) = true := decide_eq_true ⟨by omega, by omega⟩
          have i4 : decide ((0 : Int) ≤ 4 ∧ (4 : Int) ≤ (s.size : Int)) = true := decide_eq_true ⟨by omega, by omega⟩
          have c2 : (2 : Int) < (s.size : Int) := by omega
          have c3 : (3 : Int) < (s.size : Int) := by omega
          simp only [c1, c2, c3, i2, i3, i4, e0, e2, e3, e4, c, d, decide_true, decide_false, cond_true, Bool.not_true, Bool.not_false, cond_false, show 1 < 2 by omega, show ¬ 2 < 2 by omega, show 1 < 3 by omega, show 2 < 3 by omega, Bool.and_self, Bool.and_false, Bool.false_and]
      · rcases h4 with h4 | ⟨a, b, c⟩ | ⟨a, b, c, d⟩ | ⟨a, b, c, d⟩
        · simp only [c1, h4, decide_true, decide_false, cond_true, cond_false]
        · omega
        · omega
        · omega
theorem wk148 : SpecOK Tryd.prog E0 148 w148 := by
  refine dspec_ok (E0 := E0) (E := E148) (fns := F6) tab A6 rfl rfl hm Tryd.func148 (by kernel_rfl) [.data (.int .i32), .data (.int .i64), .data (.int .i64)] (fun x hx => ?_)
  obtain ⟨s, z⟩ := x
  exact v139 s
theorem AG0 : AllFn Tryd.prog E0 G0 := .cons wk148 (.cons wk149 (.cons wk147 (.cons wk146 .nil)))
theorem k150 {C : akT a150 → Bool} {G : akT a150 → Int} (hd : ∀ (a : ByteArray), C (a, ()) = true → (d150 a).val = some (G (a, ()))) (IO : ItOK Tryd.prog (E150) := by exact itOK_none rfl) (L : ∀ c, Tryd.f150.body = some c → LsOK (evI 2) ((E150).lend 0) c := by exact fun c _ => LsOK_none rfl c) : SpecOK Tryd.prog E0 150 (s150 C G) :=
  aspec_ok (E := E150) tab AG0 rfl rfl hm Tryd.func150 (by kernel_rfl) [PM.data (.int .i64)] (fun X Y H => by obtain ⟨a, _⟩ := X; exact val_of (t150 a) (hd a H)) IO L
theorem wk150 : SpecOK Tryd.prog E0 150 (s150 (fun x => decide (ByteArray.size x.1 ≤ 1048576)) fun x => U.marks x.1) := by
  refine k150 (fun a h => ?_) (L := ls_ok (lcs := [lc Tryd.f150 0]) (rgs := []) (by kernel_rfl) (by kernel_rfl) L150 trivial)
  have h' : a.size ≤ 1048576 := of_decide_eq_true h
  simp only [d150, Tr.val, h', decide_true, cond_true, and_self]
  show _ = some (U.marks a)
  unfold U.marks
  cases hm : U.marksL a.size a 0 <;> rfl
theorem AG1 : AllFn Tryd.prog E0 G1 := .cons wk150 AG0
theorem k92 {C : akT a92 → Bool} {G : akT a92 → Bool} (hd : ∀ (a1 : ByteArray) (a2 : Int) (a39 : Int) (a32 : Int) (a33 : Int), C ((a1, a2, (a39, a32, a33, ()), ()), ()) = true → (d92 a1 a2 a39 a32 a33).val = some (G ((a1, a2, (a39, a32, a33, ()), ()), ()))) (IO : ItOK Tryd.prog (E92) := by exact itOK_none rfl) (L : ∀ c, Tryd.f92.body = some c → LsOK (evI 2) ((E92).lend 0) c := by exact fun c _ => LsOK_none rfl c) : SpecOK Tryd.prog E0 92 (s92 C G) :=
  aspec_ok (E := E92) tab AG1 rfl rfl hm Tryd.func92 (by kernel_rfl) [PM.data Kd.bool] (fun X Y H => by obtain ⟨⟨a1, ⟨a2, ⟨⟨a39, ⟨a32, ⟨a33, _⟩⟩⟩, _⟩⟩⟩, _⟩ := X; exact val_of (t92 a1 a2 a39 a32 a33) (hd a1 a2 a39 a32 a33 H)) IO L
theorem wk92 : SpecOK Tryd.prog E0 92 (s92 (fun x => decide (ByteArray.size x.1.1 ≤ 1048576)) fun x => U.cellR x.1) := by
  refine k92 fun s w f g h H => ?_
  have H' : s.size ≤ 1048576 := of_decide_eq_true H
  show _ = some (U.cellR (s, w, (f, g, h, ()), ()))
  unfold U.cellR d92
  by_cases h0 : s.size = 0
  · have := ba_nil h0
    subst this
    cases h1 : U.look (f, g, h, ()) <;> simp only [Tr.val, h1, h0, decide_true, cond_true, cond_false, if_true, Bool.true_and, Bool.false_and]
  · have h1 := ba_ne h0
    by_cases h2 : (U.first s).2.2 = 0
    · obtain ⟨a, b⟩ := U.first_ok h2
      have hb : (0 : Int) ≤ (U.first s).2.1 ∧ (U.first s).2.1 ≤ (s.size : Int) := ⟨by omega, b⟩
      have hs : (s.extract (U.first s).2.1.toNat s.size).size ≤ 1048576 := by
        rw [← bl_len, bl_ext, List.length_drop, List.length_take, bl_len]
        omega
      cases h3 : U.inn w 1 2 <;> by_cases h4 : U.width (U.first s).1 = w <;> cases h5 : U.look (f, g, h, ()) <;>
        simp only [Tr.val, h0, h1, h2, h3, h4, h5, hb, hs, H', decide_true, decide_false, cond_true, cond_false, Bool.not_true, Bool.not_false, if_true, if_false, and_self, and_true, true_and, and_false, false_and, Bool.true_and, Bool.false_and, reduceCtorEq]
    · simp only [Tr.val, h0, h1, h2, H', decide_true, decide_false, cond_true, cond_false, Bool.not_false, if_false, false_and]
theorem AG2 : AllFn Tryd.prog E0 G2 := .cons wk92 (.cons wk93 .nil)
theorem k39 {C : akT a39 → Bool} {G : akT a39 → Bool} (hd : ∀ (a1 : List Cell) (a2 : Bool) (b : Int), C ((a1, a2, ()), b, ()) = true → (d39 a1 a2 b).val = some (G ((a1, a2, ()), b, ()))) (IO : ItOK Tryd.prog (E39) := by exact itOK_none rfl) (L : ∀ c, Tryd.f39.body = some c → LsOK (evI 2) ((E39).lend 0) c := by exact fun c _ => LsOK_none rfl c) : SpecOK Tryd.prog E0 39 (s39 C G) :=
  aspec_ok (E := E39) tab AG2 rfl rfl hm Tryd.func39 (by kernel_rfl) [PM.data Kd.bool] (fun X Y H => by obtain ⟨⟨a1, ⟨a2, _⟩⟩, ⟨b, _⟩⟩ := X; exact val_of (t39 a1 a2 b) (hd a1 a2 b H)) IO L
theorem wk39 : SpecOK Tryd.prog E0 39 w39 := by
  refine k39 (fun l s n H => ?_) (L := ls_ok (lcs := [lc Tryd.f39 0]) (rgs := []) (by kernel_rfl) (by kernel_rfl) L39 trivial)
  have H : U.okc l = true := H
  have hl := U.okc_len H
  show _ = some (U.fitC l && decide ((l.length : Int) = n))
  unfold U.fitC
  simp only [d39, Tr.val, H, hl, Nat.le_refl, and_self, decide_true, Bool.and_self, cond_true]
  cases allN (fun i => U.cellR (l.getD i U.dC) && U.whole l i) l.length 0 <;> simp
theorem k100 {C : akT a100 → bksT b100 → Bool} {G : akT a100 → bksT b100 → Bool × Int × List Line} (hd : ∀ (a1 : List Cell) (a2 : Bool) (h0_0 : Int) (h0_1 : List Line), C ((a1, a2, ()), ()) ((h0_0, h0_1, ()), ()) = true → (d100 a1 a2 h0_0 h0_1).val = some (G ((a1, a2, ()), ()) ((h0_0, h0_1, ()), ()))) (IO : ItOK Tryd.prog (E0.withFns [((39 : Nat), w39)]) := by exact itOK_none rfl) (L : ∀ c, Tryd.f100.body = some c → LsOK (evI 2) ((E0.withFns [((39 : Nat), w39)]).lend 1) c := by exact fun c _ => LsOK_none rfl c) : SpecOK Tryd.prog E0 100 (s100 C G) :=
  aspec_ok (ak := a100) (bl := b100) (e := e100) (c := C) (g := G) (E0 := E0) (E := E0.withFns [((39 : Nat), w39)]) tab (.cons wk39 .nil) rfl rfl hm Tryd.func100 (by kernel_rfl) [PM.data Kd.bool] (fun X Y H => by obtain ⟨⟨a1, ⟨a2, _⟩⟩, _⟩ := X; obtain ⟨⟨h0_0, ⟨h0_1, _⟩⟩, _⟩ := Y; exact val_of (t100 a1 a2 h0_0 h0_1) (hd a1 a2 h0_0 h0_1 H)) IO L
theorem wk100 : SpecOK Tryd.prog E0 100 w100 := by
  refine k100 fun l s n g H => ?_
  have H : U.okc l = true := H
  simp only [d100, Tr.val, H, cond_true]
  rfl
end Go.Proofs.YtdlbnlbajnafdaaDoor
namespace Go.Proofs.YtdlbnlbajnafdaaDoor.GR
open Go.Ev Go.RowKit
theorem k102 {C : akT a102 → bksT b102 → Bool} {G : akT a102 → bksT b102 → Int × Int × List Line} (hd : ∀ (a : List Line) (h0_0 : Int) (h0_1 : List Line), C (a, ()) ((h0_0, h0_1, ()), ()) = true → (d102 a h0_0 h0_1).val = some (G (a, ()) ((h0_0, h0_1, ()), ()))) (IO : ItOK Tryd.prog (E102) := by exact itOK_none rfl) (L : ∀ c, Tryd.f102.body = some c → LsOK (evI 2) ((E102).lend 1) c := by exact fun c _ => LsOK_none rfl c) : SpecOK Tryd.prog E0 102 (s102 C G) :=
  aspec_ok (ak := a102) (bl := b102) (e := e102) (c := C) (g := G) (E0 := E0) (E := E102) tab (.cons wk100 .nil) rfl rfl hm Tryd.func102 (by kernel_rfl) [PM.data (.int .i64)] (fun X Y H => by obtain ⟨a, _⟩ := X; obtain ⟨⟨h0_0, ⟨h0_1, _⟩⟩, _⟩ := Y; exact val_of (t102 a h0_0 h0_1) (hd a h0_0 h0_1 H)) IO L
theorem wk102 : SpecOK Tryd.prog E0 102 w102 := by
  refine k102 (fun l n g H => ?_) (L := ls_ok (lcs := [lc Tryd.f102 0]) (rgs := []) (by kernel_rfl) (by kernel_rfl) L102 trivial)
  have H : U.okl l = true := H
  simp only [d102, Tr.val, H, and_self, decide_true, Bool.and_self, cond_true]
  cases findN (fun i => U.misfit n (l.getD i U.dL)) l.length 0 <;> rfl
theorem k44 {C : akT a44 → bksT b44 → Bool} {G : akT a44 → bksT b44 → Bool × Int × List Line} (hd : ∀ (a : List Line) (h0_0 : Int) (h0_1 : List Line), C (a, ()) ((h0_0, h0_1, ()), ()) = true → (d44 a h0_0 h0_1).val = some (G (a, ()) ((h0_0, h0_1, ()), ()))) (IO : ItOK Tryd.prog (E0.withFns [((102 : Nat), w102)]) := by exact itOK_none rfl) (L : ∀ c, Tryd.f44.body = some c → LsOK (evI 2) ((E0.withFns [((102 : Nat), w102)]).lend 1) c := by exact fun c _ => LsOK_none rfl c) : SpecOK Tryd.prog E0 44 (s44 C G) :=
  aspec_ok (ak := a44) (bl := b44) (e := e44) (c := C) (g := G) (E0 := E0) (E := E0.withFns [((102 : Nat), w102)]) tab (.cons wk102 .nil) rfl rfl hm Tryd.func44 (by kernel_rfl) [PM.data Kd.bool] (fun X Y H => by obtain ⟨a, _⟩ := X; obtain ⟨⟨h0_0, ⟨h0_1, _⟩⟩, _⟩ := Y; exact val_of (t44 a h0_0 h0_1) (hd a h0_0 h0_1 H)) IO L
theorem wk44 : SpecOK Tryd.prog E0 44 w44 := by
  refine k44 fun l n g H => ?_
  have H : U.okl l = true := H
  show _ = some (l.any (U.misfit n), n, g)
  rw [← find_any (U.misfit n) U.dL l]
  simp only [d44, Tr.val, H, cond_true]
  cases findN (fun i => U.misfit n (l.getD i U.dL)) l.length 0 <;> simp [optI']
end Go.Proofs.YtdlbnlbajnafdaaDoor.GR
namespace Go.Proofs.YtdlbnlbajnafdaaDoor
open Go.Ev Go.RowKit
theorem AG43 : AllFn Tryd.prog E0 G43 := .cons wk101 (.cons GR.wk44 .nil)
theorem k43 {C : akT a43 → Bool} {G : akT a43 → Bool} (hd : ∀ (a1 : Int) (a2 : List Line), C ((a1, a2, ()), ()) = true → (d43 a1 a2).val = some (G ((a1, a2, ()), ()))) (IO : ItOK Tryd.prog (E0.withFns G43) := by exact itOK_none rfl) (L : ∀ c, Tryd.f43.body = some c → LsOK (evI 2) ((E0.withFns G43).lend 0) c := by exact fun c _ => LsOK_none rfl c) : SpecOK Tryd.prog E0 43 (s43 C G) :=
  aspec_ok (ak := a43) (bl := b43) (e := e43) (c := fun x _ => C x) (g := fun x _ => G x) (E0 := E0) (E := E0.withFns G43) tab AG43 rfl rfl hm Tryd.func43 (by kernel_rfl) [PM.data Kd.bool] (fun X Y H => by obtain ⟨⟨a1, ⟨a2, _⟩⟩, _⟩ := X; exact val_of (t43 a1 a2) (hd a1 a2 H)) IO L
theorem wk43 : SpecOK Tryd.prog E0 43 w43 := by
  refine k43 fun c l H => ?_
  have H : U.okl l = true := H
  show _ = some (U.gridR c l)
  unfold U.gridR
  cases h1 : U.inn c 1 80 <;> cases h2 : U.inn (l.length : Int) 1 50 <;> simp only [d43, Tr.val, h1, h2, H, cond_true, cond_false, Bool.true_and, Bool.false_and]
end Go.Proofs.YtdlbnlbajnafdaaDoor
end
section
set_option linter.unusedVariables false
set_option linter.unusedSimpArgs false
set_option maxRecDepth 20000
set_option maxHeartbeats 4000000
open Go Go.Ev
namespace U
def shown (x : Ln) : Bool := (x.2.1 == false) && eqCs x.1 (plainN x.1 (colN (x.1.length : Int)))
end U
namespace Go.Proofs.YtdlbnlbajnafdaaDoor
open Go.RowKit
def T9 (x : p9_0.T) : Tr (Int × List Line × Int × Int × Bool × Int × Int × Int × Bool × List Line) :=
  match x with
  | ⟨⟨l, n, i, _⟩, ⟨⟨a0, a1, a2, a3, a4, _⟩, ⟨b0, b2, b3, b4, _⟩, out, _⟩⟩ => .ite (decide ((n : Int) = (List.length (α := Line) l : Int) ∧ (i : Int) = 0 ∧ List.length (α := Line) out + List.length (α := Line) l ≤ 1048576))
    (.ret (a0, a1, a2, a3, a4, b0, b2, b3, b4, List.append (α := Line) out (List.map (α := Line) (β := Line) U.cutLn l))) .fail
abbrev E9 : Env := M9 fun key x => bif Nat.beq key 3 then p9_0.ls (fun a => (T9 a).map X9_0) x else none
theorem L9 : LoopOK (evI 2) (E9.lend 0) (lc Tryd.f9 0) := by
  refine l9_0 (T := T9) (fun x => rfl) ?_
  rintro ⟨⟨l, n, i, z⟩, ⟨⟨a0, a1, a2, a3, a4, z1⟩, ⟨b0, b2, b3, b4, z2⟩, out, z3⟩⟩ r h
  obtain ⟨g1, g2⟩ := pre_val h
  have g1 : (n : Int) = (l.length : Int) ∧ (i : Int) = 0 ∧ out.length + l.length ≤ 1048576 := of_decide_eq_true g1
  obtain ⟨e1, e2, e3⟩ := g1
  subst e1; subst e2
  cases g2
  refine Rounds.mapA (B := b9_0) l (fun i o => ((l, (l.length : Int), (i : Int), ()), (a0, a1, a2, a3, a4, ()), (b0, b2, b3, b4, ()), o, ())) U.cutLn (fun o => (a0, a1, a2, a3, a4, b0, b2, b3, b4, o)) 1048576 (fun i o hi hv => ?_) (fun o => ?_) out (by omega)
  · have e : rget link l (i : Int) = l[i] := by rw [rgetL]; exact getD_el hi
    have e8 : (o.length + 1) * 32 ≤ 140737488355328 := by omega
    simp only [b9_0, B9_0, Tr.val, e, e8, inB_nat hi, show ((i : Int) < (l.length : Int)) by omega, decide_true, cond_true, wrap64_nat (show i ≤ 1048576 by omega)]
    rfl
  · simp only [b9_0, B9_0, Tr.val, show ¬ ((l.length : Int) < (l.length : Int)) by omega, decide_false, cond_false]
def d9 (xa11 : Int) (xa12 : List Line) (xa2 : Int) (xa3 : Int) (xa4 : Bool) : Tr (Int × List Line × Int × Int × Bool) :=
 let v1 : Int := ((↑(List.length xa12) : Int))
 let v2 : Int := (minI v1 (30 : Int))
 let v3 : List Line := (sub xa12 (0 : Nat) (Int.toNat v2))
 let v4 : Int := ((↑(List.length v3) : Int))
 let v5 : Int := ((↑(List.length v3) : Int))
 Tr.ite (decide ((0 : Int) ≤ v2 ∧ v2 ≤ v1)) (Tr.ite (decide (v5 = v4 ∧ (0 : Int) = (0 : Int) ∧ (0 : Nat) + List.length v3 ≤ (1048576 : Nat))) (Tr.ret (xa11, List.append [] (List.map U.cutLn v3), xa2, xa3, xa4)) Tr.fail) Tr.fail
def e9 (r : Int × List Line × Int × Int × Bool) : FRes := { rs := Slot.av (AV.agg [Leaf.dat (.int .i64) r.fst, Leaf.dat (Kd.sl link) r.snd.fst, Leaf.dat (.int .i64) r.snd.snd.fst, Leaf.dat (.int .i64) r.snd.snd.snd.fst, Leaf.dat Kd.bool r.snd.snd.snd.snd]), upd := [], new := [] }
@[reducible] def a9 : List AK := [AK.d scrk]
@[reducible] def b9 : List BK := []
theorem t9 (xa11 : Int) (xa12 : List Line) (xa2 : Int) (xa3 : Int) (xa4 : Bool) : evFn (E9) Tryd.f9 [PM.data scrk] (akAV a9 (((xa11, xa12, ()), xa2, xa3, xa4, ()), ())) (bkBs b9 ()) = (d9 xa11 xa12 xa2 xa3 xa4).map e9 := by kernel_rfl
def s9' (G : akT a9 → Int × List Line × Int × Int × Bool) : FSpec := aspec0 a9 b9 e9 (fun x _ => G x)
theorem k9' {G : akT a9 → Int × List Line × Int × Int × Bool} (hd : ∀ (xa11 : Int) (xa12 : List Line) (xa2 : Int) (xa3 : Int) (xa4 : Bool), (d9 xa11 xa12 xa2 xa3 xa4).val = some (G (((xa11, xa12, ()), xa2, xa3, xa4, ()), ()))) (IO : ItOK Tryd.prog (E9) := by exact itOK_none rfl) (L : ∀ c, Tryd.f9.body = some c → LsOK (evI 2) ((E9).lend 0) c := by exact fun c _ => LsOK_none rfl c) : SpecOK Tryd.prog E0 9 (s9' G) :=
  aspec0_ok (ak := a9) (bl := b9) (e := e9) (g := fun x _ => G x) (E0 := E0) (E := E9) tab (.cons wk10 .nil) rfl rfl hm Tryd.func9 (by kernel_rfl) [PM.data scrk] (fun X Y => by obtain ⟨⟨⟨xa11, ⟨xa12, _⟩⟩, ⟨xa2, ⟨xa3, ⟨xa4, _⟩⟩⟩⟩, _⟩ := X; exact val_of (t9 xa11 xa12 xa2 xa3 xa4) (hd xa11 xa12 xa2 xa3 xa4)) IO L
abbrev w9 : FSpec := s9' fun x => (x.1.1.1, List.map (α := Line) (β := Line) U.cutLn (List.take (α := Line) 30 x.1.1.2.1), x.1.2.1, x.1.2.2.1, x.1.2.2.2.1)
theorem wk9 : SpecOK Tryd.prog E0 9 w9 := by
  refine k9' (fun c l a b d => ?_) (L := ls_ok (lcs := [lc Tryd.f9 0]) (rgs := []) (by kernel_rfl) (by kernel_rfl) L9 trivial)
  have e3 : minI (l.length : Int) 30 = ((min l.length 30 : Nat) : Int) := by unfold minI; split <;> omega
  have e4 : sub l 0 (min l.length 30) = l.take 30 := by
    unfold sub
    rw [List.drop_zero]
    rcases Nat.le_total l.length 30 with h | h
    · rw [Nat.min_eq_left h, List.take_length, List.take_of_length_le h]
    · rw [Nat.min_eq_right h]
  have h5 : 0 + (l.take 30).length ≤ 1048576 := by rw [List.length_take]; omega
  show _ = some (c, (l.take 30).map U.cutLn, a, b, d)
  simp only [d9, Tr.val, e3, Int.toNat_natCast, e4, h5, show ((0 : Int) ≤ ((min l.length 30 : Nat) : Int) ∧ ((min l.length 30 : Nat) : Int) ≤ (l.length : Int)) by omega, and_self, decide_true, cond_true]
  rfl
abbrev w40 : FSpec := s40 (fun x => decide (List.length (α := Cell) x.1.1 ≤ 1048576)) fun x => U.shown x.1
theorem wk40 : SpecOK Tryd.prog E0 40 w40 := by
  refine k40 fun l s H => ?_
  have hl : l.length ≤ 1048576 := of_decide_eq_true H
  show _ = some (U.shown (l, s, ()))
  unfold U.shown
  cases s <;> simp only [d40, Tr.val, hl, decide_true, cond_true] <;> rfl
def d42 (xa1 : List Cell) (xa2 : Bool) : Tr (Bool) :=
 Tr.ite (decide (List.length xa1 ≤ (1048576 : Nat))) (Tr.ret !U.shown (xa1, xa2, ())) Tr.fail
def e42 (r : Bool) : FRes := { rs := Slot.av (AV.one (Leaf.dat Kd.bool r)), upd := [], new := [] }
@[reducible] def a42 : List AK := [AK.d link]
@[reducible] def b42 : List BK := []
theorem t42 (xa1 : List Cell) (xa2 : Bool) : evFn (Env.withFns E0 [((40 : Nat), w40)]) Tryd.f42 [PM.data Kd.bool] (akAV a42 ((xa1, xa2, ()), ())) (bkBs b42 ()) = (d42 xa1 xa2).map e42 := by kernel_rfl
def s42 (C : akT a42 → Bool) (G : akT a42 → Bool) : FSpec := aspec a42 b42 e42 (fun x _ => C x) (fun x _ => G x)
theorem k42 {C : akT a42 → Bool} {G : akT a42 → Bool} (hd : ∀ (xa1 : List Cell) (xa2 : Bool), C ((xa1, xa2, ()), ()) = true → (d42 xa1 xa2).val = some (G ((xa1, xa2, ()), ()))) (IO : ItOK Tryd.prog (Env.withFns E0 [((40 : Nat), w40)]) := by exact itOK_none rfl) (L : ∀ c, Tryd.f42.body = some c → LsOK (evI 2) ((Env.withFns E0 [((40 : Nat), w40)]).lend 0) c := by exact fun c _ => LsOK_none rfl c) : SpecOK Tryd.prog E0 42 (s42 C G) :=
  aspec_ok (ak := a42) (bl := b42) (e := e42) (c := fun x _ => C x) (g := fun x _ => G x) (E0 := E0) (E := Env.withFns E0 [((40 : Nat), w40)]) tab (.cons wk40 .nil) rfl rfl hm Tryd.func42 (by kernel_rfl) [PM.data Kd.bool] (fun X Y H => by obtain ⟨⟨xa1, ⟨xa2, _⟩⟩, _⟩ := X; exact val_of (t42 xa1 xa2) (hd xa1 xa2 H)) IO L
abbrev w42 : FSpec := s42 (fun x => decide (List.length (α := Cell) x.1.1 ≤ 1048576)) fun x => !U.shown x.1
theorem wk42 : SpecOK Tryd.prog E0 42 w42 := by
  refine k42 fun l s H => ?_
  have hl : l.length ≤ 1048576 := of_decide_eq_true H
  show _ = some (!U.shown (l, s, ()))
  simp only [d42, Tr.val, hl, decide_true, cond_true]
namespace Sh
def live102 (key : Nat) : Lv :=
  bif Nat.beq key 2 then { ls := [0, 1, 7, 8] } else bif Nat.beq key 1002 then { ls := [4] } else
  { ls := [] }
abbrev M102 (ls : Nat → VS → Option (Tr (Ex × VS))) : Env := (E0.withFns [(42, w42)]).loops live102 ls
@[reducible] def p102_0 : LP := { n := 19, sl := [.d (Kd.sl link), .c (Leaf.fn ( 42) []), .d (.int .i64), .d (.int .i64)], bl := [] }
def B102_0 (x0 : List Line) (x2 : Int) (x3 : Int) : Tr (p102_0.T ⊕ (Int ⊕ Unit)) :=
 Tr.ite (decide (x3 < x2)) (Tr.ite (inB x3 (List.length x0)) (Tr.ite (decide (List.length (rget link x0 x3).fst ≤ (1048576 : Nat))) (Tr.ite (!U.shown (rget link x0 x3)) (Tr.ret (Sum.inr (Sum.inl x3))) (Tr.ret (Sum.inl ((x0, x2, IntKind.wrap IntKind.i64 (x3 + (1 : Int)), ()), ())))) Tr.fail) Tr.fail) (Tr.ret (Sum.inr (Sum.inr ())))
def X102_0 : (Int ⊕ Unit) → Ex × VS
  | (.inl r) => Prod.mk Ex.ret { n := 19, v := [Slot.av (AV.one (Leaf.dat (.int .i64) r))], h := [] }
  | (.inr r) => Prod.mk (Ex.exit ( 0)) { n := 19, v := [Slot.av (AV.one Leaf.undef)], h := [] }
def b102_0 : p102_0.T → Tr (p102_0.T ⊕ (Int ⊕ Unit)) := fun ⟨⟨x0, ⟨x2, ⟨x3, _⟩⟩⟩, _⟩ => B102_0 x0 x2 x3
theorem h102_0 (ls : Nat → VS → Option (Tr (Ex × VS))) (x : p102_0.T) : (evC (evI 2) (lc Tryd.f102 0) (Env.lend (M102 ls) 0) (unV (live102 2) (p102_0.V x))).map (decL 0 (live102 2) (live102 1002)) = (b102_0 x).map (encR p102_0.V X102_0) := by
  obtain ⟨⟨x0, ⟨x2, ⟨x3, _⟩⟩⟩, _⟩ := x; kernel_rfl
theorem c102_0 (x : p102_0.T) : canV 0 (live102 2) (unV (live102 2) (p102_0.V x)) = p102_0.V x := by
  obtain ⟨⟨x0, ⟨x2, ⟨x3, _⟩⟩⟩, _⟩ := x; kernel_rfl
theorem l102_0 {T : p102_0.T → Tr (Int ⊕ Unit)} {ls : Nat → VS → Option (Tr (Ex × VS))} (hls : ∀ x, (Env.lend (M102 ls) 0).ls 2 x = p102_0.ls (fun a => (T a).map X102_0) x) (hS : ∀ x r, (T x).val = some r → Rounds b102_0 x r) : LoopOK (evI 2) (Env.lend (M102 ls) 0) (lc Tryd.f102 0) :=
  loopA 2 (live102 2) (live102 1002) p102_0 b102_0 X102_0 T (by kernel_rfl) rfl rfl hls (h102_0 ls) c102_0 hS
def T102 (x : p102_0.T) : Tr (Int ⊕ Unit) :=
  .ite (decide ((x.1.2.1 : Int) = (List.length (α := Line) x.1.1 : Int) ∧ (x.1.2.2.1 : Int) = 0) && U.okl x.1.1)
    (.ite (findN (fun i => !U.shown (List.getD (α := Line) x.1.1 i U.dL)) (List.length (α := Line) x.1.1) 0).isSome (.ret (.inl (((findN (fun i => !U.shown (List.getD (α := Line) x.1.1 i U.dL)) (List.length (α := Line) x.1.1) 0).getD 0 : Nat) : Int))) (.ret (.inr ()))) .fail
abbrev E102 : Env := M102 fun key x => bif Nat.beq key 2 then p102_0.ls (fun a => (T102 a).map X102_0) x else none
theorem L102 : LoopOK (evI 2) (E102.lend 0) (lc Tryd.f102 0) := by
  refine l102_0 (T := T102) (fun x => rfl) ?_
  rintro ⟨⟨l, n, i, z⟩, z2⟩ r h
  obtain ⟨h1, h2⟩ := pre_val h
  rw [Bool.and_eq_true] at h1
  obtain ⟨h1, hok⟩ := h1
  obtain ⟨e1, e2⟩ := of_decide_eq_true h1
  dsimp only at e1 e2 hok h2
  subst e1
  subst e2
  have hl := U.okl_len hok
  have := Rounds.find (B := b102_0) (N := l.length) (fun i => ((l, (l.length : Int), (i : Int), ()), ())) (fun i => !U.shown (l.getD i U.dL)) (fun i => .inl (i : Int)) (.inr ()) (fun i hi => ?_) ?_
  · cases hf : findN (fun i => !U.shown (l.getD i U.dL)) l.length 0 <;> simp only [hf, Tr.val, Option.isSome_none, Option.isSome_some, Option.getD_some, cond_true, cond_false, outN] at h2 this <;> cases h2 <;> exact this
  · have h3 := U.okc_len (U.okl_at hok hi)
    simp only [b102_0, B102_0, Tr.val, inB_nat hi, rgetL, h3, show ((i : Int) < (l.length : Int)) by omega, decide_true, cond_true, wrap64_nat (show i ≤ 1048576 by omega)]
    cases U.shown (l.getD i U.dL) <;> rfl
  · simp only [b102_0, B102_0, Tr.val, show ¬ ((l.length : Int) < (l.length : Int)) by omega, decide_false, cond_false]
def d102 (xa : List Line) : Tr (Int) :=
 let v1 : Int := ((↑(List.length xa) : Int))
 let v2 : Int := ((↑(List.length xa) : Int))
 Tr.ite (decide (v2 = v1 ∧ (0 : Int) = (0 : Int)) && U.okl xa) (Tr.ite (Option.isSome (findN (fun (i : Nat) => !U.shown (List.getD xa i U.dL)) (List.length xa) (0 : Nat))) (Tr.ret (↑(Option.getD (findN (fun (i : Nat) => !U.shown (List.getD xa i U.dL)) (List.length xa) (0 : Nat)) (0 : Nat)) : Int)) (Tr.ret (-1 : Int))) Tr.fail
def e102 (r : Int) : FRes := { rs := Slot.av (AV.one (Leaf.dat (.int .i64) r)), upd := [], new := [] }
@[reducible] def a102 : List AK := [AK.d (Kd.sl link), AK.c (Leaf.fn (42 : FuncId) [])]
@[reducible] def b102 : List BK := []
theorem t102 (xa : List Line) : evFn (E102) Tryd.f102 [PM.data (.int .i64)] (akAV a102 (xa, ())) (bkBs b102 ()) = (d102 xa).map e102 := by kernel_rfl
def s102 (C : akT a102 → Bool) (G : akT a102 → Int) : FSpec := aspec a102 b102 e102 (fun x _ => C x) (fun x _ => G x)
theorem k102 {C : akT a102 → Bool} {G : akT a102 → Int} (hd : ∀ (xa : List Line), C (xa, ()) = true → (d102 xa).val = some (G (xa, ()))) (IO : ItOK Tryd.prog (E102) := by exact itOK_none rfl) (L : ∀ c, Tryd.f102.body = some c → LsOK (evI 2) ((E102).lend 0) c := by exact fun c _ => LsOK_none rfl c) : SpecOK Tryd.prog E0 102 (s102 C G) :=
  aspec_ok (ak := a102) (bl := b102) (e := e102) (c := fun x _ => C x) (g := fun x _ => G x) (E0 := E0) (E := E102) tab (.cons wk42 .nil) rfl rfl hm Tryd.func102 (by kernel_rfl) [PM.data (.int .i64)] (fun X Y H => by obtain ⟨xa, _⟩ := X; exact val_of (t102 xa) (hd xa H)) IO L
abbrev w102 : FSpec := s102 (fun x => U.okl x.1) fun x => optI' (findN (fun i => !U.shown (List.getD (α := Line) x.1 i U.dL)) (List.length (α := Line) x.1) 0)
theorem wk102 : SpecOK Tryd.prog E0 102 w102 := by
  refine k102 (fun l H => ?_) (L := ls_ok (lcs := [lc Tryd.f102 0]) (rgs := []) (by kernel_rfl) (by kernel_rfl) L102 trivial)
  have H : U.okl l = true := H
  simp only [d102, Tr.val, H, and_self, decide_true, Bool.and_self, cond_true]
  cases findN (fun i => !U.shown (l.getD i U.dL)) l.length 0 <;> rfl
def d44 (xa : List Line) : Tr (Bool) :=
 let v1 : Int := (optI' (findN (fun (i : Nat) => !U.shown (List.getD xa i U.dL)) (List.length xa) (0 : Nat)))
 Tr.ite (U.okl xa) (Tr.ret (decide ((0 : Int) ≤ v1))) Tr.fail
def e44 (r : Bool) : FRes := { rs := Slot.av (AV.one (Leaf.dat Kd.bool r)), upd := [], new := [] }
@[reducible] def a44 : List AK := [AK.d (Kd.sl link), AK.c (Leaf.fn (42 : FuncId) [])]
@[reducible] def b44 : List BK := []
theorem t44 (xa : List Line) : evFn (Env.withFns E0 [((102 : Nat), w102)]) Tryd.f44 [PM.data Kd.bool] (akAV a44 (xa, ())) (bkBs b44 ()) = (d44 xa).map e44 := by kernel_rfl
def s44 (C : akT a44 → Bool) (G : akT a44 → Bool) : FSpec := aspec a44 b44 e44 (fun x _ => C x) (fun x _ => G x)
theorem k44 {C : akT a44 → Bool} {G : akT a44 → Bool} (hd : ∀ (xa : List Line), C (xa, ()) = true → (d44 xa).val = some (G (xa, ()))) (IO : ItOK Tryd.prog (Env.withFns E0 [((102 : Nat), w102)]) := by exact itOK_none rfl) (L : ∀ c, Tryd.f44.body = some c → LsOK (evI 2) ((Env.withFns E0 [((102 : Nat), w102)]).lend 0) c := by exact fun c _ => LsOK_none rfl c) : SpecOK Tryd.prog E0 44 (s44 C G) :=
  aspec_ok (ak := a44) (bl := b44) (e := e44) (c := fun x _ => C x) (g := fun x _ => G x) (E0 := E0) (E := Env.withFns E0 [((102 : Nat), w102)]) tab (.cons wk102 .nil) rfl rfl hm Tryd.func44 (by kernel_rfl) [PM.data Kd.bool] (fun X Y H => by obtain ⟨xa, _⟩ := X; exact val_of (t44 xa) (hd xa H)) IO L
abbrev w44 : FSpec := s44 (fun x => U.okl x.1) fun x => List.any (α := Line) x.1 fun y => !U.shown y
theorem wk44 : SpecOK Tryd.prog E0 44 w44 := by
  refine k44 fun l H => ?_
  have H : U.okl l = true := H
  show _ = some (l.any fun y => !U.shown y)
  rw [← find_any (fun y => !U.shown y) U.dL l]
  simp only [d44, Tr.val, H, cond_true]
  cases findN (fun i => !U.shown (l.getD i U.dL)) l.length 0 <;> simp [optI']
end Sh
def d12 (xa11 : Int) (xa12 : List Line) (xa2 : Int) (xa3 : Int) (xa4 : Bool) : Tr (Bool) :=
 Tr.ite (U.okl xa12) (Tr.ite (U.gridR xa11 xa12) (Tr.ite (U.okl xa12) (Tr.ite (!List.any xa12 fun (y : Line) => !U.shown y) (Tr.ite (U.inn xa2 (0 : Int) (IntKind.wrap IntKind.i64 ((↑(List.length xa12) : Int) - (1 : Int)))) (Tr.ret (U.inn xa3 (0 : Int) (IntKind.wrap IntKind.i64 (xa11 - (1 : Int))))) (Tr.ret false)) (Tr.ret false)) Tr.fail) (Tr.ret false)) Tr.fail
def e12 (r : Bool) : FRes := { rs := Slot.av (AV.one (Leaf.dat Kd.bool r)), upd := [], new := [] }
@[reducible] def a12 : List AK := [AK.d scrk]
@[reducible] def b12 : List BK := []
theorem t12 (xa11 : Int) (xa12 : List Line) (xa2 : Int) (xa3 : Int) (xa4 : Bool) : evFn (Env.withFns E0 [((38 : Nat), w38), ((43 : Nat), w43), ((44 : Nat), Sh.w44)]) Tryd.f12 [PM.data Kd.bool] (akAV a12 (((xa11, xa12, ()), xa2, xa3, xa4, ()), ())) (bkBs b12 ()) = (d12 xa11 xa12 xa2 xa3 xa4).map e12 := by kernel_rfl
def s12 (C : akT a12 → Bool) (G : akT a12 → Bool) : FSpec := aspec a12 b12 e12 (fun x _ => C x) (fun x _ => G x)
theorem k12 {C : akT a12 → Bool} {G : akT a12 → Bool} (hd : ∀ (xa11 : Int) (xa12 : List Line) (xa2 : Int) (xa3 : Int) (xa4 : Bool), C (((xa11, xa12, ()), xa2, xa3, xa4, ()), ()) = true → (d12 xa11 xa12 xa2 xa3 xa4).val = some (G (((xa11, xa12, ()), xa2, xa3, xa4, ()), ()))) (IO : ItOK Tryd.prog (Env.withFns E0 [((38 : Nat), w38), ((43 : Nat), w43), ((44 : Nat), Sh.w44)]) := by exact itOK_none rfl) (L : ∀ c, Tryd.f12.body = some c → LsOK (evI 2) ((Env.withFns E0 [((38 : Nat), w38), ((43 : Nat), w43), ((44 : Nat), Sh.w44)]).lend 0) c := by exact fun c _ => LsOK_none rfl c) : SpecOK Tryd.prog E0 12 (s12 C G) :=
  aspec_ok (ak := a12) (bl := b12) (e := e12) (c := fun x _ => C x) (g := fun x _ => G x) (E0 := E0) (E := Env.withFns E0 [((38 : Nat), w38), ((43 : Nat), w43), ((44 : Nat), Sh.w44)]) tab (.cons wk38 (.cons wk43 (.cons Sh.wk44 .nil))) rfl rfl hm Tryd.func12 (by kernel_rfl) [PM.data Kd.bool] (fun X Y H => by obtain ⟨⟨⟨xa11, ⟨xa12, _⟩⟩, ⟨xa2, ⟨xa3, ⟨xa4, _⟩⟩⟩⟩, _⟩ := X; exact val_of (t12 xa11 xa12 xa2 xa3 xa4) (hd xa11 xa12 xa2 xa3 xa4 H)) IO L
def d15 (xa1 : List Cell) (xa2 : Bool) : Tr (Bool) :=
 let v1 : Int := ((↑(List.length xa1) : Int))
 let v2 : Int := ((↑(List.length xa1) : Int))
 Tr.ite (decide ((1 : Int) ≤ v2)) (Tr.ite (decide (v2 ≤ (80 : Int))) (Tr.ite (U.okc xa1) (Tr.ite (U.fitC xa1 && decide (v1 = v2)) (Tr.ite (decide ((1 : Int) ≤ v2 ∧ v2 ≤ (80 : Int) ∧ List.length xa1 ≤ (1048576 : Nat))) (Tr.ite (decide (List.length xa1 ≤ (1048576 : Nat))) (Tr.ret (U.eqL (xa1, xa2, ()) (U.plainN xa1 (Int.toNat v2), false, ()))) Tr.fail) Tr.fail) (Tr.ret false)) Tr.fail) (Tr.ret false)) (Tr.ret false)
def e15 (r : Bool) : FRes := { rs := Slot.av (AV.one (Leaf.dat Kd.bool r)), upd := [], new := [] }
@[reducible] def a15 : List AK := [AK.d link]
@[reducible] def b15 : List BK := []
theorem t15 (xa1 : List Cell) (xa2 : Bool) : evFn (Env.withFns E0 [((46 : Nat), w46), ((47 : Nat), w47), ((48 : Nat), w48)]) Tryd.f15 [PM.data Kd.bool] (akAV a15 ((xa1, xa2, ()), ())) (bkBs b15 ()) = (d15 xa1 xa2).map e15 := by kernel_rfl
def s15 (C : akT a15 → Bool) (G : akT a15 → Bool) : FSpec := aspec a15 b15 e15 (fun x _ => C x) (fun x _ => G x)
theorem k15 {C : akT a15 → Bool} {G : akT a15 → Bool} (hd : ∀ (xa1 : List Cell) (xa2 : Bool), C ((xa1, xa2, ()), ()) = true → (d15 xa1 xa2).val = some (G ((xa1, xa2, ()), ()))) (IO : ItOK Tryd.prog (Env.withFns E0 [((46 : Nat), w46), ((47 : Nat), w47), ((48 : Nat), w48)]) := by exact itOK_none rfl) (L : ∀ c, Tryd.f15.body = some c → LsOK (evI 2) ((Env.withFns E0 [((46 : Nat), w46), ((47 : Nat), w47), ((48 : Nat), w48)]).lend 0) c := by exact fun c _ => LsOK_none rfl c) : SpecOK Tryd.prog E0 15 (s15 C G) :=
  aspec_ok (ak := a15) (bl := b15) (e := e15) (c := fun x _ => C x) (g := fun x _ => G x) (E0 := E0) (E := Env.withFns E0 [((46 : Nat), w46), ((47 : Nat), w47), ((48 : Nat), w48)]) tab (.cons wk46 (.cons wk47 (.cons wk48 .nil))) rfl rfl hm Tryd.func15 (by kernel_rfl) [PM.data Kd.bool] (fun X Y H => by obtain ⟨⟨xa1, ⟨xa2, _⟩⟩, _⟩ := X; exact val_of (t15 xa1 xa2) (hd xa1 xa2 H)) IO L
end Go.Proofs.YtdlbnlbajnafdaaDoor
namespace U
def lineR (x : Ln) : Bool := inn (x.1.length : Int) 1 80 && (fitC x.1 && shown x)
def scrR (c : Int) (l : List Ln) (row col : Int) : Bool := gridR c l && (l.all shown && (inn row 0 ((l.length : Int) - 1) && inn col 0 (c - 1)))
theorem grid_in {c : Int} {l : List Ln} (h : gridR c l = true) : (1 ≤ c ∧ c ≤ 80) ∧ (1 ≤ l.length ∧ l.length ≤ 50) ∧ ∀ x ∈ l, fitC x.1 = true ∧ (x.1.length : Int) = c := by
  unfold gridR inn at h
  simp only [Bool.and_eq_true, decide_eq_true_eq, Bool.not_eq_true', List.any_eq_false] at h
  obtain ⟨h1, h2, h3⟩ := h
  refine ⟨h1, by omega, fun x hx => ?_⟩
  have h4 := h3 x hx
  unfold misfit at h4
  simp only [Bool.not_eq_true', Bool.not_eq_false', Bool.and_eq_true, decide_eq_true_eq, Bool.not_eq_true, Bool.not_eq_false] at h4
  exact h4
theorem scrR_lines {c : Int} {l : List Ln} (row col : Int) (h : gridR c l = true) : l.all shown = l.all lineR := by
  obtain ⟨h1, _, h3⟩ := grid_in h
  rw [Bool.eq_iff_iff, List.all_eq_true, List.all_eq_true]
  refine forall_congr' fun x => forall_congr' fun hx => ?_
  obtain ⟨h4, h5⟩ := h3 x hx
  unfold lineR inn
  rw [h4, h5, decide_eq_true h1.1, decide_eq_true h1.2]
  simp
end U
namespace Go.Proofs.YtdlbnlbajnafdaaDoor
abbrev w12 : FSpec := s12 (fun x => U.okl x.1.1.2.1) fun x => U.scrR x.1.1.1 x.1.1.2.1 x.1.2.1 x.1.2.2.1
theorem wk12 : SpecOK Tryd.prog E0 12 w12 := by
  refine k12 fun c l row col hide H => ?_
  have H : U.okl l = true := H
  show _ = some (U.scrR c l row col)
  unfold U.scrR
  cases hg : U.gridR c l with
  | false => simp only [d12, Tr.val, H, hg, cond_true, cond_false, Bool.false_and]
  | true =>
    obtain ⟨⟨h1, h2⟩, ⟨h3, h4⟩, _⟩ := U.grid_in hg
    have w1 : IntKind.wrap IntKind.i64 ((l.length : Int) - 1) = (l.length : Int) - 1 := w64 (by omega) (by omega)
    have w2 : IntKind.wrap IntKind.i64 (c - 1) = c - 1 := w64 (by omega) (by omega)
    have e : (!l.any fun y => !U.shown y) = l.all U.shown := by simp [List.not_any_eq_all_not]
    simp only [d12, Tr.val, H, hg, w1, w2, e, cond_true, Bool.true_and]
    cases l.all U.shown <;> cases U.inn row 0 ((l.length : Int) - 1) <;> rfl
abbrev w15 : FSpec := s15 (fun x => U.okc x.1.1) fun x => U.lineR x.1
theorem wk15 : SpecOK Tryd.prog E0 15 w15 := by
  refine k15 fun l s H => ?_
  have H : U.okc l = true := H
  have hl := U.okc_len H
  show _ = some (U.lineR (l, s, ()))
  unfold U.lineR U.inn
  by_cases h1 : (1 : Int) ≤ (l.length : Int)
  · by_cases h2 : (l.length : Int) ≤ 80
    · have e : U.colN (l.length : Int) = l.length := by unfold U.colN; omega
      have e2 : U.eqL (l, s, ()) (U.plainN l l.length, false, ()) = U.shown (l, s, ()) := by
        unfold U.eqL U.shown
        rw [e, Bool.and_comm]
      simp only [d15, Tr.val, h1, h2, H, hl, Int.toNat_natCast, e2, and_self, decide_true, Bool.and_true, Bool.true_and, cond_true]
      cases U.fitC l <;> rfl
    · simp only [d15, Tr.val, h1, h2, decide_true, decide_false, Bool.and_false, Bool.false_and, cond_true, cond_false]
  · simp only [d15, Tr.val, h1, decide_false, Bool.false_and, cond_false]
def live13 (key : Nat) : Lv :=
  bif Nat.beq key 2 then { ls := [1, 7, 8, 9] } else bif Nat.beq key 1002 then { ls := [1, 2] } else
  { ls := [] }
abbrev M13 (ls : Nat → VS → Option (Tr (Ex × VS))) : Env := (E0.withFns [(15, w15), (45, w45)]).loops live13 ls
@[reducible] def p13_0 : LP := { n := 47, sl := [.c (Leaf.ptr ( 0) ( 0)), .d (Kd.sl link), .d (.int .i64), .d (.int .i64)], bl := [(0, .box [.d (.int .i64), .d (Kd.sl link), .d (.int .i64), .d (.int .i64), .d (Kd.bool)])] }
def B13_0 (x1 : List Line) (x2 : Int) (x3 : Int) (h0_0 : Int) (h0_1 : List Line) (h0_2 : Int) (h0_3 : Int) (h0_4 : Bool) : Tr (p13_0.T ⊕ (Int × List Line × Int × Int × Bool ⊕ Int × List Line × Int × Int × Bool)) :=
 Tr.ite (decide (x3 < x2)) (Tr.ite (inB x3 (List.length x1)) (Tr.ite (U.okc (rget link x1 x3).fst) (Tr.ite (!U.lineR (rget link x1 x3)) (Tr.ret (Sum.inr (Sum.inl (h0_0, h0_1, h0_2, h0_3, h0_4)))) (Tr.ret (Sum.inl ((x1, x2, IntKind.wrap IntKind.i64 (x3 + (1 : Int)), ()), (h0_0, h0_1, h0_2, h0_3, h0_4, ()), ())))) Tr.fail) Tr.fail) (Tr.ret (Sum.inr (Sum.inr (h0_0, h0_1, h0_2, h0_3, h0_4))))
def X13_0 : (Int × List Line × Int × Int × Bool ⊕ Int × List Line × Int × Int × Bool) → Ex × VS
  | (.inl r) => Prod.mk Ex.ret { n := 47, v := [Slot.av (AV.one (Leaf.ptr ( 0) ( 0))), Slot.av (AV.one (Leaf.kb false))], h := [( 0, Blk.box [Leaf.dat (.int .i64) r.fst, Leaf.dat (Kd.sl link) r.snd.fst, Leaf.dat (.int .i64) r.snd.snd.fst, Leaf.dat (.int .i64) r.snd.snd.snd.fst, Leaf.dat Kd.bool r.snd.snd.snd.snd])] }
  | (.inr r) => Prod.mk (Ex.exit ( 0)) { n := 47, v := [Slot.av (AV.one (Leaf.ptr ( 0) ( 0))), Slot.av (AV.one Leaf.undef)], h := [( 0, Blk.box [Leaf.dat (.int .i64) r.fst, Leaf.dat (Kd.sl link) r.snd.fst, Leaf.dat (.int .i64) r.snd.snd.fst, Leaf.dat (.int .i64) r.snd.snd.snd.fst, Leaf.dat Kd.bool r.snd.snd.snd.snd])] }
def b13_0 : p13_0.T → Tr (p13_0.T ⊕ (Int × List Line × Int × Int × Bool ⊕ Int × List Line × Int × Int × Bool)) := fun ⟨⟨x1, ⟨x2, ⟨x3, _⟩⟩⟩, ⟨⟨h0_0, ⟨h0_1, ⟨h0_2, ⟨h0_3, ⟨h0_4, _⟩⟩⟩⟩⟩, _⟩⟩ => B13_0 x1 x2 x3 h0_0 h0_1 h0_2 h0_3 h0_4
theorem h13_0 (ls : Nat → VS → Option (Tr (Ex × VS))) (x : p13_0.T) : (evC (evI 2) (lc Tryd.f13 0) (Env.lend (M13 ls) 0) (unV (live13 2) (p13_0.V x))).map (decL 0 (live13 2) (live13 1002)) = (b13_0 x).map (encR p13_0.V X13_0) := by
  obtain ⟨⟨x1, ⟨x2, ⟨x3, _⟩⟩⟩, ⟨⟨h0_0, ⟨h0_1, ⟨h0_2, ⟨h0_3, ⟨h0_4, _⟩⟩⟩⟩⟩, _⟩⟩ := x; kernel_rfl
theorem c13_0 (x : p13_0.T) : canV 0 (live13 2) (unV (live13 2) (p13_0.V x)) = p13_0.V x := by
  obtain ⟨⟨x1, ⟨x2, ⟨x3, _⟩⟩⟩, ⟨⟨h0_0, ⟨h0_1, ⟨h0_2, ⟨h0_3, ⟨h0_4, _⟩⟩⟩⟩⟩, _⟩⟩ := x; kernel_rfl
theorem l13_0 {T : p13_0.T → Tr (Int × List Line × Int × Int × Bool ⊕ Int × List Line × Int × Int × Bool)} {ls : Nat → VS → Option (Tr (Ex × VS))} (hls : ∀ x, (Env.lend (M13 ls) 0).ls 2 x = p13_0.ls (fun a => (T a).map X13_0) x) (hS : ∀ x r, (T x).val = some r → Rounds b13_0 x r) : LoopOK (evI 2) (Env.lend (M13 ls) 0) (lc Tryd.f13 0) :=
  loopA 2 (live13 2) (live13 1002) p13_0 b13_0 X13_0 T (by kernel_rfl) rfl rfl hls (h13_0 ls) c13_0 hS
def T13 (x : p13_0.T) : Tr (Int × List Line × Int × Int × Bool ⊕ Int × List Line × Int × Int × Bool) :=
  match x with
  | ⟨⟨l, n, i, _⟩, ⟨a0, a1, a2, a3, a4, _⟩, _⟩ => .ite (decide ((n : Int) = (List.length (α := Line) l : Int) ∧ (i : Int) = 0) && U.okl l)
    (.ite (List.all (α := Line) l U.lineR) (.ret (.inr (a0, a1, a2, a3, a4))) (.ret (.inl (a0, a1, a2, a3, a4)))) .fail
abbrev E13 : Env := M13 fun key x => bif Nat.beq key 2 then p13_0.ls (fun a => (T13 a).map X13_0) x else none
theorem L13 : LoopOK (evI 2) (E13.lend 0) (lc Tryd.f13 0) := by
  refine l13_0 (T := T13) (fun x => rfl) ?_
  rintro ⟨⟨l, n, i, z⟩, ⟨a0, a1, a2, a3, a4, z1⟩, z2⟩ r h
  obtain ⟨g1, g2⟩ := pre_val h
  rw [Bool.and_eq_true] at g1
  obtain ⟨g1, hok⟩ := g1
  have g1 : (n : Int) = (l.length : Int) ∧ (i : Int) = 0 := of_decide_eq_true g1
  have hok : U.okl l = true := hok
  obtain ⟨e1, e2⟩ := g1
  subst e1; subst e2
  have hl := U.okl_len hok
  have := Rounds.all (B := b13_0) (N := l.length) (fun i => ((l, (l.length : Int), (i : Int), ()), (a0, a1, a2, a3, a4, ()), ())) (fun i => U.lineR (l.getD i U.dL)) (.inl (a0, a1, a2, a3, a4)) (.inr (a0, a1, a2, a3, a4)) (fun i hi => ?_) ?_
  · rw [allN_list] at this
    have g2 : (Tr.ite (l.all U.lineR) (Tr.ret (.inr (a0, a1, a2, a3, a4))) (Tr.ret (.inl (a0, a1, a2, a3, a4)))).val = some r := g2
    cases hd : l.all U.lineR <;> simp only [hd, Tr.val, cond_true, cond_false] at g2 this <;> cases g2 <;> exact this
  · have h3 := U.okl_at hok hi
    simp only [b13_0, B13_0, Tr.val, inB_nat hi, rgetL, h3, show ((i : Int) < (l.length : Int)) by omega, decide_true, cond_true, wrap64_nat (show i ≤ 1048576 by omega)]
    cases U.lineR (l.getD i U.dL) <;> rfl
  · simp only [b13_0, B13_0, Tr.val, show ¬ ((l.length : Int) < (l.length : Int)) by omega, decide_false, cond_false]
def d13 (xa11 : Int) (xa12 : List Line) (xa2 : Int) (xa3 : Int) (xa4 : Bool) : Tr (Bool) :=
 let v1 : Int := ((↑(List.length xa12) : Int))
 let v2 : Int := ((↑(List.length xa12) : Int))
 Tr.ite (decide (v2 = v1 ∧ (0 : Int) = (0 : Int)) && U.okl xa12) (Tr.ite (List.all xa12 U.lineR) (Tr.ite (U.okl xa12) (Tr.ite (U.gridR xa11 xa12) (Tr.ite (decide ((0 : Int) ≤ xa2)) (Tr.ite (decide (xa2 < v2)) (Tr.ite (decide ((0 : Int) ≤ xa3)) (Tr.ret (decide (xa3 < xa11))) (Tr.ret false)) (Tr.ret false)) (Tr.ret false)) (Tr.ret false)) Tr.fail) (Tr.ret false)) Tr.fail
def e13 (r : Bool) : FRes := { rs := Slot.av (AV.one (Leaf.dat Kd.bool r)), upd := [], new := [] }
@[reducible] def a13 : List AK := [AK.d scrk]
@[reducible] def b13 : List BK := []
theorem t13 (xa11 : Int) (xa12 : List Line) (xa2 : Int) (xa3 : Int) (xa4 : Bool) : evFn (E13) Tryd.f13 [PM.data Kd.bool] (akAV a13 (((xa11, xa12, ()), xa2, xa3, xa4, ()), ())) (bkBs b13 ()) = (d13 xa11 xa12 xa2 xa3 xa4).map e13 := by kernel_rfl
def s13 (C : akT a13 → Bool) (G : akT a13 → Bool) : FSpec := aspec a13 b13 e13 (fun x _ => C x) (fun x _ => G x)
theorem k13 {C : akT a13 → Bool} {G : akT a13 → Bool} (hd : ∀ (xa11 : Int) (xa12 : List Line) (xa2 : Int) (xa3 : Int) (xa4 : Bool), C (((xa11, xa12, ()), xa2, xa3, xa4, ()), ()) = true → (d13 xa11 xa12 xa2 xa3 xa4).val = some (G (((xa11, xa12, ()), xa2, xa3, xa4, ()), ()))) (IO : ItOK Tryd.prog (E13) := by exact itOK_none rfl) (L : ∀ c, Tryd.f13.body = some c → LsOK (evI 2) ((E13).lend 0) c := by exact fun c _ => LsOK_none rfl c) : SpecOK Tryd.prog E0 13 (s13 C G) :=
  aspec_ok (ak := a13) (bl := b13) (e := e13) (c := fun x _ => C x) (g := fun x _ => G x) (E0 := E0) (E := E13) tab (.cons wk15 (.cons wk45 .nil)) rfl rfl hm Tryd.func13 (by kernel_rfl) [PM.data Kd.bool] (fun X Y H => by obtain ⟨⟨⟨xa11, ⟨xa12, _⟩⟩, ⟨xa2, ⟨xa3, ⟨xa4, _⟩⟩⟩⟩, _⟩ := X; exact val_of (t13 xa11 xa12 xa2 xa3 xa4) (hd xa11 xa12 xa2 xa3 xa4 H)) IO L
abbrev w13 : FSpec := s13 (fun x => U.okl x.1.1.2.1) fun x => U.scrR x.1.1.1 x.1.1.2.1 x.1.2.1 x.1.2.2.1
theorem wk13 : SpecOK Tryd.prog E0 13 w13 := by
  refine k13 (fun c l row col hide H => ?_) (L := ls_ok (lcs := [lc Tryd.f13 0]) (rgs := []) (by kernel_rfl) (by kernel_rfl) L13 trivial)
  have H : U.okl l = true := H
  have c0 : (decide (((l.length : Nat) : Int) = ((l.length : Nat) : Int) ∧ (0 : Int) = 0) && U.okl l) = true := by rw [H, decide_eq_true ⟨rfl, rfl⟩]; rfl
  show _ = some (U.scrR c l row col)
  have i1 : decide (row < (l.length : Int)) = decide (row ≤ (l.length : Int) - 1) := by congr 1; exact propext (by omega)
  have i2 : decide (col < c) = decide (col ≤ c - 1) := by congr 1; exact propext (by omega)
  unfold U.scrR
  cases hg : U.gridR c l with
  | false =>
    simp only [d13, Tr.val, H, hg, and_self, decide_true, Bool.and_self, cond_true, cond_false, Bool.false_and]
    cases l.all U.lineR <;> rfl
  | true =>
    rw [U.scrR_lines row col hg]
    unfold U.inn
    simp only [d13, Tr.val, H, hg, i1, i2, and_self, decide_true, Bool.and_self, cond_true, cond_false, Bool.true_and]
    cases l.all U.lineR <;> cases decide (0 ≤ row) <;> cases decide (row ≤ (l.length : Int) - 1) <;> cases decide (0 ≤ col) <;> rfl
end Go.Proofs.YtdlbnlbajnafdaaDoor
end
section
set_option linter.unusedVariables false
set_option linter.unusedSimpArgs false
set_option maxRecDepth 20000
set_option maxHeartbeats 4000000
open Go Go.Ev
namespace Go.Proofs.YtdlbnlbajnafdaaDoor
open Go.RowKit
def d96 (xa : List Cell) : Tr (List Cell) :=
 Tr.ret xa
def e96 (r : List Cell) : FRes := { rs := Slot.av (AV.one (Leaf.fn ( 155) [0])), upd := [], new := [Blk.box [Leaf.dat (Kd.sl celk) r]] }
@[reducible] def a96 : List AK := [AK.d (Kd.sl celk)]
@[reducible] def b96 : List BK := []
theorem t96 (xa : List Cell) : evFn (E0) Tryd.f96 [PM.raw] (akAV a96 (xa, ())) (bkBs b96 ()) = (d96 xa).map e96 := by kernel_rfl
def s96' (G : akT a96 → List Cell) : FSpec := aspec0 a96 b96 e96 (fun x _ => G x)
theorem k96' {G : akT a96 → List Cell} (hd : ∀ (xa : List Cell), (d96 xa).val = some (G (xa, ()))) (IO : ItOK Tryd.prog (E0) := by exact itOK_none rfl) (L : ∀ c, Tryd.f96.body = some c → LsOK (evI 2) ((E0).lend 0) c := by exact fun c _ => LsOK_none rfl c) : SpecOK Tryd.prog E0 96 (s96' G) :=
  aspec0_ok (ak := a96) (bl := b96) (e := e96) (g := fun x _ => G x) (E0 := E0) (E := E0) tab .nil rfl rfl hm Tryd.func96 (by kernel_rfl) [PM.raw] (fun X Y => by obtain ⟨xa, _⟩ := X; exact val_of (t96 xa) (hd xa)) IO L
abbrev w96 : FSpec := s96' fun x => x.1
theorem wk96 : SpecOK Tryd.prog E0 96 w96 := k96' fun l => rfl
def live155 (key : Nat) : Lv :=
  bif Nat.beq key 3 then { ls := [0, 1, 3, 4] } else bif Nat.beq key 1003 then { ls := [0, 1, 3, 4] } else
  bif Nat.beq key 1 then { ls := [0, 1, 3], wd := [⟨1001, some 0, .srow 5 (.int .u8)⟩] } else bif Nat.beq key 1001 then { ls := [] } else
  { ls := [] }
def live41 (key : Nat) : Lv :=
  bif Nat.beq key 506 then { ls := [1, 3, 4, 11] } else bif Nat.beq key 1506 then { ls := [3] } else
  bif Nat.beq key 9997 then { ls := [143] } else
  { ls := [] }
abbrev G41 : List (Nat × FSpec) := [(96, w96), (97, w97), (98, w98), (99, w99), (89, w89), (91, w91)]
theorem AG41 : AllFn Tryd.prog E0 G41 := .cons wk96 (.cons wk97 (.cons wk98 (.cons wk99 (.cons wk89 (.cons wk91 .nil)))))
abbrev lv41 (k : Nat) : Lv := bif Nat.ble 100000 k then live155 (Nat.sub k 100000) else live41 k
noncomputable abbrev M41 (ls : Nat → VS → Option (Tr (Ex × VS))) : Env := ((E0.withFns G41).withIts [(155, Tryd.f155)]).loops lv41 ls
@[reducible] def q41_0 : LP := { n := 65, sl := [.c (Leaf.ptr ( 0) ( 0)), .c (Leaf.ptr ( 1) ( 0)), .c (Leaf.ptr ( 2) ( 0)), .c (Leaf.fn ( 155) [3])], bl := [(0, .box [.d (Kd.sl celk), .d (Kd.bool)]), (1, .tb 143 [.c (Leaf.nils)]), (2, .box [.d (.int .i64), .d (.int .i64), .d (.int .i64)]), (3, .box [.d (Kd.sl celk)])] }
noncomputable def r41_0 : RL := { ps := (rg Tryd.f41 0).ps.toList, asg := (rg Tryd.f41 0).asg, body := (rg Tryd.f41 0).body }
@[reducible] def p41r0_0 : LP := { n := 50, sl := [.c (Leaf.yld ( 4)), .c (Leaf.ptr ( 3) ( 0)), .d (.int .i64)], bl := [(0, .box [.d (Kd.sl celk), .d (Kd.bool)]), (1, .tb 143 [.c (Leaf.srow ( 5))]), (2, .box [.d (.int .i64), .d (.int .i64), .d (.int .i64)]), (3, .box [.d (Kd.sl celk)]), (4, .lr), (5, .row 5 (Kd.int IntKind.u8))] }
@[reducible] def p41r0_1 : LP := { n := 50, sl := [.c (Leaf.yld ( 4)), .c (Leaf.ptr ( 3) ( 0)), .d (.int .i64), .d (.int .i64)], bl := [(0, .box [.d (Kd.sl celk), .d (Kd.bool)]), (1, .tb 143 [.c (Leaf.srow ( 5))]), (2, .box [.d (.int .i64), .d (.int .i64), .d (.int .i64)]), (3, .box [.d (Kd.sl celk)]), (4, .lr), (5, .row 5 (Kd.int IntKind.u8))] }
end Go.Proofs.YtdlbnlbajnafdaaDoor
namespace U
def act (c : Cl) : Bool := isB c || decide ((0 : Int) < c.2.1)
def okW (l : List Cl) : Bool := okc l && l.all fun c => look c.2.2.1
end U
namespace Go.Proofs.YtdlbnlbajnafdaaDoor
def Y41 (u : Bool) (bs : List Int) : VS := ⟨65, [one (.ptr 0 0)], [(0, .tb 143 u [.srow 1]), (1, .row 5 (.int .u8) bs)]⟩
def T41 (x : q41_0.T) : Tr (Ex × VS) :=
  match x with
  | ⟨_, ⟨l, s, _⟩, ⟨u, _⟩, ⟨a, b, c, _⟩, ⟨l2, _⟩, _⟩ =>
    .ite (U.okW l && Kd.eqb (.sl celk) l l2)
      (.ret (.nrm, Y41 (u || List.any (α := Cell) l U.act) (U.rowB (List.length (α := Cell) l) true (a, b, c, ()) l))) .fail
noncomputable abbrev E41 : Env := M41 fun key x => bif Nat.beq key 506 then q41_0.ls T41 x else none
noncomputable abbrev I41 (k : Nat) (L : Nat → VS → Option (Tr (Ex × VS))) (x : q41_0.T) : Env := ((E41.lend 0).told k L).inner 5 (yldR (evI 2 ((E41.lend 0).told k L).round) (unV (lv41 506) (q41_0.V x)).t 4)
noncomputable def B41r0_1 (x2 : Int) (x3 : Int) (h0_0 : List Cell) (h0_1 : Bool) (h1_u : Bool) (h2_0 : Int) (h2_1 : Int) (h2_2 : Int) (h3_0 : List Cell) (rl : RL) (h5 : List Int) : Tr (p41r0_1.T ⊕ (Int × Int × List Cell × Bool × Bool × Int × Int × Int × List Cell × RL × List Int)) :=
 let v1 : Bool := (inB x2 (List.length h3_0))
 let v2 : Int := ((↑(List.length h3_0) : Int))
 let v3 : Int := (IntKind.wrap IntKind.i64 (x2 + x3))
 Tr.ite v1 (Tr.ite (U.isB (rget celk h3_0 x2)) (Tr.ite (decide (v3 < v2)) (Tr.ite (inB v3 (List.length h3_0)) (Tr.ite v1 (Tr.ite (decide ((rget celk h3_0 v3).fst = (rget celk h3_0 x2).fst) && (decide ((rget celk h3_0 v3).snd.fst = (rget celk h3_0 x2).snd.fst) && (decide ((rget celk h3_0 v3).snd.snd.fst.fst = (rget celk h3_0 x2).snd.snd.fst.fst) && (decide ((rget celk h3_0 v3).snd.snd.fst.snd.fst = (rget celk h3_0 x2).snd.snd.fst.snd.fst) && decide ((rget celk h3_0 v3).snd.snd.fst.snd.snd.fst = (rget celk h3_0 x2).snd.snd.fst.snd.snd.fst))))) (Tr.ret (Sum.inl ((x2, IntKind.wrap IntKind.i64 (x3 + (1 : Int)), ()), (h0_0, h0_1, ()), (h1_u, ()), (h2_0, h2_1, h2_2, ()), (h3_0, ()), r41_0, h5, ()))) (Tr.ret (Sum.inr (x2, x3, h0_0, h0_1, h1_u, h2_0, h2_1, h2_2, h3_0, r41_0, h5)))) Tr.fail) Tr.fail) (Tr.ret (Sum.inr (x2, x3, h0_0, h0_1, h1_u, h2_0, h2_1, h2_2, h3_0, r41_0, h5)))) (Tr.ret (Sum.inr (x2, x3, h0_0, h0_1, h1_u, h2_0, h2_1, h2_2, h3_0, r41_0, h5)))) Tr.fail
def X41r0_1 (r : (Int × Int × List Cell × Bool × Bool × Int × Int × Int × List Cell × RL × List Int)) : Ex × VS := Prod.mk (Ex.exit ( 2)) { n := 50, v := [Slot.av (AV.one (Leaf.yld ( 4))), Slot.av (AV.one (Leaf.ptr ( 3) ( 0))), Slot.av (AV.one (Leaf.dat (.int .i64) r.fst)), Slot.av (AV.one (Leaf.dat (.int .i64) r.snd.fst))], h := [( 0, Blk.box [Leaf.dat (Kd.sl celk) r.snd.snd.fst, Leaf.dat Kd.bool r.snd.snd.snd.fst]), ( 1, Blk.tb ( 143) r.snd.snd.snd.snd.fst [Leaf.srow ( 5)]), ( 2, Blk.box [Leaf.dat (.int .i64) r.snd.snd.snd.snd.snd.fst, Leaf.dat (.int .i64) r.snd.snd.snd.snd.snd.snd.fst, Leaf.dat (.int .i64) r.snd.snd.snd.snd.snd.snd.snd.fst]), ( 3, Blk.box [Leaf.dat (Kd.sl celk) r.snd.snd.snd.snd.snd.snd.snd.snd.fst]), ( 4, Blk.lrec false none r.snd.snd.snd.snd.snd.snd.snd.snd.snd.fst), ( 5, Blk.row ( 5) (Kd.int IntKind.u8) r.snd.snd.snd.snd.snd.snd.snd.snd.snd.snd)] }
noncomputable def b41r0_1 : p41r0_1.T → Tr (p41r0_1.T ⊕ (Int × Int × List Cell × Bool × Bool × Int × Int × Int × List Cell × RL × List Int)) := fun ⟨⟨x2, ⟨x3, _⟩⟩, ⟨⟨h0_0, ⟨h0_1, _⟩⟩, ⟨⟨h1_u, _⟩, ⟨⟨h2_0, ⟨h2_1, ⟨h2_2, _⟩⟩⟩, ⟨⟨h3_0, _⟩, ⟨rl, ⟨h5, _⟩⟩⟩⟩⟩⟩⟩ => B41r0_1 x2 x3 h0_0 h0_1 h1_u h2_0 h2_1 h2_2 h3_0 rl h5
noncomputable def z41r0_1 : p41r0_1.T → p41r0_1.T := fun ⟨⟨x2, ⟨x3, _⟩⟩, ⟨⟨h0_0, ⟨h0_1, _⟩⟩, ⟨⟨h1_u, _⟩, ⟨⟨h2_0, ⟨h2_1, ⟨h2_2, _⟩⟩⟩, ⟨⟨h3_0, _⟩, ⟨rl, ⟨h5, _⟩⟩⟩⟩⟩⟩⟩ => ((x2, x3, ()), (h0_0, h0_1, ()), (h1_u, ()), (h2_0, h2_1, h2_2, ()), (h3_0, ()), r41_0, h5, ())
noncomputable def o41r0_1 : p41r0_1.T → Bool := fun ⟨⟨x2, ⟨x3, _⟩⟩, ⟨⟨h0_0, ⟨h0_1, _⟩⟩, ⟨⟨h1_u, _⟩, ⟨⟨h2_0, ⟨h2_1, ⟨h2_2, _⟩⟩⟩, ⟨⟨h3_0, _⟩, ⟨rl, ⟨h5, _⟩⟩⟩⟩⟩⟩⟩ => isRL r41_0 rl
theorem ho41r0_1 (y : p41r0_1.T) (h : o41r0_1 y = true) : y = z41r0_1 y := by
  obtain ⟨⟨x2, ⟨x3, _⟩⟩, ⟨⟨h0_0, ⟨h0_1, _⟩⟩, ⟨⟨h1_u, _⟩, ⟨⟨h2_0, ⟨h2_1, ⟨h2_2, _⟩⟩⟩, ⟨⟨h3_0, _⟩, ⟨rl, ⟨h5, _⟩⟩⟩⟩⟩⟩⟩ := y; have h := isRL_iff.1 h
  subst h
  rfl
theorem h41r0_1 (k : Nat) (L : Nat → VS → Option (Tr (Ex × VS))) (g0_0 : List Cell) (g0_1 : Bool) (g1_u : Bool) (g2_0 : Int) (g2_1 : Int) (g2_2 : Int) (g3_0 : List Cell) (y : p41r0_1.T) : (evC (evI 1) (lc Tryd.f155 1) (I41 k L ((), (g0_0, g0_1, ()), (g1_u, ()), (g2_0, g2_1, g2_2, ()), (g3_0, ()), ())) (unV (live155 3) (p41r0_1.V (z41r0_1 y)))).map (decL 5 (live155 3) (live155 1003)) = ((b41r0_1) y).map (encR (fun a => p41r0_1.V (z41r0_1 a)) X41r0_1) := by
  obtain ⟨⟨x2, ⟨x3, _⟩⟩, ⟨⟨h0_0, ⟨h0_1, _⟩⟩, ⟨⟨h1_u, _⟩, ⟨⟨h2_0, ⟨h2_1, ⟨h2_2, _⟩⟩⟩, ⟨⟨h3_0, _⟩, ⟨rl, ⟨h5, _⟩⟩⟩⟩⟩⟩⟩ := y; kernel_rfl
theorem c41r0_1 (y : p41r0_1.T) : canV 5 (live155 3) (unV (live155 3) (p41r0_1.V (z41r0_1 y))) = p41r0_1.V (z41r0_1 y) := by
  obtain ⟨⟨x2, ⟨x3, _⟩⟩, ⟨⟨h0_0, ⟨h0_1, _⟩⟩, ⟨⟨h1_u, _⟩, ⟨⟨h2_0, ⟨h2_1, ⟨h2_2, _⟩⟩⟩, ⟨⟨h3_0, _⟩, ⟨rl, ⟨h5, _⟩⟩⟩⟩⟩⟩⟩ := y; kernel_rfl
theorem l41r0_1 {T : p41r0_1.T → Tr (Int × Int × List Cell × Bool × Bool × Int × Int × Int × List Cell × RL × List Int)} (k : Nat) (L : Nat → VS → Option (Tr (Ex × VS))) (g0_0 : List Cell) (g0_1 : Bool) (g1_u : Bool) (g2_0 : Int) (g2_1 : Int) (g2_2 : Int) (g3_0 : List Cell) (hls : ∀ x, L 3 x = p41r0_1.ls (fun a => .ite (o41r0_1 a) ((T a).map X41r0_1) .fail) x) (hS : ∀ x r, (T x).val = some r → Rounds (b41r0_1) x r) : LoopOK (evI 1) (I41 k L ((), (g0_0, g0_1, ()), (g1_u, ()), (g2_0, g2_1, g2_2, ()), (g3_0, ()), ())) (lc Tryd.f155 1) :=
  loopB 3 (live155 3) (live155 1003) p41r0_1 id z41r0_1 o41r0_1 ho41r0_1 (b41r0_1) X41r0_1 T (by kernel_rfl) rfl rfl hls (h41r0_1 k L g0_0 g0_1 g1_u g2_0 g2_1 g2_2 g3_0) c41r0_1 hS
end Go.Proofs.YtdlbnlbajnafdaaDoor
namespace U
def runN (l : List Cl) (i : Nat) : Nat := bif isB (l.getD i dC) then alike (l.getD i dC) (l.drop (i + 1)) + 1 else 1
theorem alike_step (c : Cl) {l : List Cl} {i : Nat} (hi : i < l.length) : alike c (l.drop i) = bif eqC (l.getD i dC) c then alike c (l.drop (i + 1)) + 1 else 0 := by
  rw [List.drop_eq_getElem_cons hi, getD_el hi]
  rfl
theorem runN_le {l : List Cl} {i : Nat} (hi : i < l.length) : 1 ≤ runN l i ∧ i + runN l i ≤ l.length := by
  unfold runN
  have := alike_le (l.getD i dC) (l.drop (i + 1))
  rw [List.length_drop] at this
  cases isB (l.getD i dC) <;> simp only [cond_true, cond_false] <;> omega
end U
namespace Go.Proofs.YtdlbnlbajnafdaaDoor
abbrev Z41 := Int × Int × List Cell × Bool × Bool × Int × Int × Int × List Cell × RL × List Int
noncomputable def T41r0_1 (x : p41r0_1.T) : Tr Z41 :=
  match x with
  | ⟨⟨i, n, _⟩, ⟨⟨l, s, _⟩, ⟨u, _⟩, ⟨a, b, c, _⟩, ⟨l2, _⟩, rl, bs, _⟩⟩ =>
    .ite (decide (0 ≤ (i : Int) ∧ (i : Int) < (List.length (α := Cell) l2 : Int) ∧ (n : Int) = 1 ∧ List.length (α := Cell) l2 ≤ 1048576))
      (.ret (i, (U.runN l2 (Int.toNat i) : Int), l, s, u, a, b, c, l2, r41_0, bs)) .fail
theorem R41r0_1 (l : List Cell) (s u : Bool) (a b c : Int) (l2 : List Cell) (bs : List Int) (hl : l2.length ≤ 1048576) (i : Nat) (hi : i < l2.length) (hb : U.isB (l2.getD i U.dC) = true) : ∀ (k n : Nat) (rl : RL), i + n + k = l2.length →
    Rounds b41r0_1 (((i : Int), (n : Int), ()), (l, s, ()), (u, ()), (a, b, c, ()), (l2, ()), rl, bs, ()) (((i : Int), ((n + U.alike (l2.getD i U.dC) (l2.drop (i + n)) : Nat) : Int), l, s, u, a, b, c, l2, r41_0, bs) : Z41)
  | 0, n, rl, e => by
    rw [show i + n = l2.length by omega, List.drop_length]
    refine .exit ?_
    have w : IntKind.wrap IntKind.i64 ((i : Int) + (n : Int)) = (l2.length : Int) := by rw [Go.Ev.w64 (by omega) (by omega)]; omega
    simp only [b41r0_1, B41r0_1, Tr.val, inB_nat hi, rgetC, hb, w, show ¬ ((l2.length : Int) < (l2.length : Int)) by omega, decide_false, cond_true, cond_false]
    rfl
  | k + 1, n, rl, e => by
    have hj : i + n < l2.length := by omega
    have w : IntKind.wrap IntKind.i64 ((i : Int) + (n : Int)) = ((i + n : Nat) : Int) := by rw [Go.Ev.w64 (by omega) (by omega)]; omega
    have w2 : IntKind.wrap IntKind.i64 ((n : Int) + 1) = ((n + 1 : Nat) : Int) := wrap64_nat (by omega)
    rw [U.alike_step _ hj]
    have hv : (b41r0_1 (((i : Int), (n : Int), ()), (l, s, ()), (u, ()), (a, b, c, ()), (l2, ()), rl, bs, ())).val =
        bif U.eqC (l2.getD (i + n) U.dC) (l2.getD i U.dC) then some (.inl (((i : Int), ((n + 1 : Nat) : Int), ()), (l, s, ()), (u, ()), (a, b, c, ()), (l2, ()), r41_0, bs, ())) else some (.inr (((i : Int), (n : Int), l, s, u, a, b, c, l2, r41_0, bs) : Z41)) := by
      simp only [b41r0_1, B41r0_1, Tr.val, inB_nat hi, inB_nat hj, rgetC, hb, w, w2, show (((i + n : Nat) : Int) < (l2.length : Int)) by omega, decide_true, cond_true]
      rfl
    cases he : U.eqC (l2.getD (i + n) U.dC) (l2.getD i U.dC) with
    | true =>
      rw [he] at hv
      have ih := R41r0_1 l s u a b c l2 bs hl i hi hb k (n + 1) r41_0 (by omega)
      rw [show i + (n + 1) = i + n + 1 by omega, show n + 1 + U.alike (l2.getD i U.dC) (l2.drop (i + n + 1)) = n + (U.alike (l2.getD i U.dC) (l2.drop (i + n + 1)) + 1) by omega] at ih
      exact .step hv ih
    | false =>
      rw [he] at hv
      exact .exit hv
theorem K41r0_1 (k : Nat) (L : Nat → VS → Option (Tr (Ex × VS))) (x : q41_0.T) (h8 : ∀ y, L 3 y = p41r0_1.ls (fun a => .ite (o41r0_1 a) ((T41r0_1 a).map X41r0_1) .fail) y) : LoopOK (evI 1) (I41 k L x) (lc Tryd.f155 1) := by
  obtain ⟨⟨_⟩, ⟨g1, g2, _⟩, ⟨g3, _⟩, ⟨g4, g5, g6, _⟩, ⟨g7, _⟩, _⟩ := x
  refine l41r0_1 (T := T41r0_1) k L g1 g2 g3 g4 g5 g6 g7 h8 ?_
  rintro ⟨⟨i, n, z⟩, ⟨⟨l, s, z1⟩, ⟨u, z2⟩, ⟨a, b, c, z3⟩, ⟨l2, z4⟩, rl, bs, z5⟩⟩ r hh
  obtain ⟨e1, e2⟩ := pre_val hh
  have e1 : 0 ≤ (i : Int) ∧ (i : Int) < (l2.length : Int) ∧ (n : Int) = 1 ∧ l2.length ≤ 1048576 := of_decide_eq_true e1
  obtain ⟨h1, h2, h3, h4⟩ := e1
  obtain ⟨i', rfl⟩ := Int.eq_ofNat_of_zero_le h1
  have h2 : i' < l2.length := Int.ofNat_lt.1 h2
  subst h3
  cases e2
  show Rounds b41r0_1 _ (((i' : Int), ((U.runN l2 i' : Nat) : Int), l, s, u, a, b, c, l2, r41_0, bs) : Z41)
  cases hb : U.isB (l2.getD i' U.dC) with
  | true =>
    have := R41r0_1 l s u a b c l2 bs h4 i' h2 hb (l2.length - (i' + 1)) 1 rl (by omega)
    have e : U.runN l2 i' = 1 + U.alike (l2.getD i' U.dC) (l2.drop (i' + 1)) := by unfold U.runN; rw [hb, cond_true]; omega
    rw [e]
    exact this
  | false =>
    have e : U.runN l2 i' = 1 := by unfold U.runN; rw [hb, cond_false]
    rw [e]
    refine .exit ?_
    simp only [b41r0_1, B41r0_1, Tr.val, inB_nat h2, rgetC, hb, cond_true, cond_false]
    rfl
noncomputable def V41 (L : Nat → VS → Option (Tr (Ex × VS))) (key : Nat) (y : VS) : Option (Tr (Ex × VS)) := bif Nat.beq key 3 then p41r0_1.ls (fun a => .ite (o41r0_1 a) ((T41r0_1 a).map X41r0_1) .fail) y else L key y
noncomputable abbrev J41 (k : Nat) (L : Nat → VS → Option (Tr (Ex × VS))) (x : q41_0.T) : Env := I41 0 (V41 L) x
noncomputable def B41r0_0 (x2 : Int) (h0_0 : List Cell) (h0_1 : Bool) (h1_u : Bool) (h2_0 : Int) (h2_1 : Int) (h2_2 : Int) (h3_0 : List Cell) (rl : RL) (h5 : List Int) : Tr (p41r0_0.T ⊕ (List Cell × Bool × Bool × Int × Int × Int × List Cell × RL × List Int)) :=
 let v1 : Int := ((↑(List.length h3_0) : Int))
 let v2 : Int := ((↑(List.length h3_0) : Int))
 let v3 : Int := ((↑(List.length h0_0) : Int))
 let v4 : Int := (IntKind.wrap IntKind.i64 (x2 + (↑(U.runN h3_0 (Int.toNat x2)) : Int)))
 let v5 : List Cell := (sub h3_0 (Int.toNat x2) (Int.toNat v4))
 let v6 : Int := ((↑(List.length v5) : Int))
 let v7 : Int := (IntKind.wrap IntKind.i64 (x2 + v6))
 let v8 : Bool := (true && U.okN [v6])
 let v9 : List Int := (bytesL (rget celk v5 (0 : Int)).fst)
 let v10 : ByteArray := (U.askS (rget celk v5 (0 : Int)).snd.snd.fst)
 let v11 : Bool := (U.look (rget celk v5 (0 : Int)).snd.snd.fst)
 let v12 : ByteArray := (U.seqS { data := #[OfNat.ofNat (88 : Nat)] } [v6])
 let v13 : List Int := (List.append h5 (bytesL v10))
 let v14 : ByteArray := (U.seqS { data := #[OfNat.ofNat (67 : Nat)] } [v6])
 let v15 : ByteArray := (v10 ++ v12)
 let v16 : List Int := (List.append h5 (bytesL v15))
 Tr.ite (decide (x2 < v2)) (Tr.ite (o41r0_1 ((x2, (1 : Int), ()), (h0_0, h0_1, ()), (h1_u, ()), (h2_0, h2_1, h2_2, ()), (h3_0, ()), r41_0, h5, ())) (Tr.ite (decide ((0 : Int) ≤ x2 ∧ x2 < v1 ∧ (1 : Int) = (1 : Int) ∧ List.length h3_0 ≤ (1048576 : Nat))) (Tr.ite (decide ((0 : Int) ≤ x2 ∧ x2 ≤ v4 ∧ v4 ≤ v2)) (Tr.ite (inB (0 : Int) (List.length v5)) (Tr.ite (U.isB (rget celk v5 (0 : Int))) (Tr.ite v11 (Tr.ite v8 (Tr.ite (decide (ByteArray.size v10 + ByteArray.size v12 ≤ (9223372036854775807 : Nat))) (Tr.ite (decide (List.length h5 + ByteArray.size v15 ≤ (140737488355328 : Nat))) (Tr.ite (decide (v7 < v3)) (Tr.ite v8 (Tr.ite (decide (List.length v16 + ByteArray.size v14 ≤ (140737488355328 : Nat))) (Tr.ret (Sum.inl ((v4, ()), (h0_0, h0_1, ()), (true, ()), ((rget celk v5 (0 : Int)).snd.snd.fst.fst, (rget celk v5 (0 : Int)).snd.snd.fst.snd.fst, (rget celk v5 (0 : Int)).snd.snd.fst.snd.snd.fst, ()), (h3_0, ()), r41_0, List.append v16 (bytesL v14), ()))) Tr.fail) Tr.fail) (Tr.ret (Sum.inl ((v4, ()), (h0_0, h0_1, ()), (true, ()), ((rget celk v5 (0 : Int)).snd.snd.fst.fst, (rget celk v5 (0 : Int)).snd.snd.fst.snd.fst, (rget celk v5 (0 : Int)).snd.snd.fst.snd.snd.fst, ()), (h3_0, ()), r41_0, v16, ())))) Tr.fail) Tr.fail) Tr.fail) Tr.fail) (Tr.ite (decide ((0 : Int) < (rget celk v5 (0 : Int)).snd.fst)) (Tr.ite (decide (x2 = (0 : Int))) (Tr.ite v11 (Tr.ite (decide (List.length h5 + ByteArray.size v10 ≤ (140737488355328 : Nat))) (Tr.ite (decide (List.length v13 + ByteArray.size (rget celk v5 (0 : Int)).fst ≤ (140737488355328 : Nat))) (Tr.ret (Sum.inl ((v4, ()), (h0_0, h0_1, ()), (true, ()), ((rget celk v5 (0 : Int)).snd.snd.fst.fst, (rget celk v5 (0 : Int)).snd.snd.fst.snd.fst, (rget celk v5 (0 : Int)).snd.snd.fst.snd.snd.fst, ()), (h3_0, ()), r41_0, List.append v13 v9, ()))) Tr.fail) Tr.fail) Tr.fail) (Tr.ite (!(decide (h2_0 = (rget celk v5 (0 : Int)).snd.snd.fst.fst) && (decide (h2_1 = (rget celk v5 (0 : Int)).snd.snd.fst.snd.fst) && decide (h2_2 = (rget celk v5 (0 : Int)).snd.snd.fst.snd.snd.fst)))) (Tr.ite v11 (Tr.ite (decide (List.length h5 + ByteArray.size v10 ≤ (140737488355328 : Nat))) (Tr.ite (decide (List.length v13 + ByteArray.size (rget celk v5 (0 : Int)).fst ≤ (140737488355328 : Nat))) (Tr.ret (Sum.inl ((v4, ()), (h0_0, h0_1, ()), (true, ()), ((rget celk v5 (0 : Int)).snd.snd.fst.fst, (rget celk v5 (0 : Int)).snd.snd.fst.snd.fst, (rget celk v5 (0 : Int)).snd.snd.fst.snd.snd.fst, ()), (h3_0, ()), r41_0, List.append v13 v9, ()))) Tr.fail) Tr.fail) Tr.fail) (Tr.ite (decide (List.length h5 + ByteArray.size (rget celk v5 (0 : Int)).fst ≤ (140737488355328 : Nat))) (Tr.ret (Sum.inl ((v4, ()), (h0_0, h0_1, ()), (true, ()), ((rget celk v5 (0 : Int)).snd.snd.fst.fst, (rget celk v5 (0 : Int)).snd.snd.fst.snd.fst, (rget celk v5 (0 : Int)).snd.snd.fst.snd.snd.fst, ()), (h3_0, ()), r41_0, List.append h5 v9, ()))) Tr.fail))) (Tr.ret (Sum.inl ((v4, ()), (h0_0, h0_1, ()), (h1_u, ()), (h2_0, h2_1, h2_2, ()), (h3_0, ()), r41_0, h5, ()))))) Tr.fail) Tr.fail) Tr.fail) Tr.fail) (Tr.ret (Sum.inr (h0_0, h0_1, h1_u, h2_0, h2_1, h2_2, h3_0, r41_0, h5)))
def X41r0_0 (r : (List Cell × Bool × Bool × Int × Int × Int × List Cell × RL × List Int)) : Ex × VS := Prod.mk (Ex.exit ( 0)) { n := 50, v := [], h := [( 0, Blk.box [Leaf.dat (Kd.sl celk) r.fst, Leaf.dat Kd.bool r.snd.fst]), ( 1, Blk.tb ( 143) r.snd.snd.fst [Leaf.srow ( 5)]), ( 2, Blk.box [Leaf.dat (.int .i64) r.snd.snd.snd.fst, Leaf.dat (.int .i64) r.snd.snd.snd.snd.fst, Leaf.dat (.int .i64) r.snd.snd.snd.snd.snd.fst]), ( 3, Blk.box [Leaf.dat (Kd.sl celk) r.snd.snd.snd.snd.snd.snd.fst]), ( 4, Blk.lrec false none r.snd.snd.snd.snd.snd.snd.snd.fst), ( 5, Blk.row ( 5) (Kd.int IntKind.u8) r.snd.snd.snd.snd.snd.snd.snd.snd)] }
noncomputable def b41r0_0 : p41r0_0.T → Tr (p41r0_0.T ⊕ (List Cell × Bool × Bool × Int × Int × Int × List Cell × RL × List Int)) := fun ⟨⟨x2, _⟩, ⟨⟨h0_0, ⟨h0_1, _⟩⟩, ⟨⟨h1_u, _⟩, ⟨⟨h2_0, ⟨h2_1, ⟨h2_2, _⟩⟩⟩, ⟨⟨h3_0, _⟩, ⟨rl, ⟨h5, _⟩⟩⟩⟩⟩⟩⟩ => B41r0_0 x2 h0_0 h0_1 h1_u h2_0 h2_1 h2_2 h3_0 rl h5
noncomputable def z41r0_0 : p41r0_0.T → p41r0_0.T := fun ⟨⟨x2, _⟩, ⟨⟨h0_0, ⟨h0_1, _⟩⟩, ⟨⟨h1_u, _⟩, ⟨⟨h2_0, ⟨h2_1, ⟨h2_2, _⟩⟩⟩, ⟨⟨h3_0, _⟩, ⟨rl, ⟨h5, _⟩⟩⟩⟩⟩⟩⟩ => ((x2, ()), (h0_0, h0_1, ()), (h1_u, ()), (h2_0, h2_1, h2_2, ()), (h3_0, ()), r41_0, h5, ())
noncomputable def o41r0_0 : p41r0_0.T → Bool := fun ⟨⟨x2, _⟩, ⟨⟨h0_0, ⟨h0_1, _⟩⟩, ⟨⟨h1_u, _⟩, ⟨⟨h2_0, ⟨h2_1, ⟨h2_2, _⟩⟩⟩, ⟨⟨h3_0, _⟩, ⟨rl, ⟨h5, _⟩⟩⟩⟩⟩⟩⟩ => isRL r41_0 rl
theorem ho41r0_0 (y : p41r0_0.T) (h : o41r0_0 y = true) : y = z41r0_0 y := by
  obtain ⟨⟨x2, _⟩, ⟨⟨h0_0, ⟨h0_1, _⟩⟩, ⟨⟨h1_u, _⟩, ⟨⟨h2_0, ⟨h2_1, ⟨h2_2, _⟩⟩⟩, ⟨⟨h3_0, _⟩, ⟨rl, ⟨h5, _⟩⟩⟩⟩⟩⟩⟩ := y; have h := isRL_iff.1 h
  subst h
  rfl
theorem h41r0_0 (k : Nat) (L : Nat → VS → Option (Tr (Ex × VS))) (g0_0 : List Cell) (g0_1 : Bool) (g1_u : Bool) (g2_0 : Int) (g2_1 : Int) (g2_2 : Int) (g3_0 : List Cell) (y : p41r0_0.T) : (evC (evI 1) (lc Tryd.f155 0) (J41 k L ((), (g0_0, g0_1, ()), (g1_u, ()), (g2_0, g2_1, g2_2, ()), (g3_0, ()), ())) (unV (live155 1) (p41r0_0.V (z41r0_0 y)))).map (decL 5 (live155 1) (live155 1001)) = ((b41r0_0) y).map (encR (fun a => p41r0_0.V (z41r0_0 a)) X41r0_0) := by
  obtain ⟨⟨x2, _⟩, ⟨⟨h0_0, ⟨h0_1, _⟩⟩, ⟨⟨h1_u, _⟩, ⟨⟨h2_0, ⟨h2_1, ⟨h2_2, _⟩⟩⟩, ⟨⟨h3_0, _⟩, ⟨rl, ⟨h5, _⟩⟩⟩⟩⟩⟩⟩ := y; kernel_rfl
theorem c41r0_0 (y : p41r0_0.T) : canV 5 (live155 1) (unV (live155 1) (p41r0_0.V (z41r0_0 y))) = p41r0_0.V (z41r0_0 y) := by
  obtain ⟨⟨x2, _⟩, ⟨⟨h0_0, ⟨h0_1, _⟩⟩, ⟨⟨h1_u, _⟩, ⟨⟨h2_0, ⟨h2_1, ⟨h2_2, _⟩⟩⟩, ⟨⟨h3_0, _⟩, ⟨rl, ⟨h5, _⟩⟩⟩⟩⟩⟩⟩ := y; kernel_rfl
theorem l41r0_0 {T : p41r0_0.T → Tr (List Cell × Bool × Bool × Int × Int × Int × List Cell × RL × List Int)} (k : Nat) (L : Nat → VS → Option (Tr (Ex × VS))) (g0_0 : List Cell) (g0_1 : Bool) (g1_u : Bool) (g2_0 : Int) (g2_1 : Int) (g2_2 : Int) (g3_0 : List Cell) (hls : ∀ x, L 1 x = p41r0_0.ls (fun a => .ite (o41r0_0 a) ((T a).map X41r0_0) .fail) x) (hS : ∀ x r, (T x).val = some r → Rounds (b41r0_0) x r) : LoopOK (evI 1) (J41 k L ((), (g0_0, g0_1, ()), (g1_u, ()), (g2_0, g2_1, g2_2, ()), (g3_0, ()), ())) (lc Tryd.f155 0) :=
  loopB 1 (live155 1) (live155 1001) p41r0_0 id z41r0_0 o41r0_0 ho41r0_0 (b41r0_0) X41r0_0 T (by kernel_rfl) rfl rfl hls (h41r0_0 k L g0_0 g0_1 g1_u g2_0 g2_1 g2_2 g3_0) c41r0_0 hS
end Go.Proofs.YtdlbnlbajnafdaaDoor
namespace U
def rowK : Nat → At → List Cl → At
  | 0, a, _ => a
  | _ + 1, a, [] => a
  | k + 1, a, c :: t => bif isB c then rowK k c.2.2.1 (t.drop (alike c t)) else bif decide ((0 : Int) < c.2.1) then rowK k c.2.2.1 t else rowK k a t
theorem rowB_nil (k : Nat) (f : Bool) (a : At) : rowB k f a [] = [] := by cases k <;> rfl
theorem rowK_nil (k : Nat) (a : At) : rowK k a [] = a := by cases k <;> rfl
theorem rowB_run {k : Nat} {f : Bool} {a : At} {c : Cl} {t : List Cl} (h : isB c = true) : rowB (k + 1) f a (c :: t) =
    bytesL (askS c.2.2.1 ++ seqS xS [((alike c t + 1 : Nat) : Int)]) ++ ((bif decide (alike c t < t.length) then bytesL (seqS cS [((alike c t + 1 : Nat) : Int)]) else []) ++ rowB k false c.2.2.1 (t.drop (alike c t))) := by
  conv => lhs; unfold rowB
  rw [h, cond_true]
theorem rowB_let {k : Nat} {f : Bool} {a : At} {c : Cl} {t : List Cl} (h : isB c = false) (h2 : (0 : Int) < c.2.1) : rowB (k + 1) f a (c :: t) =
    (bif f || !decide (a = c.2.2.1) then bytesL (askS c.2.2.1) else []) ++ (bytesL c.1 ++ rowB k false c.2.2.1 t) := by
  conv => lhs; unfold rowB
  rw [h, decide_eq_true h2, cond_false, cond_true]
theorem rowB_no {k : Nat} {f : Bool} {a : At} {c : Cl} {t : List Cl} (h : isB c = false) (h2 : ¬ (0 : Int) < c.2.1) : rowB (k + 1) f a (c :: t) = rowB k false a t := by
  conv => lhs; unfold rowB
  rw [h, decide_eq_false h2, cond_false, cond_false]
theorem rowK_run {k : Nat} {a : At} {c : Cl} {t : List Cl} (h : isB c = true) : rowK (k + 1) a (c :: t) = rowK k c.2.2.1 (t.drop (alike c t)) := by
  conv => lhs; unfold rowK
  rw [h, cond_true]
theorem rowK_let {k : Nat} {a : At} {c : Cl} {t : List Cl} (h : isB c = false) (h2 : (0 : Int) < c.2.1) : rowK (k + 1) a (c :: t) = rowK k c.2.2.1 t := by
  conv => lhs; unfold rowK
  rw [h, decide_eq_true h2, cond_false, cond_true]
theorem rowK_no {k : Nat} {a : At} {c : Cl} {t : List Cl} (h : isB c = false) (h2 : ¬ (0 : Int) < c.2.1) : rowK (k + 1) a (c :: t) = rowK k a t := by
  conv => lhs; unfold rowK
  rw [h, decide_eq_false h2, cond_false, cond_false]
theorem askS_size {a : At} (h : look a = true) : (askS a).size ≤ 10003 := seqS_size (ask_ok h)
theorem okW_at {l : List Cl} (h : okW l = true) {i : Nat} (hi : i < l.length) : (l[i]).1.size ≤ 1048576 ∧ look (l[i]).2.2.1 = true := by
  unfold okW at h
  rw [Bool.and_eq_true] at h
  have h1 := okc_at h.1 hi
  rw [getD_el hi] at h1
  exact ⟨h1, List.all_eq_true.1 h.2 _ (List.getElem_mem hi)⟩
theorem okW_len {l : List Cl} (h : okW l = true) : l.length ≤ 1048576 := by
  unfold okW at h
  rw [Bool.and_eq_true] at h
  exact okc_len h.1
end U
namespace Go.Proofs.YtdlbnlbajnafdaaDoor
abbrev Z41' := List Cell × Bool × Bool × Int × Int × Int × List Cell × RL × List Int
def z41 (l : List Cell) (s u : Bool) (a : U.At) (rl : RL) (bs : List Int) : Z41' := (l, s, u, a.1, a.2.1, a.2.2.1, l, rl, bs)
noncomputable def T41r0_0 (x : p41r0_0.T) : Tr Z41' :=
  match x with
  | ⟨⟨i, _⟩, ⟨⟨l, s, _⟩, ⟨u, _⟩, ⟨a, b, c, _⟩, ⟨l2, _⟩, rl, bs, _⟩⟩ =>
    .ite (decide ((i : Int) = 0 ∧ List.length (α := Int) bs = 0) && (U.okW l && Kd.eqb (.sl celk) l l2))
      (.ret (z41 l s (u || List.any (α := Cell) l U.act) (U.rowK (List.length (α := Cell) l) (a, b, c, ()) l) r41_0 (U.rowB (List.length (α := Cell) l) true (a, b, c, ()) l))) .fail
theorem sub_run {l : List Cell} {i m : Nat} (hm : 1 ≤ m) (h : i + m ≤ l.length) (hi : i < l.length) : (sub l i (i + m)).length = m ∧ rget celk (sub l i (i + m)) (0 : Int) = l[i] := by
  unfold sub
  refine ⟨by rw [List.length_drop, List.length_take]; omega, ?_⟩
  rw [show (0 : Int) = ((0 : Nat) : Int) from rfl, rgetC, List.getD_eq_getElem?_getD, List.getElem?_drop, List.getElem?_take_of_lt (by omega), Nat.add_zero, List.getElem?_eq_getElem hi]
  rfl
theorem R41r0_0 (l : List Cell) (s : Bool) (ok : U.okW l = true) : ∀ (k i : Nat) (rl : RL) (u : Bool) (a b c : Int) (bs : List Int), i ≤ l.length → l.length ≤ i + k → bs.length + k * 1100000 ≤ 140737488355328 →
    Rounds b41r0_0 (((i : Int), ()), (l, s, ()), (u, ()), (a, b, c, ()), (l, ()), rl, bs, ())
      (z41 l s (u || (l.drop i).any U.act) (U.rowK k (a, b, c, ()) (l.drop i)) r41_0 (bs ++ U.rowB k (decide (i = 0)) (a, b, c, ()) (l.drop i)))
  | k, i, rl, u, a, b, c, bs, h1, h2, h3 => by
    have hl := U.okW_len ok
    by_cases hi : i < l.length
    · obtain ⟨k, rfl⟩ : ∃ k', k = k' + 1 := ⟨k - 1, by omega⟩
      obtain ⟨hm1, hm2⟩ := U.runN_le hi
      obtain ⟨hz, hg⟩ := sub_run hm1 hm2 hi
      obtain ⟨ht, hk⟩ := U.okW_at ok hi
      have hd : l.drop i = l[i] :: l.drop (i + 1) := List.drop_eq_getElem_cons hi
      have ha := U.askS_size hk
      have lt : decide ((i : Int) < (l.length : Int)) = true := decide_eq_true (by omega)
      have ho : o41r0_1 (((i : Int), (1 : Int), ()), (l, s, ()), (u, ()), (a, b, c, ()), (l, ()), r41_0, bs, ()) = true := isRL_self _
      have w4 : IntKind.wrap IntKind.i64 ((i : Int) + ((U.runN l i : Nat) : Int)) = ((i + U.runN l i : Nat) : Int) := by rw [Go.Ev.w64 (by omega) (by omega)]; omega
      have o1 := U.one_ok (n := U.runN l i) (by omega)
      have s1 : (U.seqS { data := #[88] } [((U.runN l i : Nat) : Int)]).size ≤ 10003 := U.seqS_size o1
      have s2 : (U.seqS { data := #[67] } [((U.runN l i : Nat) : Int)]).size ≤ 10003 := U.seqS_size o1
      have i0 : inB (0 : Int) (U.runN l i) = true := inB_nat (i := 0) (by omega)
      have ih := fun (u : Bool) (p q r : Int) (bs' : List Int) (hb : bs'.length + k * 1100000 ≤ 140737488355328) => R41r0_0 l s ok k (i + U.runN l i) r41_0 u p q r bs' hm2 (by omega) hb
      have hn0 : decide (i + U.runN l i = 0) = false := decide_eq_false (by omega)
      rw [hd, List.any_cons]
      generalize hx : l[i] = x at hg ht hk ha
      obtain ⟨xt, xw, ⟨x1, x2, x3, z1⟩, z2⟩ := x
      have ha : (U.askS (x1, x2, x3, z1)).size ≤ 10003 := ha
      have hk : U.look (x1, x2, x3, z1) = true := hk
      have ht : xt.size ≤ 1048576 := ht
      have hq : l.getD i U.dC = (xt, xw, (x1, x2, x3, z1), z2) := by rw [getD_el hi]; exact hx
      cases hb : U.isB (xt, xw, (x1, x2, x3, z1), z2) with
      | true =>
        have hr : U.runN l i = U.alike (xt, xw, (x1, x2, x3, z1), z2) (l.drop (i + 1)) + 1 := by unfold U.runN; rw [hq, hb, cond_true]
        have hdd : l.drop (i + U.runN l i) = (l.drop (i + 1)).drop (U.alike (xt, xw, (x1, x2, x3, z1), z2) (l.drop (i + 1))) := by rw [List.drop_drop, hr]; exact congrArg (fun n => l.drop n) (by omega)
        have hac : U.act (xt, xw, (x1, x2, x3, z1), z2) = true := by unfold U.act; rw [hb]; rfl
        rw [U.rowB_run hb, U.rowK_run hb, ← hdd, ← hr, hac]
        have a1 : (U.askS (x1, x2, x3, z1)).size + (U.seqS { data := #[88] } [((U.runN l i : Nat) : Int)]).size ≤ 9223372036854775807 := by omega
        have e1 : (U.askS (x1, x2, x3, z1) ++ U.seqS { data := #[88] } [((U.runN l i : Nat) : Int)]).size ≤ 20006 := by rw [ByteArray.size_append]; omega
        have e2 : (bytesL (U.askS (x1, x2, x3, z1) ++ U.seqS { data := #[88] } [((U.runN l i : Nat) : Int)])).length ≤ 20006 := by rw [Ev.bytesL_len]; exact e1
        have e3 : (bs ++ bytesL (U.askS (x1, x2, x3, z1) ++ U.seqS { data := #[88] } [((U.runN l i : Nat) : Int)])).length ≤ bs.length + 20006 := by rw [List.length_append]; omega
        have e3' : (List.append bs (bytesL (U.askS (x1, x2, x3, z1) ++ U.seqS { data := #[88] } [((U.runN l i : Nat) : Int)]))).length ≤ bs.length + 20006 := e3
        have a2 : bs.length + (U.askS (x1, x2, x3, z1) ++ U.seqS { data := #[88] } [((U.runN l i : Nat) : Int)]).size ≤ 140737488355328 := by omega
        have a3 : (List.append bs (bytesL (U.askS (x1, x2, x3, z1) ++ U.seqS { data := #[88] } [((U.runN l i : Nat) : Int)]))).length + (U.seqS { data := #[67] } [((U.runN l i : Nat) : Int)]).size ≤ 140737488355328 := by omega
        have hv : (b41r0_0 (((i : Int), ()), (l, s, ()), (u, ()), (a, b, c, ()), (l, ()), rl, bs, ())).val =
            bif decide (((i + U.runN l i : Nat) : Int) < (l.length : Int)) then
              some (.inl ((((i + U.runN l i : Nat) : Int), ()), (l, s, ()), (true, ()), (x1, x2, x3, ()), (l, ()), r41_0, (bs ++ bytesL (U.askS (x1, x2, x3, z1) ++ U.seqS U.xS [((U.runN l i : Nat) : Int)])) ++ bytesL (U.seqS U.cS [((U.runN l i : Nat) : Int)]), ()))
            else some (.inl ((((i + U.runN l i : Nat) : Int), ()), (l, s, ()), (true, ()), (x1, x2, x3, ()), (l, ()), r41_0, bs ++ bytesL (U.askS (x1, x2, x3, z1) ++ U.seqS U.xS [((U.runN l i : Nat) : Int)]), ())) := by
          simp only [b41r0_0, B41r0_0, Tr.val, lt, ho, Int.toNat_natCast, w4, hz, hg, i0, hb, hk, o1, a1, a2, a3, hl, show ((0 : Int) ≤ (i : Int) ∧ (i : Int) < (l.length : Int)) by omega, show ((0 : Int) ≤ (i : Int) ∧ (i : Int) ≤ ((i + U.runN l i : Nat) : Int) ∧ ((i + U.runN l i : Nat) : Int) ≤ (l.length : Int)) by omega, show (0 : Int) ≤ (i : Int) by omega, show (i : Int) < (l.length : Int) by omega, and_self, decide_true, Bool.and_self, cond_true]
          rfl
        have hlt : decide (U.alike (xt, xw, (x1, x2, x3, z1), z2) (l.drop (i + 1)) < (l.drop (i + 1)).length) = decide (((i + U.runN l i : Nat) : Int) < (l.length : Int)) := by
          rw [List.length_drop]
          exact decide_eq_decide.2 (by omega)
        rw [hlt]
        cases hc : decide (((i + U.runN l i : Nat) : Int) < (l.length : Int)) with
        | true =>
          rw [hc, cond_true] at hv
          refine .step hv ?_
          have h4 : ((bs ++ bytesL (U.askS (x1, x2, x3, z1) ++ U.seqS U.xS [((U.runN l i : Nat) : Int)])) ++ bytesL (U.seqS U.cS [((U.runN l i : Nat) : Int)])).length + k * 1100000 ≤ 140737488355328 := by
            rw [List.length_append, Ev.bytesL_len]
            have e3 : (bs ++ bytesL (U.askS (x1, x2, x3, z1) ++ U.seqS U.xS [((U.runN l i : Nat) : Int)])).length ≤ bs.length + 20006 := e3
            have s2 : (U.seqS U.cS [((U.runN l i : Nat) : Int)]).size ≤ 10003 := s2
            omega
          have := ih true x1 x2 x3 _ h4
          rw [hn0, List.append_assoc, List.append_assoc] at this
          rw [cond_true]
          simpa only [Bool.true_or, Bool.or_true, List.append_assoc] using this
        | false =>
          rw [hc, cond_false] at hv
          refine .step hv ?_
          have h4 : (bs ++ bytesL (U.askS (x1, x2, x3, z1) ++ U.seqS U.xS [((U.runN l i : Nat) : Int)])).length + k * 1100000 ≤ 140737488355328 := by
            have e3 : (bs ++ bytesL (U.askS (x1, x2, x3, z1) ++ U.seqS U.xS [((U.runN l i : Nat) : Int)])).length ≤ bs.length + 20006 := e3
            omega
          have := ih true x1 x2 x3 _ h4
          rw [hn0] at this
          rw [cond_false]
          simpa only [Bool.true_or, Bool.or_true, List.append_assoc, List.nil_append] using this
      | false =>
        have hr : U.runN l i = 1 := by unfold U.runN; rw [hq, hb, cond_false]
        rw [hr] at ih hz hg w4 i0 hn0
        by_cases hw : (0 : Int) < xw
        · have hac : U.act (xt, xw, (x1, x2, x3, z1), z2) = true := by unfold U.act; rw [hb, decide_eq_true hw]; rfl
          rw [U.rowB_let hb hw, U.rowK_let hb hw, hac]
          have e3 : (bs ++ bytesL (U.askS (x1, x2, x3, z1))).length ≤ bs.length + 10003 := by rw [List.length_append, Ev.bytesL_len]; omega
          have e3' : (List.append bs (bytesL (U.askS (x1, x2, x3, z1)))).length ≤ bs.length + 10003 := e3
          have a1 : bs.length + (U.askS (x1, x2, x3, z1)).size ≤ 140737488355328 := by omega
          have a2 : (List.append bs (bytesL (U.askS (x1, x2, x3, z1)))).length + xt.size ≤ 140737488355328 := by omega
          have a3 : bs.length + xt.size ≤ 140737488355328 := by omega
          have hv : (b41r0_0 (((i : Int), ()), (l, s, ()), (u, ()), (a, b, c, ()), (l, ()), rl, bs, ())).val =
              some (.inl ((((i + 1 : Nat) : Int), ()), (l, s, ()), (true, ()), (x1, x2, x3, ()), (l, ()), r41_0, (bs ++ (bif decide (i = 0) || !decide ((a, b, c, ()) = ((x1, x2, x3, z1) : U.At)) then bytesL (U.askS (x1, x2, x3, z1)) else [])) ++ bytesL xt, ())) := by
            have hab : (decide (a = x1) && (decide (b = x2) && decide (c = x3))) = decide ((a, b, c, ()) = ((x1, x2, x3, z1) : U.At)) := by
              rw [Bool.eq_iff_iff]
              simp only [Bool.and_eq_true, decide_eq_true_eq, Prod.mk.injEq, and_true]
            have hi0 : decide ((i : Int) = 0) = decide (i = 0) := decide_eq_decide.2 (by omega)
            simp only [b41r0_0, B41r0_0, Tr.val, lt, ho, Int.toNat_natCast, hr, w4, hz, hg, i0, hb, hk, hab, hi0, hw, a1, a2, a3, hl, show ((0 : Int) ≤ (i : Int) ∧ (i : Int) < (l.length : Int)) by omega, show ((0 : Int) ≤ (i : Int) ∧ (i : Int) ≤ ((i + 1 : Nat) : Int) ∧ ((i + 1 : Nat) : Int) ≤ (l.length : Int)) by omega, show (0 : Int) ≤ (i : Int) by omega, show (i : Int) < (l.length : Int) by omega, and_self, decide_true, Bool.and_self, cond_true, cond_false]
            cases decide (i = 0) <;> cases decide ((a, b, c, ()) = ((x1, x2, x3, z1) : U.At)) <;> simp only [cond_true, cond_false, Bool.not_true, Bool.not_false, Bool.true_or, Bool.false_or, List.append_nil] <;> rfl
          refine .step hv ?_
          have h4 : ((bs ++ (bif decide (i = 0) || !decide ((a, b, c, ()) = ((x1, x2, x3, z1) : U.At)) then bytesL (U.askS (x1, x2, x3, z1)) else [])) ++ bytesL xt).length + k * 1100000 ≤ 140737488355328 := by
            rw [List.length_append, Ev.bytesL_len, List.length_append]
            have : (bif decide (i = 0) || !decide ((a, b, c, ()) = ((x1, x2, x3, z1) : U.At)) then bytesL (U.askS (x1, x2, x3, z1)) else []).length ≤ 10003 := by
              cases decide (i = 0) || !decide ((a, b, c, ()) = ((x1, x2, x3, z1) : U.At))
              · exact Nat.zero_le _
              · rw [cond_true, Ev.bytesL_len]; exact ha
            omega
          have := ih true x1 x2 x3 _ h4
          rw [hn0] at this
          simpa only [Bool.true_or, Bool.or_true, List.append_assoc] using this
        · have hac : U.act (xt, xw, (x1, x2, x3, z1), z2) = false := by unfold U.act; rw [hb, decide_eq_false hw]; rfl
          rw [U.rowB_no hb hw, U.rowK_no hb hw, hac, Bool.false_or]
          have hv : (b41r0_0 (((i : Int), ()), (l, s, ()), (u, ()), (a, b, c, ()), (l, ()), rl, bs, ())).val =
              some (.inl ((((i + 1 : Nat) : Int), ()), (l, s, ()), (u, ()), (a, b, c, ()), (l, ()), r41_0, bs, ())) := by
            simp only [b41r0_0, B41r0_0, Tr.val, lt, ho, Int.toNat_natCast, hr, w4, hz, hg, i0, hb, hw, hl, show ((0 : Int) ≤ (i : Int) ∧ (i : Int) < (l.length : Int)) by omega, show ((0 : Int) ≤ (i : Int) ∧ (i : Int) ≤ ((i + 1 : Nat) : Int) ∧ ((i + 1 : Nat) : Int) ≤ (l.length : Int)) by omega, show (0 : Int) ≤ (i : Int) by omega, show (i : Int) < (l.length : Int) by omega, and_self, decide_true, decide_false, cond_true, cond_false]
          refine .step hv ?_
          have h4 : bs.length + k * 1100000 ≤ 140737488355328 := Nat.le_trans (Nat.add_le_add_left (Nat.mul_le_mul_right 1100000 (Nat.le_succ k)) bs.length) h3
          have := ih u a b c bs h4
          rw [hn0] at this
          exact this
    · have e : i = l.length := by omega
      subst e
      rw [List.drop_length, U.rowB_nil, U.rowK_nil]
      refine .exit ?_
      simp only [b41r0_0, B41r0_0, Tr.val, show ¬ ((l.length : Int) < (l.length : Int)) by omega, decide_false, cond_false, List.any_nil, Bool.or_false, List.append_nil]
      rfl
theorem K41r0_0 (k : Nat) (L : Nat → VS → Option (Tr (Ex × VS))) (x : q41_0.T) (h1 : ∀ y, L 1 y = p41r0_0.ls (fun a => .ite (o41r0_0 a) ((T41r0_0 a).map X41r0_0) .fail) y) : LoopOK (evI 1) (J41 k L x) (lc Tryd.f155 0) := by
  obtain ⟨⟨_⟩, ⟨g1, g2, _⟩, ⟨g3, _⟩, ⟨g4, g5, g6, _⟩, ⟨g7, _⟩, _⟩ := x
  refine l41r0_0 (T := T41r0_0) k L g1 g2 g3 g4 g5 g6 g7 h1 ?_
  rintro ⟨⟨i, z⟩, ⟨⟨l, s, z1⟩, ⟨u, z2⟩, ⟨a, b, c, z3⟩, ⟨l2, z4⟩, rl, bs, z5⟩⟩ r hh
  obtain ⟨e1, e2⟩ := pre_val hh
  rw [Bool.and_eq_true, Bool.and_eq_true] at e1
  obtain ⟨e1, ok, eq⟩ := e1
  have e1 : (i : Int) = 0 ∧ bs.length = 0 := of_decide_eq_true e1
  have ok : U.okW l = true := ok
  have eq := eqb_iff eq
  subst eq
  obtain ⟨e1, e3⟩ := e1
  subst e1
  have e3 : bs = [] := List.eq_nil_of_length_eq_zero e3
  subst e3
  cases e2
  have hl := U.okW_len ok
  exact R41r0_0 l s ok l.length 0 rl u a b c [] (Nat.zero_le _) (by omega) (by show 0 + l.length * 1100000 ≤ 140737488355328; omega)
noncomputable abbrev W41 (key : Nat) (y : VS) : Option (Tr (Ex × VS)) := bif Nat.beq key 1 then p41r0_0.ls (fun a => .ite (o41r0_0 a) ((T41r0_0 a).map X41r0_0) .fail) y else none
theorem run41 (l : List Cell) (s u : Bool) (a b c : Int) :
    ((evI 2 (((E41.lend 0).told 0 (V41 W41)).inner (Nat.succ 4) (yldR (evI 2 ((E41.lend 0).told 0 (V41 W41)).round) (unV ((E41.lend 0).live (Nat.add 500 (loopKey (rg Tryd.f41 0).body))) (q41_0.V ((), (l, s, ()), (u, ()), (a, b, c, ()), (l, ()), ()))).t 4)) (bodyOf Tryd.f155) (itSt ((E41.lend 0).told 0 (V41 W41)) (rg Tryd.f41 0).f (unV ((E41.lend 0).live (Nat.add 500 (loopKey (rg Tryd.f41 0).body))) (q41_0.V ((), (l, s, ()), (u, ()), (a, b, c, ()), (l, ()), ()))) Tryd.f155 4 { ps := (rg Tryd.f41 0).ps.toList, asg := (rg Tryd.f41 0).asg, body := (rg Tryd.f41 0).body })).map fun r => (r.1, canV (Nat.succ 4) { ls := [] } r.2))
    = (Tr.ite (o41r0_0 (((0 : Int), ()), (l, s, ()), (u, ()), (a, b, c, ()), (l, ()), r41_0, [], ())) (T41r0_0 (((0 : Int), ()), (l, s, ()), (u, ()), (a, b, c, ()), (l, ()), r41_0, [], ())) .fail).map fun r => match X41r0_0 r with | (.exit _, v) => (.nrm, v) | (e, v) => (e, v) := by
  kernel_rfl
theorem env41 (l : List Cell) (s u : Bool) (a b c : Int) : ((E41.lend 0).told 0 (V41 W41)).inner (Nat.succ (len (unV ((E41.lend 0).live (Nat.add 500 (loopKey (rg Tryd.f41 0).body))) (q41_0.V ((), (l, s, ()), (u, ()), (a, b, c, ()), (l, ()), ()))).h)) (yldR (evI 2 ((E41.lend 0).told 0 (V41 W41)).round) (unV ((E41.lend 0).live (Nat.add 500 (loopKey (rg Tryd.f41 0).body))) (q41_0.V ((), (l, s, ()), (u, ()), (a, b, c, ()), (l, ()), ()))).t (len (unV ((E41.lend 0).live (Nat.add 500 (loopKey (rg Tryd.f41 0).body))) (q41_0.V ((), (l, s, ()), (u, ()), (a, b, c, ()), (l, ()), ()))).h)) = J41 0 W41 ((), (l, s, ()), (u, ()), (a, b, c, ()), (l, ()), ()) := by kernel_rfl
theorem iter41 (l : List Cell) (s u : Bool) (a b c : Int) : IterOK (evI 2) (evI 1) ((E41.lend 0).told 0 (V41 W41)) (rg Tryd.f41 0).f (unV ((E41.lend 0).live (Nat.add 500 (loopKey (rg Tryd.f41 0).body))) (q41_0.V ((), (l, s, ()), (u, ()), (a, b, c, ()), (l, ()), ()))) :=
  iterOK_of (gf := 155) (caps := [3]) (fn := Tryd.f155) (lcs := [lc Tryd.f155 0, lc Tryd.f155 1]) (by kernel_rfl) (by kernel_rfl) rfl (by kernel_rfl) (by kernel_rfl)
    (by rw [env41]; exact ⟨K41r0_0 0 W41 _ fun y => rfl, K41r0_1 0 (V41 W41) _ fun y => rfl⟩)
theorem range41 : RangeOK (evI 2) (E41.lend 0) (rg Tryd.f41 0) := by
  intro x tr rr h1 h2
  have h1 : q41_0.ls T41 x = some tr := h1
  unfold LP.ls at h1
  split at h1
  · rename_i y hy
    cases h1
    rw [LP.get_eq hy]
    clear hy
    obtain ⟨⟨_⟩, ⟨l, s, z0⟩, ⟨u, z1⟩, ⟨a, b, c, z2⟩, ⟨l2, z3⟩, z4⟩ := y
    obtain ⟨g1, g2⟩ := pre_val h2
    rw [Bool.and_eq_true] at g1
    obtain ⟨ok, eq⟩ := g1
    have ok : U.okW l = true := ok
    have eq := eqb_iff eq
    subst eq
    have hi := congrArg Tr.val (run41 l s u a b c)
    have t0 : (Tr.ite (o41r0_0 (((0 : Int), ()), (l, s, ()), (u, ()), (a, b, c, ()), (l, ()), r41_0, [], ())) (T41r0_0 (((0 : Int), ()), (l, s, ()), (u, ()), (a, b, c, ()), (l, ()), r41_0, [], ())) .fail).val = some (z41 l s (u || List.any (α := Cell) l U.act) (U.rowK (List.length (α := Cell) l) (a, b, c, ()) l) r41_0 (U.rowB (List.length (α := Cell) l) true (a, b, c, ()) l)) := by
      simp only [o41r0_0, isRL_self, T41r0_0, Tr.val, ok, eqb_self, List.length_nil, and_self, decide_true, Bool.and_self, cond_true]
    have hi := hi.trans ((Tr.map_val _ _).trans (congrArg (Option.map _) t0))
    clear t0
    cases g2
    exact ⟨0, V41 W41, _, iter41 l s u a b c, range_run (k0 := 2) (g := 155) (caps := [3]) (fn := Tryd.f155) (c := bodyOf Tryd.f155) (m := 4) (by kernel_rfl) (by kernel_rfl) rfl (by kernel_rfl) (by kernel_rfl) hi (.inl rfl) (pe := none) (rl' := r41_0) rfl rfl, Prod.ext rfl (by kernel_rfl)⟩
  · cases h1
def d41 (xa1 : List Cell) (xa2 : Bool) : Tr (ByteArray) :=
 Tr.ite (U.okW xa1 && Kd.eqb (Kd.sl celk) xa1 xa1) (Tr.ret (strOf (U.rowB (List.length xa1) true ((0 : Int), (0 : Int), (0 : Int), ()) xa1))) Tr.fail
def e41 (r : ByteArray) : FRes := { rs := Slot.av (AV.one (Leaf.dat Kd.str r)), upd := [], new := [] }
@[reducible] def a41 : List AK := [AK.d link]
@[reducible] def b41 : List BK := []
theorem t41 (xa1 : List Cell) (xa2 : Bool) : evFn (E41) Tryd.f41 [PM.data Kd.str] (akAV a41 ((xa1, xa2, ()), ())) (bkBs b41 ()) = (d41 xa1 xa2).map e41 := by kernel_rfl
def s41 (C : akT a41 → Bool) (G : akT a41 → ByteArray) : FSpec := aspec a41 b41 e41 (fun x _ => C x) (fun x _ => G x)
theorem k41 {C : akT a41 → Bool} {G : akT a41 → ByteArray} (hd : ∀ (xa1 : List Cell) (xa2 : Bool), C ((xa1, xa2, ()), ()) = true → (d41 xa1 xa2).val = some (G ((xa1, xa2, ()), ()))) (IO : ItOK Tryd.prog (E41) := by exact itOK_none rfl) (L : ∀ c, Tryd.f41.body = some c → LsOK (evI 2) ((E41).lend 0) c := by exact fun c _ => LsOK_none rfl c) : SpecOK Tryd.prog E0 41 (s41 C G) :=
  aspec_ok (ak := a41) (bl := b41) (e := e41) (c := fun x _ => C x) (g := fun x _ => G x) (E0 := E0) (E := E41) tab AG41 rfl rfl hm Tryd.func41 (by kernel_rfl) [PM.data Kd.str] (fun X Y H => by obtain ⟨⟨xa1, ⟨xa2, _⟩⟩, _⟩ := X; exact val_of (t41 xa1 xa2) (hd xa1 xa2 H)) IO L
theorem IO41 : ItOK Tryd.prog E41 := itOK_of (l := [(155, Tryd.f155)]) rfl (by
  intro p hp
  rw [List.mem_singleton] at hp
  subst hp
  exact ⟨Tryd.func155, by kernel_rfl⟩)
abbrev w41 : FSpec := s41 (fun x => U.okW x.1.1) fun x => U.rowS x.1.1
theorem wk41 : SpecOK Tryd.prog E0 41 w41 := by
  refine k41 (fun l s H => ?_) IO41 (L := ls_ok (lcs := []) (rgs := [rg Tryd.f41 0]) (by kernel_rfl) (by kernel_rfl) trivial range41)
  have ok : U.okW l = true := H
  show _ = some (U.rowS l)
  simp only [d41, Tr.val, ok, eqb_self, Bool.and_self, cond_true]
  rfl
def d11 (xa1 : List Cell) (xa2 : Bool) : Tr (ByteArray × Int) :=
 let v1 : Int := ((↑(List.length xa1) : Int))
 let v2 : Int := ((↑(List.length xa1) : Int))
 Tr.ite (!U.inn v2 (1 : Int) (80 : Int)) (Tr.ret ({ data := #[] }, (1 : Int))) (Tr.ite (U.okc xa1) (Tr.ite (!(U.fitC xa1 && decide (v1 = v2))) (Tr.ret ({ data := #[] }, (1 : Int))) (Tr.ite (decide (List.length xa1 ≤ (1048576 : Nat))) (Tr.ite (!U.shown (xa1, xa2, ())) (Tr.ret ({ data := #[] }, (1 : Int))) (Tr.ite (U.okW xa1) (Tr.ret (U.rowS xa1, (0 : Int))) Tr.fail)) Tr.fail)) Tr.fail)
def e11 (r : ByteArray × Int) : FRes := { rs := Slot.tup [AV.one (Leaf.dat Kd.str r.fst), AV.one (Leaf.dat (.int .i64) r.snd)], upd := [], new := [] }
@[reducible] def a11 : List AK := [AK.d link]
@[reducible] def b11 : List BK := []
theorem t11 (xa1 : List Cell) (xa2 : Bool) : evFn (Env.withFns E0 [((38 : Nat), w38), ((39 : Nat), w39), ((40 : Nat), w40), ((41 : Nat), w41)]) Tryd.f11 [PM.data Kd.str, PM.data (.int .i64)] (akAV a11 ((xa1, xa2, ()), ())) (bkBs b11 ()) = (d11 xa1 xa2).map e11 := by kernel_rfl
def s11 (C : akT a11 → Bool) (G : akT a11 → ByteArray × Int) : FSpec := aspec a11 b11 e11 (fun x _ => C x) (fun x _ => G x)
theorem k11 {C : akT a11 → Bool} {G : akT a11 → ByteArray × Int} (hd : ∀ (xa1 : List Cell) (xa2 : Bool), C ((xa1, xa2, ()), ()) = true → (d11 xa1 xa2).val = some (G ((xa1, xa2, ()), ()))) (IO : ItOK Tryd.prog (Env.withFns E0 [((38 : Nat), w38), ((39 : Nat), w39), ((40 : Nat), w40), ((41 : Nat), w41)]) := by exact itOK_none rfl) (L : ∀ c, Tryd.f11.body = some c → LsOK (evI 2) ((Env.withFns E0 [((38 : Nat), w38), ((39 : Nat), w39), ((40 : Nat), w40), ((41 : Nat), w41)]).lend 0) c := by exact fun c _ => LsOK_none rfl c) : SpecOK Tryd.prog E0 11 (s11 C G) :=
  aspec_ok (ak := a11) (bl := b11) (e := e11) (c := fun x _ => C x) (g := fun x _ => G x) (E0 := E0) (E := Env.withFns E0 [((38 : Nat), w38), ((39 : Nat), w39), ((40 : Nat), w40), ((41 : Nat), w41)]) tab (.cons wk38 (.cons wk39 (.cons wk40 (.cons wk41 .nil)))) rfl rfl hm Tryd.func11 (by kernel_rfl) [PM.data Kd.str, PM.data (.int .i64)] (fun X Y H => by obtain ⟨⟨xa1, ⟨xa2, _⟩⟩, _⟩ := X; exact val_of (t11 xa1 xa2) (hd xa1 xa2 H)) IO L
end Go.Proofs.YtdlbnlbajnafdaaDoor
end
