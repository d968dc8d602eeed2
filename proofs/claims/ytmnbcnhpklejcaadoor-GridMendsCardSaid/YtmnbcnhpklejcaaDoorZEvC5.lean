/- What is kept: the laws' texts as plain ones. -/
import Derived.Test.YtmnbcnhpklejcaaDoorZEvAuto
import Derived.Test.YtmnbcnhpklejcaaDoorZEvC4
set_option linter.unusedVariables false
set_option linter.unusedSimpArgs false
set_option maxRecDepth 20000
open Go Go.Ev
namespace Go.Proofs.YtmnbcnhpklejcaaDoor
open Go.RowKit
abbrev okls (l : List Line) : Bool := decide (List.length (α := Line) l ≤ 1048576) && List.all (α := Line) l fun y => decide (y.1.length ≤ 1048576)
abbrev w23 : FSpec := s23 (fun x => okls x.1.2.1) fun x => decide ((x.1.1 : Int) = x.2.1.1) && U.eqLs x.1.2.1 x.2.1.2.1
theorem wk23 : SpecOK Tryd.prog E0 23 w23 := by
  refine k23 fun n l m k H => ?_
  have H : okls l = true := H
  show _ = some (decide (n = m) && U.eqLs l k)
  unfold okls at H
  by_cases h : n = m <;> simp only [d23, Tr.val, H, h, decide_true, decide_false, cond_true, cond_false, Bool.true_and, Bool.false_and]
abbrev w82 : FSpec := s82' fun x => ([(x.1, (1 : Int), ((0 : Int), (0 : Int), (0 : Int), ()), ())], false)
theorem wk82 : SpecOK Tryd.prog E0 82 w82 := by
  refine k82' fun a => ?_
  rfl
abbrev G22 : List (Nat × FSpec) := [(17, w17), (19, w19), (82, w82)]
theorem AG22 : AllFn Tryd.prog E0 G22 := .cons wk17 (.cons wk19 (.cons wk82 .nil))
def d22 : Tr (Bool) :=
  Tr.ite true (Tr.ite true (Tr.ite true (Tr.ite true (Tr.ite true (Tr.ite true (Tr.ite true (Tr.ret true) Tr.fail) (Tr.ret false)) (Tr.ret false)) (Tr.ret false)) (Tr.ret false)) Tr.fail) Tr.fail
def e22 (r : Bool) : FRes := { rs := Slot.av (AV.one (Leaf.dat Kd.bool r)), upd := [], new := [] }
@[reducible] def a22 : List AK := []
@[reducible] def b22 : List BK := []
theorem t22 : evFn (E0.withFns G22) Tryd.f22 [PM.data Kd.bool] (akAV a22 ()) (bkBs b22 ()) = (d22).map e22 := by kernel_rfl
def s22 (C : akT a22 → Bool) (G : akT a22 → Bool) : FSpec := aspec a22 b22 e22 (fun x _ => C x) (fun x _ => G x)
def s22' (G : akT a22 → Bool) : FSpec := aspec0 a22 b22 e22 (fun x _ => G x)
theorem k22 {C : akT a22 → Bool} {G : akT a22 → Bool} (hd : C () = true → (d22).val = some (G ())) (IO : ItOK Tryd.prog (E0.withFns G22) := by exact itOK_none rfl) (L : ∀ c, Tryd.f22.body = some c → LsOK (evI 2) ((E0.withFns G22).lend 0) c := by exact fun c _ => LsOK_none rfl c) : SpecOK Tryd.prog E0 22 (s22 C G) :=
  aspec_ok (ak := a22) (bl := b22) (e := e22) (c := fun x _ => C x) (g := fun x _ => G x) (E0 := E0) (E := E0.withFns G22) tab AG22 rfl rfl hm Tryd.func22 (by kernel_rfl) [PM.data Kd.bool] (fun X Y H => by exact val_of (t22) (hd H)) IO L
theorem k22' {G : akT a22 → Bool} (hd : (d22).val = some (G ())) (IO : ItOK Tryd.prog (E0.withFns G22) := by exact itOK_none rfl) (L : ∀ c, Tryd.f22.body = some c → LsOK (evI 2) ((E0.withFns G22).lend 0) c := by exact fun c _ => LsOK_none rfl c) : SpecOK Tryd.prog E0 22 (s22' G) :=
  aspec0_ok (ak := a22) (bl := b22) (e := e22) (g := fun x _ => G x) (E0 := E0) (E := E0.withFns G22) tab AG22 rfl rfl hm Tryd.func22 (by kernel_rfl) [PM.data Kd.bool] (fun X Y => by exact val_of (t22) (hd)) IO L
abbrev w22 : FSpec := s22' fun _ => true
theorem wk22 : SpecOK Tryd.prog E0 22 w22 := by
  refine k22' ?_
  rfl
abbrev G3L : List (Nat × FSpec) := [(15, w15), (16, w16), (17, w17), (18, w18), (19, w19), (20, w20), (21, w21), (22, w22), (23, w23), (24, w24), (25, w25), (26, w26)]
theorem AG3L : AllFn Tryd.prog E0 G3L := .cons wk15 (.cons wk16 (.cons wk17 (.cons wk18 (.cons wk19 (.cons wk20 (.cons wk21 (.cons wk22 (.cons wk23 (.cons wk24 (.cons wk25 (.cons wk26 .nil)))))))))))
def d3 (a1 : Int) (a2 : List Line) (b : List Line) (c : Int) : Tr (Bool) :=
  let v1 : List U.Ln := (U.few b (50 : Nat))
  let v2 : List U.Ln := (U.few a2 (42 : Nat))
  let v3 : Int := ((↑v2.length : Int))
  let v4 : Int := (v3 - minI c v3)
  let v5 : List Line := (sub v2 (IntKind.i64.wrap v4).toNat v2.length)
  let v6 : Int := (v3 - (1 : Int))
  let v7 : Int := (IntKind.i64.wrap v6 - c)
  let v8 : List Line := (sub v2 (0 : Nat) (IntKind.i64.wrap v4).toNat)
  let v9 : Int := ((U.rawPush (a1, v2, ()) v1).fst)
  let v10 : List Cell := ((U.rawAt (a1, v2, ()) c).fst)
  let v11 : Int := ((↑v10.length : Int))
  let v12 : Int := ((U.rawTake (a1, v2, ()) c).fst)
  let v13 : Int := ((U.rawAt (a1, v2, ()) c).snd.snd)
  let v14 : Int := ((U.rawPush (a1, v2, ()) v1).snd.snd)
  let v15 : List Line := ((U.rawPush (a1, v2, ()) v1).snd.fst)
  let v16 : List Line := ((U.rawTake (a1, v2, ()) c).snd.fst)
  let v17 : Int := ((U.rawTake (a1, v2, ()) c).snd.snd.snd)
  let v18 : List Line := ((U.rawTake (a1, v2, ()) c).snd.snd.fst)
  let v19 : Int := ((↑v18.length : Int))
  let v20 : Int := ((↑(List.length (v2 ++ v1)) : Int))
  let v21 : Int := (v20 - a1)
  Tr.ite true
    (Tr.ite (U.okl v2 && U.okl v1 && decide (v2.length + v1.length ≤ (1048576 : Nat)))
      (Tr.ite (U.okl v2)
        (Tr.ite (U.okl v2)
          (Tr.ite (U.okl v2)
            (Tr.ite (U.okl v2)
              (Tr.ite (!keepB (a1, v2, ()) == keepB (a1, v2, ())) (Tr.ret false)
                (Tr.ite false (Tr.ret false)
                  (Tr.ite (U.okl v2)
                    (Tr.ite (!keepB (a1, v2, ()))
                      (Tr.ite (decide (v14 = (1 : Int)))
                        (Tr.ite (decide (v17 = (1 : Int)))
                          (Tr.ite (decide (v13 = (1 : Int)))
                            (Tr.ite (okls v15)
                              (Tr.ite (decide (v9 = (0 : Int)) && U.eqLs v15 [])
                                (Tr.ite (okls v16)
                                  (Tr.ite (decide (v12 = (0 : Int)) && U.eqLs v16 []) (Tr.ite (decide (v19 = (0 : Int))) (Tr.ret (decide (v11 = (0 : Int)))) (Tr.ret false)) (Tr.ret false)) Tr.fail)
                                (Tr.ret false))
                              Tr.fail)
                            (Tr.ret false))
                          (Tr.ret false))
                        (Tr.ret false))
                      (Tr.ite (U.okl v1)
                        (Tr.ite (!!v1.any fun (y : Line) => U.odd y.fst)
                          (Tr.ite (!decide (v14 = (1 : Int))) (Tr.ret false)
                            (Tr.ite (okls v15)
                              (Tr.ite (!(decide (v9 = (0 : Int)) && U.eqLs v15 [])) (Tr.ret false)
                                (Tr.ite (decide (c < (0 : Int)))
                                  (Tr.ite (!decide (v13 = (5 : Int))) (Tr.ret false)
                                    (Tr.ite (!decide (v11 = (0 : Int))) (Tr.ret false)
                                      (Tr.ite (decide (c < (0 : Int)))
                                        (Tr.ite (decide (v17 = (1 : Int)))
                                          (Tr.ite (okls v16) (Tr.ite (decide (v12 = (0 : Int)) && U.eqLs v16 []) (Tr.ret (decide (v19 = (0 : Int)))) (Tr.ret false)) Tr.fail) (Tr.ret false))
                                        (Tr.ite (decide (v17 = (0 : Int)))
                                          (Tr.ite (decide ((0 : Int) ≤ IntKind.i64.wrap v4 ∧ IntKind.i64.wrap v4 ≤ v3))
                                            (Tr.ite (okls v16)
                                              (Tr.ite (decide (v12 = a1) && U.eqLs v16 v8)
                                                (Tr.ite (decide ((0 : Int) ≤ IntKind.i64.wrap v4 ∧ IntKind.i64.wrap v4 ≤ v3))
                                                  (Tr.ite (decide (v18.length ≤ (1048576 : Nat)) && v18.all fun (y : Line) => decide (y.fst.length ≤ (1048576 : Nat))) (Tr.ret (U.eqLs v18 v5)) Tr.fail)
                                                  Tr.fail)
                                                (Tr.ret false))
                                              Tr.fail)
                                            Tr.fail)
                                          (Tr.ret false)))))
                                  (Tr.ite (decide (v3 ≤ c))
                                    (Tr.ite (!decide (v13 = (5 : Int))) (Tr.ret false)
                                      (Tr.ite (!decide (v11 = (0 : Int))) (Tr.ret false)
                                        (Tr.ite (decide (c < (0 : Int)))
                                          (Tr.ite (decide (v17 = (1 : Int)))
                                            (Tr.ite (okls v16) (Tr.ite (decide (v12 = (0 : Int)) && U.eqLs v16 []) (Tr.ret (decide (v19 = (0 : Int)))) (Tr.ret false)) Tr.fail) (Tr.ret false))
                                          (Tr.ite (decide (v17 = (0 : Int)))
                                            (Tr.ite (decide ((0 : Int) ≤ IntKind.i64.wrap v4 ∧ IntKind.i64.wrap v4 ≤ v3))
                                              (Tr.ite (okls v16)
                                                (Tr.ite (decide (v12 = a1) && U.eqLs v16 v8)
                                                  (Tr.ite (decide ((0 : Int) ≤ IntKind.i64.wrap v4 ∧ IntKind.i64.wrap v4 ≤ v3))
                                                    (Tr.ite (decide (v18.length ≤ (1048576 : Nat)) && v18.all fun (y : Line) => decide (y.fst.length ≤ (1048576 : Nat))) (Tr.ret (U.eqLs v18 v5)) Tr.fail)
                                                    Tr.fail)
                                                  (Tr.ret false))
                                                Tr.fail)
                                              Tr.fail)
                                            (Tr.ret false)))))
                                    (Tr.ite (!decide (v13 = (0 : Int))) (Tr.ret false)
                                      (Tr.ite (inB (IntKind.i64.wrap v7) v2.length)
                                        (Tr.ite (decide (v10.length ≤ (1048576 : Nat)))
                                          (Tr.ite (!U.eqL (v10, (U.rawAt (a1, v2, ()) c).snd.fst, ()) (rget link v2 (IntKind.i64.wrap v7))) (Tr.ret false)
                                            (Tr.ite (decide (c < (0 : Int)))
                                              (Tr.ite (decide (v17 = (1 : Int)))
                                                (Tr.ite (okls v16) (Tr.ite (decide (v12 = (0 : Int)) && U.eqLs v16 []) (Tr.ret (decide (v19 = (0 : Int)))) (Tr.ret false)) Tr.fail) (Tr.ret false))
                                              (Tr.ite (decide (v17 = (0 : Int)))
                                                (Tr.ite (decide ((0 : Int) ≤ IntKind.i64.wrap v4 ∧ IntKind.i64.wrap v4 ≤ v3))
                                                  (Tr.ite (okls v16)
                                                    (Tr.ite (decide (v12 = a1) && U.eqLs v16 v8)
                                                      (Tr.ite (decide ((0 : Int) ≤ IntKind.i64.wrap v4 ∧ IntKind.i64.wrap v4 ≤ v3))
                                                        (Tr.ite (decide (v18.length ≤ (1048576 : Nat)) && v18.all fun (y : Line) => decide (y.fst.length ≤ (1048576 : Nat))) (Tr.ret (U.eqLs v18 v5))
                                                          Tr.fail)
                                                        Tr.fail)
                                                      (Tr.ret false))
                                                    Tr.fail)
                                                  Tr.fail)
                                                (Tr.ret false))))
                                          Tr.fail)
                                        Tr.fail)))))
                              Tr.fail))
                          (Tr.ite (decide (((0 : Nat) + v2.length) * (32 : Nat) ≤ (140737488355328 : Nat)))
                            (Tr.ite (decide ((v2.length + v1.length) * (32 : Nat) ≤ (140737488355328 : Nat)))
                              (Tr.ite (decide (a1 < v20))
                                (Tr.ite (decide ((0 : Int) ≤ IntKind.i64.wrap v21 ∧ IntKind.i64.wrap v21 ≤ v20))
                                  (Tr.ite (!decide (v14 = (0 : Int))) (Tr.ret false)
                                    (Tr.ite (okls v15)
                                      (Tr.ite (!(decide (v9 = a1) && U.eqLs v15 (sub (v2 ++ v1) (IntKind.i64.wrap v21).toNat (List.length (v2 ++ v1))))) (Tr.ret false)
                                        (Tr.ite (decide (c < (0 : Int)))
                                          (Tr.ite (!decide (v13 = (5 : Int))) (Tr.ret false)
                                            (Tr.ite (!decide (v11 = (0 : Int))) (Tr.ret false)
                                              (Tr.ite (decide (c < (0 : Int)))
                                                (Tr.ite (decide (v17 = (1 : Int)))
                                                  (Tr.ite (okls v16) (Tr.ite (decide (v12 = (0 : Int)) && U.eqLs v16 []) (Tr.ret (decide (v19 = (0 : Int)))) (Tr.ret false)) Tr.fail) (Tr.ret false))
                                                (Tr.ite (decide (v17 = (0 : Int)))
                                                  (Tr.ite (decide ((0 : Int) ≤ IntKind.i64.wrap v4 ∧ IntKind.i64.wrap v4 ≤ v3))
                                                    (Tr.ite (okls v16)
                                                      (Tr.ite (decide (v12 = a1) && U.eqLs v16 v8)
                                                        (Tr.ite (decide ((0 : Int) ≤ IntKind.i64.wrap v4 ∧ IntKind.i64.wrap v4 ≤ v3))
                                                          (Tr.ite (decide (v18.length ≤ (1048576 : Nat)) && v18.all fun (y : Line) => decide (y.fst.length ≤ (1048576 : Nat))) (Tr.ret (U.eqLs v18 v5))
                                                            Tr.fail)
                                                          Tr.fail)
                                                        (Tr.ret false))
                                                      Tr.fail)
                                                    Tr.fail)
                                                  (Tr.ret false)))))
                                          (Tr.ite (decide (v3 ≤ c))
                                            (Tr.ite (!decide (v13 = (5 : Int))) (Tr.ret false)
                                              (Tr.ite (!decide (v11 = (0 : Int))) (Tr.ret false)
                                                (Tr.ite (decide (c < (0 : Int)))
                                                  (Tr.ite (decide (v17 = (1 : Int)))
                                                    (Tr.ite (okls v16) (Tr.ite (decide (v12 = (0 : Int)) && U.eqLs v16 []) (Tr.ret (decide (v19 = (0 : Int)))) (Tr.ret false)) Tr.fail) (Tr.ret false))
                                                  (Tr.ite (decide (v17 = (0 : Int)))
                                                    (Tr.ite (decide ((0 : Int) ≤ IntKind.i64.wrap v4 ∧ IntKind.i64.wrap v4 ≤ v3))
                                                      (Tr.ite (okls v16)
                                                        (Tr.ite (decide (v12 = a1) && U.eqLs v16 v8)
                                                          (Tr.ite (decide ((0 : Int) ≤ IntKind.i64.wrap v4 ∧ IntKind.i64.wrap v4 ≤ v3))
                                                            (Tr.ite (decide (v18.length ≤ (1048576 : Nat)) && v18.all fun (y : Line) => decide (y.fst.length ≤ (1048576 : Nat))) (Tr.ret (U.eqLs v18 v5))
                                                              Tr.fail)
                                                            Tr.fail)
                                                          (Tr.ret false))
                                                        Tr.fail)
                                                      Tr.fail)
                                                    (Tr.ret false)))))
                                            (Tr.ite (!decide (v13 = (0 : Int))) (Tr.ret false)
                                              (Tr.ite (inB (IntKind.i64.wrap v7) v2.length)
                                                (Tr.ite (decide (v10.length ≤ (1048576 : Nat)))
                                                  (Tr.ite (!U.eqL (v10, (U.rawAt (a1, v2, ()) c).snd.fst, ()) (rget link v2 (IntKind.i64.wrap v7))) (Tr.ret false)
                                                    (Tr.ite (decide (c < (0 : Int)))
                                                      (Tr.ite (decide (v17 = (1 : Int)))
                                                        (Tr.ite (okls v16) (Tr.ite (decide (v12 = (0 : Int)) && U.eqLs v16 []) (Tr.ret (decide (v19 = (0 : Int)))) (Tr.ret false)) Tr.fail)
                                                        (Tr.ret false))
                                                      (Tr.ite (decide (v17 = (0 : Int)))
                                                        (Tr.ite (decide ((0 : Int) ≤ IntKind.i64.wrap v4 ∧ IntKind.i64.wrap v4 ≤ v3))
                                                          (Tr.ite (okls v16)
                                                            (Tr.ite (decide (v12 = a1) && U.eqLs v16 v8)
                                                              (Tr.ite (decide ((0 : Int) ≤ IntKind.i64.wrap v4 ∧ IntKind.i64.wrap v4 ≤ v3))
                                                                (Tr.ite (decide (v18.length ≤ (1048576 : Nat)) && v18.all fun (y : Line) => decide (y.fst.length ≤ (1048576 : Nat)))
                                                                  (Tr.ret (U.eqLs v18 v5)) Tr.fail)
                                                                Tr.fail)
                                                              (Tr.ret false))
                                                            Tr.fail)
                                                          Tr.fail)
                                                        (Tr.ret false))))
                                                  Tr.fail)
                                                Tr.fail)))))
                                      Tr.fail))
                                  Tr.fail)
                                (Tr.ite (!decide (v14 = (0 : Int))) (Tr.ret false)
                                  (Tr.ite (okls v15)
                                    (Tr.ite (!(decide (v9 = a1) && U.eqLs v15 (v2 ++ v1))) (Tr.ret false)
                                      (Tr.ite (decide (c < (0 : Int)))
                                        (Tr.ite (!decide (v13 = (5 : Int))) (Tr.ret false)
                                          (Tr.ite (!decide (v11 = (0 : Int))) (Tr.ret false)
                                            (Tr.ite (decide (c < (0 : Int)))
                                              (Tr.ite (decide (v17 = (1 : Int)))
                                                (Tr.ite (okls v16) (Tr.ite (decide (v12 = (0 : Int)) && U.eqLs v16 []) (Tr.ret (decide (v19 = (0 : Int)))) (Tr.ret false)) Tr.fail) (Tr.ret false))
                                              (Tr.ite (decide (v17 = (0 : Int)))
                                                (Tr.ite (decide ((0 : Int) ≤ IntKind.i64.wrap v4 ∧ IntKind.i64.wrap v4 ≤ v3))
                                                  (Tr.ite (okls v16)
                                                    (Tr.ite (decide (v12 = a1) && U.eqLs v16 v8)
                                                      (Tr.ite (decide ((0 : Int) ≤ IntKind.i64.wrap v4 ∧ IntKind.i64.wrap v4 ≤ v3))
                                                        (Tr.ite (decide (v18.length ≤ (1048576 : Nat)) && v18.all fun (y : Line) => decide (y.fst.length ≤ (1048576 : Nat))) (Tr.ret (U.eqLs v18 v5))
                                                          Tr.fail)
                                                        Tr.fail)
                                                      (Tr.ret false))
                                                    Tr.fail)
                                                  Tr.fail)
                                                (Tr.ret false)))))
                                        (Tr.ite (decide (v3 ≤ c))
                                          (Tr.ite (!decide (v13 = (5 : Int))) (Tr.ret false)
                                            (Tr.ite (!decide (v11 = (0 : Int))) (Tr.ret false)
                                              (Tr.ite (decide (c < (0 : Int)))
                                                (Tr.ite (decide (v17 = (1 : Int)))
                                                  (Tr.ite (okls v16) (Tr.ite (decide (v12 = (0 : Int)) && U.eqLs v16 []) (Tr.ret (decide (v19 = (0 : Int)))) (Tr.ret false)) Tr.fail) (Tr.ret false))
                                                (Tr.ite (decide (v17 = (0 : Int)))
                                                  (Tr.ite (decide ((0 : Int) ≤ IntKind.i64.wrap v4 ∧ IntKind.i64.wrap v4 ≤ v3))
                                                    (Tr.ite (okls v16)
                                                      (Tr.ite (decide (v12 = a1) && U.eqLs v16 v8)
                                                        (Tr.ite (decide ((0 : Int) ≤ IntKind.i64.wrap v4 ∧ IntKind.i64.wrap v4 ≤ v3))
                                                          (Tr.ite (decide (v18.length ≤ (1048576 : Nat)) && v18.all fun (y : Line) => decide (y.fst.length ≤ (1048576 : Nat))) (Tr.ret (U.eqLs v18 v5))
                                                            Tr.fail)
                                                          Tr.fail)
                                                        (Tr.ret false))
                                                      Tr.fail)
                                                    Tr.fail)
                                                  (Tr.ret false)))))
                                          (Tr.ite (!decide (v13 = (0 : Int))) (Tr.ret false)
                                            (Tr.ite (inB (IntKind.i64.wrap v7) v2.length)
                                              (Tr.ite (decide (v10.length ≤ (1048576 : Nat)))
                                                (Tr.ite (!U.eqL (v10, (U.rawAt (a1, v2, ()) c).snd.fst, ()) (rget link v2 (IntKind.i64.wrap v7))) (Tr.ret false)
                                                  (Tr.ite (decide (c < (0 : Int)))
                                                    (Tr.ite (decide (v17 = (1 : Int)))
                                                      (Tr.ite (okls v16) (Tr.ite (decide (v12 = (0 : Int)) && U.eqLs v16 []) (Tr.ret (decide (v19 = (0 : Int)))) (Tr.ret false)) Tr.fail) (Tr.ret false))
                                                    (Tr.ite (decide (v17 = (0 : Int)))
                                                      (Tr.ite (decide ((0 : Int) ≤ IntKind.i64.wrap v4 ∧ IntKind.i64.wrap v4 ≤ v3))
                                                        (Tr.ite (okls v16)
                                                          (Tr.ite (decide (v12 = a1) && U.eqLs v16 v8)
                                                            (Tr.ite (decide ((0 : Int) ≤ IntKind.i64.wrap v4 ∧ IntKind.i64.wrap v4 ≤ v3))
                                                              (Tr.ite (decide (v18.length ≤ (1048576 : Nat)) && v18.all fun (y : Line) => decide (y.fst.length ≤ (1048576 : Nat)))
                                                                (Tr.ret (U.eqLs v18 v5)) Tr.fail)
                                                              Tr.fail)
                                                            (Tr.ret false))
                                                          Tr.fail)
                                                        Tr.fail)
                                                      (Tr.ret false))))
                                                Tr.fail)
                                              Tr.fail)))))
                                    Tr.fail)))
                              Tr.fail)
                            Tr.fail))
                        Tr.fail))
                    Tr.fail)))
              Tr.fail)
            Tr.fail)
          Tr.fail)
        Tr.fail)
      Tr.fail)
    Tr.fail
def e3 (r : Bool) : FRes := { rs := Slot.av (AV.one (Leaf.dat Kd.bool r)), upd := [], new := [] }
@[reducible] def a3 : List AK := [AK.d bakk, AK.d link.sl, AK.d (.int .i64)]
@[reducible] def b3 : List BK := []
theorem t3 (a1 : Int) (a2 : List Line) (b : List Line) (c : Int) : evFn (E0.withFns G3L) Tryd.f3 [PM.data Kd.bool] (akAV a3 ((a1, a2, ()), b, c, ())) (bkBs b3 ()) = (d3 a1 a2 b c).map e3 := by kernel_rfl
def s3 (C : akT a3 → Bool) (G : akT a3 → Bool) : FSpec := aspec a3 b3 e3 (fun x _ => C x) (fun x _ => G x)
def s3' (G : akT a3 → Bool) : FSpec := aspec0 a3 b3 e3 (fun x _ => G x)
theorem k3 {C : akT a3 → Bool} {G : akT a3 → Bool} (hd : ∀ (a1 : Int) (a2 : List Line) (b : List Line) (c : Int), C ((a1, a2, ()), b, c, ()) = true → (d3 a1 a2 b c).val = some (G ((a1, a2, ()), b, c, ()))) (IO : ItOK Tryd.prog (E0.withFns G3L) := by exact itOK_none rfl) (L : ∀ c, Tryd.f3.body = some c → LsOK (evI 2) ((E0.withFns G3L).lend 0) c := by exact fun c _ => LsOK_none rfl c) : SpecOK Tryd.prog E0 3 (s3 C G) :=
  aspec_ok (ak := a3) (bl := b3) (e := e3) (c := fun x _ => C x) (g := fun x _ => G x) (E0 := E0) (E := E0.withFns G3L) tab AG3L rfl rfl hm Tryd.func3 (by kernel_rfl) [PM.data Kd.bool] (fun X Y H => by obtain ⟨⟨a1, ⟨a2, _⟩⟩, ⟨b, ⟨c, _⟩⟩⟩ := X; exact val_of (t3 a1 a2 b c) (hd a1 a2 b c H)) IO L
theorem k3' {G : akT a3 → Bool} (hd : ∀ (a1 : Int) (a2 : List Line) (b : List Line) (c : Int), (d3 a1 a2 b c).val = some (G ((a1, a2, ()), b, c, ()))) (IO : ItOK Tryd.prog (E0.withFns G3L) := by exact itOK_none rfl) (L : ∀ c, Tryd.f3.body = some c → LsOK (evI 2) ((E0.withFns G3L).lend 0) c := by exact fun c _ => LsOK_none rfl c) : SpecOK Tryd.prog E0 3 (s3' G) :=
  aspec0_ok (ak := a3) (bl := b3) (e := e3) (g := fun x _ => G x) (E0 := E0) (E := E0.withFns G3L) tab AG3L rfl rfl hm Tryd.func3 (by kernel_rfl) [PM.data Kd.bool] (fun X Y => by obtain ⟨⟨a1, ⟨a2, _⟩⟩, ⟨b, ⟨c, _⟩⟩⟩ := X; exact val_of (t3 a1 a2 b c) (hd a1 a2 b c)) IO L
def d4 (a1 : Int) (a2 : List Line) (b : List Line) (c : Int) : Tr (Bool) :=
  let v1 : List U.Ln := (U.few b (50 : Nat))
  let v2 : Int := ((↑v1.length : Int))
  let v3 : List U.Ln := (U.few a2 (42 : Nat))
  let v4 : Int := (v2 + (1 : Int))
  let v5 : Int := (c.tmod (IntKind.i64.wrap v4) + v2)
  let v6 : Int := (IntKind.i64.wrap v5 + (1 : Int))
  let v7 : Int := ((IntKind.i64.wrap v6).tmod (IntKind.i64.wrap v4))
  let v8 : List Line := (sub v1 v7.toNat v1.length)
  let v9 : List Line := (sub v1 (0 : Nat) v7.toNat)
  let v10 : Int := ((U.rawPush (a1, v3, ()) v1).fst)
  let v11 : Int := ((U.rawPush (a1, v3, ()) v9).fst)
  let v12 : List Line := ((U.rawPush (a1, v3, ()) v1).snd.fst)
  let v13 : Int := ((↑v12.length : Int))
  let v14 : Int := ((U.rawPush (a1, v3, ()) v1).snd.snd)
  let v15 : List Line := ((U.rawPush (a1, v3, ()) v9).snd.fst)
  let v16 : Int := ((U.rawPush (v11, v15, ()) v8).fst)
  let v17 : Int := ((U.rawPush (v11, v15, ()) v8).snd.snd)
  let v18 : Int := ((U.rawPush (a1, v3, ()) v9).snd.snd)
  let v19 : List Line := ((U.rawTake (v10, v12, ()) v2).snd.fst)
  let v20 : Int := ((↑v19.length : Int))
  let v21 : List Line := ((U.rawTake (v10, v12, ()) v2).snd.snd.fst)
  let v22 : Int := ((↑v21.length : Int))
  let v23 : Int := (v2 - v22)
  let v24 : Int := (v13 - v22)
  let v25 : Int := ((U.rawTake (v10, v12, ()) v2).snd.snd.snd)
  Tr.ite true
    (Tr.ite (!decide (IntKind.i64.wrap v4 = (0 : Int)))
      (Tr.ite (!decide (IntKind.i64.wrap v4 = (0 : Int)))
        (Tr.ite (U.okl v3 && U.okl v1 && decide (v3.length + v1.length ≤ (1048576 : Nat)))
          (Tr.ite (!decide (v14 = (0 : Int))) (Tr.ite true (Tr.ite (okls v12) (Tr.ret (decide (v10 = (0 : Int)) && U.eqLs v12 [])) Tr.fail) (Tr.ret false))
            (Tr.ite (decide ((0 : Int) ≤ v7 ∧ v7 ≤ v2))
              (Tr.ite (U.okl v3 && U.okl v9 && decide (v3.length + v9.length ≤ (1048576 : Nat)))
                (Tr.ite (decide ((0 : Int) ≤ v7 ∧ v7 ≤ v2))
                  (Tr.ite (U.okl v15 && U.okl v8 && decide (v15.length + v8.length ≤ (1048576 : Nat)))
                    (Tr.ite (U.okl v12)
                      (Tr.ite (!decide (v18 = (0 : Int))) (Tr.ret false)
                        (Tr.ite (!decide (v17 = (0 : Int))) (Tr.ret false)
                          (Tr.ite (!decide (v25 = (0 : Int))) (Tr.ret false)
                            (Tr.ite (okls v12)
                              (Tr.ite (!(decide (v10 = v16) && U.eqLs v12 (U.rawPush (v11, v15, ()) v8).snd.fst)) (Tr.ret false)
                                (Tr.ite (decide (a1 < v13)) (Tr.ret false)
                                  (Tr.ite (!decide (v22 = minI v2 a1)) (Tr.ret false)
                                    (Tr.ite (U.okl v19)
                                      (Tr.ite (!keepB ((U.rawTake (v10, v12, ()) v2).fst, v19, ())) (Tr.ret false)
                                        (Tr.ite false (Tr.ret false)
                                          (Tr.ite (decide ((0 : Int) ≤ IntKind.i64.wrap v23 ∧ IntKind.i64.wrap v23 ≤ v2))
                                            (Tr.ite (decide (v21.length ≤ (1048576 : Nat)) && v21.all fun (y : Line) => decide (y.fst.length ≤ (1048576 : Nat)))
                                              (Tr.ite (U.eqLs v21 (sub v1 (IntKind.i64.wrap v23).toNat v1.length)) (Tr.ret (decide (v20 = IntKind.i64.wrap v24))) (Tr.ret false)) Tr.fail)
                                            Tr.fail)))
                                      Tr.fail))))
                              Tr.fail))))
                      Tr.fail)
                    Tr.fail)
                  Tr.fail)
                Tr.fail)
              Tr.fail))
          Tr.fail)
        Tr.fail)
      Tr.fail)
    Tr.fail
def e4 (r : Bool) : FRes := { rs := Slot.av (AV.one (Leaf.dat Kd.bool r)), upd := [], new := [] }
@[reducible] def a4 : List AK := [AK.d bakk, AK.d link.sl, AK.d (.int .i64)]
@[reducible] def b4 : List BK := []
theorem t4 (a1 : Int) (a2 : List Line) (b : List Line) (c : Int) : evFn (E0.withFns G3L) Tryd.f4 [PM.data Kd.bool] (akAV a4 ((a1, a2, ()), b, c, ())) (bkBs b4 ()) = (d4 a1 a2 b c).map e4 := by kernel_rfl
def s4 (C : akT a4 → Bool) (G : akT a4 → Bool) : FSpec := aspec a4 b4 e4 (fun x _ => C x) (fun x _ => G x)
def s4' (G : akT a4 → Bool) : FSpec := aspec0 a4 b4 e4 (fun x _ => G x)
theorem k4 {C : akT a4 → Bool} {G : akT a4 → Bool} (hd : ∀ (a1 : Int) (a2 : List Line) (b : List Line) (c : Int), C ((a1, a2, ()), b, c, ()) = true → (d4 a1 a2 b c).val = some (G ((a1, a2, ()), b, c, ()))) (IO : ItOK Tryd.prog (E0.withFns G3L) := by exact itOK_none rfl) (L : ∀ c, Tryd.f4.body = some c → LsOK (evI 2) ((E0.withFns G3L).lend 0) c := by exact fun c _ => LsOK_none rfl c) : SpecOK Tryd.prog E0 4 (s4 C G) :=
  aspec_ok (ak := a4) (bl := b4) (e := e4) (c := fun x _ => C x) (g := fun x _ => G x) (E0 := E0) (E := E0.withFns G3L) tab AG3L rfl rfl hm Tryd.func4 (by kernel_rfl) [PM.data Kd.bool] (fun X Y H => by obtain ⟨⟨a1, ⟨a2, _⟩⟩, ⟨b, ⟨c, _⟩⟩⟩ := X; exact val_of (t4 a1 a2 b c) (hd a1 a2 b c H)) IO L
theorem k4' {G : akT a4 → Bool} (hd : ∀ (a1 : Int) (a2 : List Line) (b : List Line) (c : Int), (d4 a1 a2 b c).val = some (G ((a1, a2, ()), b, c, ()))) (IO : ItOK Tryd.prog (E0.withFns G3L) := by exact itOK_none rfl) (L : ∀ c, Tryd.f4.body = some c → LsOK (evI 2) ((E0.withFns G3L).lend 0) c := by exact fun c _ => LsOK_none rfl c) : SpecOK Tryd.prog E0 4 (s4' G) :=
  aspec0_ok (ak := a4) (bl := b4) (e := e4) (g := fun x _ => G x) (E0 := E0) (E := E0.withFns G3L) tab AG3L rfl rfl hm Tryd.func4 (by kernel_rfl) [PM.data Kd.bool] (fun X Y => by obtain ⟨⟨a1, ⟨a2, _⟩⟩, ⟨b, ⟨c, _⟩⟩⟩ := X; exact val_of (t4 a1 a2 b c) (hd a1 a2 b c)) IO L
end Go.Proofs.YtmnbcnhpklejcaaDoor
namespace U
open Go.Proofs.YtmnbcnhpklejcaaDoor
theorem cutC_size (c : Cl) : (cutC c).1.size ≤ 20 := by
  show (c.1.extract 0 (min c.1.size 20)).size ≤ 20
  rw [← bl_len, bl_ext, List.length_drop, List.length_take, bl_len]
  omega
theorem cutL_ok (l : List Cl) : okc (cutL l) = true := by
  unfold okc cutL
  rw [Bool.and_eq_true, decide_eq_true_eq, List.all_eq_true]
  refine ⟨by rw [List.length_map, List.length_take]; omega, fun x hx => ?_⟩
  obtain ⟨y, _, rfl⟩ := List.mem_map.1 hx
  exact decide_eq_true (by have := cutC_size y; omega)
theorem few_len (l : List Ln) (n : Nat) : (few l n).length ≤ n := by unfold few; rw [List.length_map, List.length_take]; omega
theorem few_ok (l : List Ln) {n : Nat} (hn : n ≤ 1000) : okl (few l n) = true := by
  have := few_len l n
  unfold okl
  rw [Bool.and_eq_true, decide_eq_true_eq, List.all_eq_true]
  refine ⟨by omega, fun x hx => ?_⟩
  unfold few at hx
  obtain ⟨y, _, rfl⟩ := List.mem_map.1 hx
  exact cutL_ok _
theorem okl_iff {l : List Ln} : okl l = true ↔ l.length ≤ 1048576 ∧ ∀ x ∈ l, okc x.1 = true := by
  unfold okl
  rw [Bool.and_eq_true, decide_eq_true_eq, List.all_eq_true]
theorem okl_sub {l m : List Ln} (h : okl l = true) (hs : ∀ x ∈ m, x ∈ l) (hl : m.length ≤ l.length) : okl m = true := by
  rw [okl_iff] at *
  exact ⟨by omega, fun x hx => h.2 x (hs x hx)⟩
theorem okl_app {l m : List Ln} (h : okl l = true) (h' : okl m = true) (hl : l.length + m.length ≤ 1048576) : okl (l ++ m) = true := by
  rw [okl_iff] at *
  exact ⟨by rw [List.length_append]; exact hl, fun x hx => (List.mem_append.1 hx).elim (h.2 x) (h'.2 x)⟩
theorem okl_s {l : List Ln} (h : okl l = true) : (decide (l.length ≤ 1048576) && l.all fun y => decide (y.1.length ≤ 1048576)) = true := by
  rw [okl_iff] at h
  rw [Bool.and_eq_true, decide_eq_true_eq, List.all_eq_true]
  exact ⟨h.1, fun x hx => decide_eq_true (okc_len (h.2 x hx))⟩
theorem eqLs_refl (l : List Ln) : eqLs l l = true := eqLs_iff.2 rfl
theorem eqL_refl (l : Ln) : eqL l l = true := eqL_iff.2 rfl
theorem sub_dr {α : Type} (l : List α) (i : Nat) : sub l i l.length = l.drop i := by unfold sub; rw [List.take_length]
theorem sub_tk {α : Type} (l : List α) (i : Nat) : sub l 0 i = l.take i := by unfold sub; rw [List.drop_zero]
end U
namespace Go.Proofs.YtmnbcnhpklejcaaDoor
theorem law3 (a1 : Int) (a2 b : List Line) (c : Int) : (d3 a1 a2 b c).val = some true := by
  have k2 := U.few_ok a2 (n := 42) (by omega)
  have k1 := U.few_ok b (n := 50) (by omega)
  have l2 := U.few_len a2 42
  have l1 := U.few_len b 50
  dsimp only [d3]
  generalize U.few a2 42 = p at *
  generalize U.few b 50 = q at *
  have hpq : p.length + q.length ≤ 1048576 := by omega
  have n0 : okls [] = true := by rfl
  have kp := U.okl_s k2
  cases hk : keepB (a1, p, ()) with
  | false =>
    have e1 : U.rawPush (a1, p, ()) q = (0, [], 1) := by unfold U.rawPush; rw [hk]; rfl
    have e2 : U.rawTake (a1, p, ()) c = (0, [], [], 1) := by unfold U.rawTake; rw [hk]; rfl
    have e3 : U.rawAt (a1, p, ()) c = ([], false, 1) := by unfold U.rawAt; rw [if_pos hk]
    simp only [Tr.val, e1, e2, e3, k1, k2, hpq, n0, hk, U.eqLs_refl, List.length_nil, decide_true, Bool.not_false, Bool.and_self, cond_true, cond_false, beq_self_eq_true, Bool.not_true]
    rfl
  | true =>
    obtain ⟨m1, m2, m3, m4⟩ := keep_max hk
    -- taking
    have eT : 0 ≤ c → U.rawTake (a1, p, ()) c = (a1, p.take (p.length - c.toNat), p.drop (p.length - c.toNat), 0) := fun h => by unfold U.rawTake; rw [hk, decide_eq_true h]; rfl
    have eT' : c < 0 → U.rawTake (a1, p, ()) c = (0, [], [], 1) := fun h => by unfold U.rawTake; rw [hk, decide_eq_false (show ¬ 0 ≤ c by omega)]; rfl
    have w4 : 0 ≤ c → IntKind.i64.wrap ((p.length : Int) - minI c (p.length : Int)) = ((p.length - c.toNat : Nat) : Int) := fun h => by
      unfold minI
      split <;> rw [w64 (by omega) (by omega)] <;> omega
    have kt : okls (p.take (p.length - c.toNat)) = true := U.okl_s (U.okl_sub k2 (fun x hx => List.mem_of_mem_take hx) (by rw [List.length_take]; omega))
    have kd : (decide ((p.drop (p.length - c.toNat)).length ≤ 1048576) && (p.drop (p.length - c.toNat)).all fun y => decide (y.1.length ≤ 1048576)) = true := U.okl_s (U.okl_sub k2 (fun x hx => List.mem_of_mem_drop hx) (by rw [List.length_drop]; omega))
    have vt : (p.take (p.length - c.toNat)) = sub p 0 (p.length - c.toNat) := (U.sub_tk _ _).symm
    -- looking
    have eA0 : c < 0 → U.rawAt (a1, p, ()) c = ([], false, 5) := fun h => by unfold U.rawAt; rw [if_neg (by rw [hk]; decide), if_pos (.inl h)]
    have eA1 : (p.length : Int) ≤ c → U.rawAt (a1, p, ()) c = ([], false, 5) := fun h => by unfold U.rawAt; rw [if_neg (by rw [hk]; decide), if_pos (.inr h)]
    have eA : 0 ≤ c → c < (p.length : Int) → U.rawAt (a1, p, ()) c = ((p.getD (p.length - 1 - c.toNat) U.dL).1, (p.getD (p.length - 1 - c.toNat) U.dL).2.1, 0) := fun h h' => by
      unfold U.rawAt
      rw [if_neg (by rw [hk]; decide), if_neg (fun hh => by have : c < 0 ∨ (p.length : Int) ≤ c := hh; omega)]
    have w6 : IntKind.i64.wrap ((p.length : Int) - 1) = (p.length : Int) - 1 := w64 (by omega) (by omega)
    have w7 : 0 ≤ c → c < (p.length : Int) → IntKind.i64.wrap ((p.length : Int) - 1 - c) = ((p.length - 1 - c.toNat : Nat) : Int) := fun h h' => by rw [w64 (by omega) (by omega)]; omega
    have hle : ((p.length - c.toNat : Nat) : Int) ≤ (p.length : Int) := Int.ofNat_le.2 (Nat.sub_le _ _)
    -- pushing
    have ePx : (q.any fun y => U.odd y.1) = true → U.rawPush (a1, p, ()) q = (0, [], 1) := fun h => by unfold U.rawPush; rw [hk, h]; rfl
    have eP : (q.any fun y => U.odd y.1) = false → U.rawPush (a1, p, ()) q = (a1, (p ++ q).drop ((p ++ q).length - a1.toNat), 0) := fun h => by
      unfold U.rawPush
      rw [hk, h]
      have e : (maxI (((p ++ q).length : Int) - a1) 0).toNat = (p ++ q).length - a1.toNat := by unfold maxI; split <;> omega
      show (a1, (p ++ q).drop (maxI (((p ++ q).length : Int) - a1) 0).toNat, (0 : Int)) = _
      rw [e]
    have kP : okls ((p ++ q).drop ((p ++ q).length - a1.toNat)) = true := U.okl_s (U.okl_sub (U.okl_app k2 k1 hpq) (fun x hx => List.mem_of_mem_drop hx) (by rw [List.length_drop]; omega))
    have wP : IntKind.i64.wrap (((p ++ q).length : Int) - a1) = ((p ++ q).length : Int) - a1 := by rw [List.length_append]; exact w64 (by omega) (by omega)
    have hP : ∀ {x : Nat}, a1 < ((p ++ q).length : Int) → decide ((0 : Int) ≤ ((p ++ q).length : Int) - a1 ∧ ((p ++ q).length : Int) - a1 ≤ ((p ++ q).length : Int)) = true := fun h => decide_eq_true ⟨by omega, by omega⟩
    have x8 : (0 + p.length) * 32 ≤ 140737488355328 := by omega
    have x9 : (p.length + q.length) * 32 ≤ 140737488355328 := by omega
    cases hq : (q.any fun y => U.odd y.1) with
    | true =>
      by_cases c0 : c < 0
      · simp only [Tr.val, ePx hq, eT' c0, eA0 c0, hq, k1, k2, hpq, n0, hk, c0, U.eqLs_refl, List.length_nil, decide_true, Bool.not_false, Bool.and_self, cond_true, cond_false, beq_self_eq_true, Bool.not_true]
        try rfl
      · by_cases c1 : (p.length : Int) ≤ c
        · simp only [Tr.val, ePx hq, eT (by omega), eA1 c1, w4 (by omega), hle, kt, kd, U.sub_dr, U.sub_tk, Int.natCast_nonneg, Int.toNat_natCast, and_self, hq, k1, k2, hpq, n0, hk, c0, c1, U.eqLs_refl, List.length_nil, decide_true, decide_false, Bool.not_false, Bool.and_self, cond_true, cond_false, beq_self_eq_true, Bool.not_true]
          try rfl
        · have i7 : inB ((p.length - 1 - c.toNat : Nat) : Int) p.length = true := inB_nat (by omega)
          have o7 := U.okc_len (U.okl_at k2 (i := p.length - 1 - c.toNat) (by omega))
          simp only [Tr.val, ePx hq, eT (by omega), eA (by omega) (by omega), w6, w7 (by omega) (by omega), i7, o7, rgetL, w4 (by omega), hle, kt, kd, U.sub_dr, U.sub_tk, Int.natCast_nonneg, Int.toNat_natCast, and_self, hq, k1, k2, hpq, n0, hk, c0, c1, U.eqLs_refl, U.eqL_refl, List.length_nil, decide_true, decide_false, Bool.not_false, Bool.and_self, cond_true, cond_false, beq_self_eq_true, Bool.not_true]
          try rfl
    | false =>
      by_cases cP : a1 < ((p ++ q).length : Int)
      · have x1 : (((p ++ q).length : Int) - a1).toNat = (p ++ q).length - a1.toNat := by omega
        have x2 : ((0 : Int) ≤ ((p ++ q).length : Int) - a1) := by omega
        have x3 : (((p ++ q).length : Int) - a1 ≤ ((p ++ q).length : Int)) := by omega
        by_cases c0 : c < 0
        · simp only [Tr.val, x8, x9, eP hq, cP, x1, x2, x3, eT' c0, eA0 c0, hq, k1, k2, kP, hpq, n0, hk, c0, wP, U.sub_dr, U.sub_tk, U.eqLs_refl, and_self, Int.natCast_nonneg, Int.toNat_natCast, List.length_nil, decide_true, decide_false, Bool.not_false, Bool.and_self, cond_true, cond_false, beq_self_eq_true, Bool.not_true]
          try rfl
        · by_cases c1 : (p.length : Int) ≤ c
          · simp only [Tr.val, x8, x9, eP hq, cP, x1, x2, x3, eT (by omega), eA1 c1, w4 (by omega), hle, kt, kd, kP, wP, U.sub_dr, U.sub_tk, Int.natCast_nonneg, Int.toNat_natCast, and_self, hq, k1, k2, hpq, n0, hk, c0, c1, U.eqLs_refl, List.length_nil, decide_true, decide_false, Bool.not_false, Bool.and_self, cond_true, cond_false, beq_self_eq_true, Bool.not_true]
            try rfl
          · have i7 : inB ((p.length - 1 - c.toNat : Nat) : Int) p.length = true := inB_nat (by omega)
            have o7 := U.okc_len (U.okl_at k2 (i := p.length - 1 - c.toNat) (by omega))
            simp only [Tr.val, x8, x9, eP hq, cP, x1, x2, x3, eT (by omega), eA (by omega) (by omega), w6, w7 (by omega) (by omega), i7, o7, rgetL, w4 (by omega), hle, kt, kd, kP, wP, U.sub_dr, U.sub_tk, Int.natCast_nonneg, Int.toNat_natCast, and_self, hq, k1, k2, hpq, n0, hk, c0, c1, U.eqLs_refl, U.eqL_refl, List.length_nil, decide_true, decide_false, Bool.not_false, Bool.and_self, cond_true, cond_false, beq_self_eq_true, Bool.not_true]
            try rfl
      · have x1 : (p ++ q).length - a1.toNat = 0 := by omega
        rw [x1, List.drop_zero] at kP
        have eP := fun h => eP h
        rw [x1, List.drop_zero] at eP
        by_cases c0 : c < 0
        · simp only [Tr.val, x8, x9, eP hq, cP, eT' c0, eA0 c0, hq, k1, k2, kP, hpq, n0, hk, c0, wP, U.sub_dr, U.sub_tk, U.eqLs_refl, and_self, Int.natCast_nonneg, Int.toNat_natCast, List.length_nil, decide_true, decide_false, Bool.not_false, Bool.and_self, cond_true, cond_false, beq_self_eq_true, Bool.not_true]
          try rfl
        · by_cases c1 : (p.length : Int) ≤ c
          · simp only [Tr.val, x8, x9, eP hq, cP, eT (by omega), eA1 c1, w4 (by omega), hle, kt, kd, kP, wP, U.sub_dr, U.sub_tk, Int.natCast_nonneg, Int.toNat_natCast, and_self, hq, k1, k2, hpq, n0, hk, c0, c1, U.eqLs_refl, List.length_nil, decide_true, decide_false, Bool.not_false, Bool.and_self, cond_true, cond_false, beq_self_eq_true, Bool.not_true]
            try rfl
          · have i7 : inB ((p.length - 1 - c.toNat : Nat) : Int) p.length = true := inB_nat (by omega)
            have o7 := U.okc_len (U.okl_at k2 (i := p.length - 1 - c.toNat) (by omega))
            simp only [Tr.val, x8, x9, eP hq, cP, eT (by omega), eA (by omega) (by omega), w6, w7 (by omega) (by omega), i7, o7, rgetL, w4 (by omega), hle, kt, kd, kP, wP, U.sub_dr, U.sub_tk, Int.natCast_nonneg, Int.toNat_natCast, and_self, hq, k1, k2, hpq, n0, hk, c0, c1, U.eqLs_refl, U.eqL_refl, List.length_nil, decide_true, decide_false, Bool.not_false, Bool.and_self, cond_true, cond_false, beq_self_eq_true, Bool.not_true]
            try rfl
abbrev w3 : FSpec := s3' fun _ => true
theorem wk3 : SpecOK Tryd.prog E0 3 w3 := k3' fun a1 a2 b c => law3 a1 a2 b c
end Go.Proofs.YtmnbcnhpklejcaaDoor
