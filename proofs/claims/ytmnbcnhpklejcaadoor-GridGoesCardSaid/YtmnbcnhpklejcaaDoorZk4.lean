/- Part 4 of what the proof leans on: an evaluator of Go code over plain data, with its soundness; contracts of functions; laws of plain data. -/
import Derived.Test.YtmnbcnhpklejcaaDoorZk3
section
set_option linter.unusedVariables false
set_option linter.unusedSimpArgs false
set_option maxRecDepth 20000
open Go Go.Ev
namespace Go.Proofs.YtmnbcnhpklejcaaDoor
open Go.RowKit
abbrev okls (l : List Line) : Bool := decide (List.length (α := Line) l ≤ 1048576) && List.all (α := Line) l fun y => decide (y.1.length ≤ 1048576)
abbrev w23 : FSpec := s23 (fun x => okls x.1.2.1) fun x => decide ((x.1.1 : Int) = x.2.1.1) && U.eqLs x.1.2.1 x.2.1.2.1
theorem wk23 : SpecOK Tryd.prog E0 23 w23 := by
  refine k23 fun n l m k H => ?_
  have H : okls l = true := H
  show _ = some (decide (n = m) && U.eqLs l k)
  unfold okls at H
  by_cases h : n = m <;> simp only [d23, Tr.val, H, h, decide_true, decide_false, cond_true, cond_false, Bool.true_and, Bool.false_and]
abbrev w82 : FSpec := s82' fun x => ([(x.1, (1 : Int), ((0 : Int), (0 : Int), (0 : Int), ()), ())], false)
theorem wk82 : SpecOK Tryd.prog E0 82 w82 := by
  refine k82' fun a => ?_
  rfl
abbrev G22 : List (Nat × FSpec) := [(17, w17), (19, w19), (82, w82)]
theorem AG22 : AllFn Tryd.prog E0 G22 := .cons wk17 (.cons wk19 (.cons wk82 .nil))
def d22 : Tr (Bool) :=
  Tr.ite true (Tr.ite true (Tr.ite true (Tr.ite true (Tr.ite true (Tr.ite true (Tr.ite true (Tr.ret true) Tr.fail) (Tr.ret false)) (Tr.ret false)) (Tr.ret false)) (Tr.ret false)) Tr.fail) Tr.fail
def e22 (r : Bool) : FRes := { rs := Slot.av (AV.one (Leaf.dat Kd.bool r)), upd := [], new := [] }
@[reducible] def a22 : List AK := []
@[reducible] def b22 : List BK := []
theorem t22 : evFn (E0.withFns G22) Tryd.f22 [PM.data Kd.bool] (akAV a22 ()) (bkBs b22 ()) = (d22).map e22 := by kernel_rfl
def s22' (G : akT a22 → Bool) : FSpec := aspec0 a22 b22 e22 (fun x _ => G x)
theorem k22' {G : akT a22 → Bool} (hd : (d22).val = some (G ())) (IO : ItOK Tryd.prog (E0.withFns G22) := by exact itOK_none rfl) (L : ∀ c, Tryd.f22.body = some c → LsOK (evI 2) ((E0.withFns G22).lend 0) c := by exact fun c _ => LsOK_none rfl c) : SpecOK Tryd.prog E0 22 (s22' G) :=
  aspec0_ok (ak := a22) (bl := b22) (e := e22) (g := fun x _ => G x) (E0 := E0) (E := E0.withFns G22) tab AG22 rfl rfl hm Tryd.func22 (by kernel_rfl) [PM.data Kd.bool] (fun X Y => by exact val_of (t22) (hd)) IO L
abbrev w22 : FSpec := s22' fun _ => true
theorem wk22 : SpecOK Tryd.prog E0 22 w22 := by
  refine k22' ?_
  rfl
abbrev G3L : List (Nat × FSpec) := [(15, w15), (16, w16), (17, w17), (18, w18), (19, w19), (20, w20), (21, w21), (22, w22), (23, w23), (24, w24), (25, w25), (26, w26)]
theorem AG3L : AllFn Tryd.prog E0 G3L := .cons wk15 (.cons wk16 (.cons wk17 (.cons wk18 (.cons wk19 (.cons wk20 (.cons wk21 (.cons wk22 (.cons wk23 (.cons wk24 (.cons wk25 (.cons wk26 .nil)))))))))))
def d3 (a1 : Int) (a2 : List Line) (b : List Line) (c : Int) : Tr (Bool) :=
  let v1 : List U.Ln := (U.few b (50 : Nat))
  let v2 : List U.Ln := (U.few a2 (42 : Nat))
  let v3 : Int := ((↑v2.length : Int))
  let v4 : Int := (v3 - minI c v3)
  let v5 : List Line := (sub v2 (IntKind.i64.wrap v4).toNat v2.length)
  let v6 : Int := (v3 - (1 : Int))
  let v7 : Int := (IntKind.i64.wrap v6 - c)
  let v8 : List Line := (sub v2 (0 : Nat) (IntKind.i64.wrap v4).toNat)
  let v9 : Int := ((U.rawPush (a1, v2, ()) v1).fst)
  let v10 : List Cell := ((U.rawAt (a1, v2, ()) c).fst)
  let v11 : Int := ((↑v10.length : Int))
  let v12 : Int := ((U.rawTake (a1, v2, ()) c).fst)
  let v13 : Int := ((U.rawAt (a1, v2, ()) c).snd.snd)
  let v14 : Int := ((U.rawPush (a1, v2, ()) v1).snd.snd)
  let v15 : List Line := ((U.rawPush (a1, v2, ()) v1).snd.fst)
  let v16 : List Line := ((U.rawTake (a1, v2, ()) c).snd.fst)
  let v17 : Int := ((U.rawTake (a1, v2, ()) c).snd.snd.snd)
  let v18 : List Line := ((U.rawTake (a1, v2, ()) c).snd.snd.fst)
  let v19 : Int := ((↑v18.length : Int))
  let v20 : Int := ((↑(List.length (v2 ++ v1)) : Int))
  let v21 : Int := (v20 - a1)
  Tr.ite true
    (Tr.ite (U.okl v2 && U.okl v1 && decide (v2.length + v1.length ≤ (1048576 : Nat)))
      (Tr.ite (U.okl v2)
        (Tr.ite (U.okl v2)
          (Tr.ite (U.okl v2)
            (Tr.ite (U.okl v2)
              (Tr.ite (!keepB (a1, v2, ()) == keepB (a1, v2, ())) (Tr.ret false)
                (Tr.ite false (Tr.ret false)
                  (Tr.ite (U.okl v2)
                    (Tr.ite (!keepB (a1, v2, ()))
                      (Tr.ite (decide (v14 = (1 : Int)))
                        (Tr.ite (decide (v17 = (1 : Int)))
                          (Tr.ite (decide (v13 = (1 : Int)))
                            (Tr.ite (okls v15)
                              (Tr.ite (decide (v9 = (0 : Int)) && U.eqLs v15 [])
                                (Tr.ite (okls v16)
                                  (Tr.ite (decide (v12 = (0 : Int)) && U.eqLs v16 []) (Tr.ite (decide (v19 = (0 : Int))) (Tr.ret (decide (v11 = (0 : Int)))) (Tr.ret false)) (Tr.ret false)) Tr.fail)
                                (Tr.ret false))
                              Tr.fail)
                            (Tr.ret false))
                          (Tr.ret false))
                        (Tr.ret false))
                      (Tr.ite (U.okl v1)
                        (Tr.ite (!!v1.any fun (y : Line) => U.odd y.fst)
                          (Tr.ite (!decide (v14 = (1 : Int))) (Tr.ret false)
                            (Tr.ite (okls v15)
                              (Tr.ite (!(decide (v9 = (0 : Int)) && U.eqLs v15 [])) (Tr.ret false)
                                (Tr.ite (decide (c < (0 : Int)))
                                  (Tr.ite (!decide (v13 = (5 : Int))) (Tr.ret false)
                                    (Tr.ite (!decide (v11 = (0 : Int))) (Tr.ret false)
                                      (Tr.ite (decide (c < (0 : Int)))
                                        (Tr.ite (decide (v17 = (1 : Int)))
                                          (Tr.ite (okls v16) (Tr.ite (decide (v12 = (0 : Int)) && U.eqLs v16 []) (Tr.ret (decide (v19 = (0 : Int)))) (Tr.ret false)) Tr.fail) (Tr.ret false))
                                        (Tr.ite (decide (v17 = (0 : Int)))
                                          (Tr.ite (decide ((0 : Int) ≤ IntKind.i64.wrap v4 ∧ IntKind.i64.wrap v4 ≤ v3))
                                            (Tr.ite (okls v16)
                                              (Tr.ite (decide (v12 = a1) && U.eqLs v16 v8)
                                                (Tr.ite (decide ((0 : Int) ≤ IntKind.i64.wrap v4 ∧ IntKind.i64.wrap v4 ≤ v3))
                                                  (Tr.ite (decide (v18.length ≤ (1048576 : Nat)) && v18.all fun (y : Line) => decide (y.fst.length ≤ (1048576 : Nat))) (Tr.ret (U.eqLs v18 v5)) Tr.fail)
                                                  Tr.fail)
                                                (Tr.ret false))
                                              Tr.fail)
                                            Tr.fail)
                                          (Tr.ret false)))))
                                  (Tr.ite (decide (v3 ≤ c))
                                    (Tr.ite (!decide (v13 = (5 : Int))) (Tr.ret false)
                                      (Tr.ite (!decide (v11 = (0 : Int))) (Tr.ret false)
                                        (Tr.ite (decide (c < (0 : Int)))
                                          (Tr.ite (decide (v17 = (1 : Int)))
                                            (Tr.ite (okls v16) (Tr.ite (decide (v12 = (0 : Int)) && U.eqLs v16 []) (Tr.ret (decide (v19 = (0 : Int)))) (Tr.ret false)) Tr.fail) (Tr.ret false))
                                          (Tr.ite (decide (v17 = (0 : Int)))
                                            (Tr.ite (decide ((0 : Int) ≤ IntKind.i64.wrap v4 ∧ IntKind.i64.wrap v4 ≤ v3))
                                              (Tr.ite (okls v16)
                                                (Tr.ite (decide (v12 = a1) && U.eqLs v16 v8)
                                                  (Tr.ite (decide ((0 : Int) ≤ IntKind.i64.wrap v4 ∧ IntKind.i64.wrap v4 ≤ v3))
                                                    (Tr.ite (decide (v18.length ≤ (1048576 : Nat)) && v18.all fun (y : Line) => decide (y.fst.length ≤ (1048576 : Nat))) (Tr.ret (U.eqLs v18 v5)) Tr.fail)
                                                    Tr.fail)
                                                  (Tr.ret false))
                                                Tr.fail)
                                              Tr.fail)
                                            (Tr.ret false)))))
                                    (Tr.ite (!decide (v13 = (0 : Int))) (Tr.ret false)
                                      (Tr.ite (inB (IntKind.i64.wrap v7) v2.length)
                                        (Tr.ite (decide (v10.length ≤ (1048576 : Nat)))
                                          (Tr.ite (!U.eqL (v10, (U.rawAt (a1, v2, ()) c).snd.fst, ()) (rget link v2 (IntKind.i64.wrap v7))) (Tr.ret false)
                                            (Tr.ite (decide (c < (0 : Int)))
                                              (Tr.ite (decide (v17 = (1 : Int)))
                                                (Tr.ite (okls v16) (Tr.ite (decide (v12 = (0 : Int)) && U.eqLs v16 []) (Tr.ret (decide (v19 = (0 : Int)))) (Tr.ret false)) Tr.fail) (Tr.ret false))
                                              (Tr.ite (decide (v17 = (0 : Int)))
                                                (Tr.ite (decide ((0 : Int) ≤ IntKind.i64.wrap v4 ∧ IntKind.i64.wrap v4 ≤ v3))
                                                  (Tr.ite (okls v16)
                                                    (Tr.ite (decide (v12 = a1) && U.eqLs v16 v8)
                                                      (Tr.ite (decide ((0 : Int) ≤ IntKind.i64.wrap v4 ∧ IntKind.i64.wrap v4 ≤ v3))
                                                        (Tr.ite (decide (v18.length ≤ (1048576 : Nat)) && v18.all fun (y : Line) => decide (y.fst.length ≤ (1048576 : Nat))) (Tr.ret (U.eqLs v18 v5))
                                                          Tr.fail)
                                                        Tr.fail)
                                                      (Tr.ret false))
                                                    Tr.fail)
                                                  Tr.fail)
                                                (Tr.ret false))))
                                          Tr.fail)
                                        Tr.fail)))))
                              Tr.fail))
                          (Tr.ite (decide (((0 : Nat) + v2.length) * (32 : Nat) ≤ (140737488355328 : Nat)))
                            (Tr.ite (decide ((v2.length + v1.length) * (32 : Nat) ≤ (140737488355328 : Nat)))
                              (Tr.ite (decide (a1 < v20))
                                (Tr.ite (decide ((0 : Int) ≤ IntKind.i64.wrap v21 ∧ IntKind.i64.wrap v21 ≤ v20))
                                  (Tr.ite (!decide (v14 = (0 : Int))) (Tr.ret false)
                                    (Tr.ite (okls v15)
                                      (Tr.ite (!(decide (v9 = a1) && U.eqLs v15 (sub (v2 ++ v1) (IntKind.i64.wrap v21).toNat (List.length (v2 ++ v1))))) (Tr.ret false)
                                        (Tr.ite (decide (c < (0 : Int)))
                                          (Tr.ite (!decide (v13 = (5 : Int))) (Tr.ret false)
                                            (Tr.ite (!decide (v11 = (0 : Int))) (Tr.ret false)
                                              (Tr.ite (decide (c < (0 : Int)))
                                                (Tr.ite (decide (v17 = (1 : Int)))
                                                  (Tr.ite (okls v16) (Tr.ite (decide (v12 = (0 : Int)) && U.eqLs v16 []) (Tr.ret (decide (v19 = (0 : Int)))) (Tr.ret false)) Tr.fail) (Tr.ret false))
                                                (Tr.ite (decide (v17 = (0 : Int)))
                                                  (Tr.ite (decide ((0 : Int) ≤ IntKind.i64.wrap v4 ∧ IntKind.i64.wrap v4 ≤ v3))
                                                    (Tr.ite (okls v16)
                                                      (Tr.ite (decide (v12 = a1) && U.eqLs v16 v8)
                                                        (Tr.ite (decide ((0 : Int) ≤ IntKind.i64.wrap v4 ∧ IntKind.i64.wrap v4 ≤ v3))
                                                          (Tr.ite (decide (v18.length ≤ (1048576 : Nat)) && v18.all fun (y : Line) => decide (y.fst.length ≤ (1048576 : Nat))) (Tr.ret (U.eqLs v18 v5))
                                                            Tr.fail)
                                                          Tr.fail)
                                                        (Tr.ret false))
                                                      Tr.fail)
                                                    Tr.fail)
                                                  (Tr.ret false)))))
                                          (Tr.ite (decide (v3 ≤ c))
                                            (Tr.ite (!decide (v13 = (5 : Int))) (Tr.ret false)
                                              (Tr.ite (!decide (v11 = (0 : Int))) (Tr.ret false)
                                                (Tr.ite (decide (c < (0 : Int)))
                                                  (Tr.ite (decide (v17 = (1 : Int)))
                                                    (Tr.ite (okls v16) (Tr.ite (decide (v12 = (0 : Int)) && U.eqLs v16 []) (Tr.ret (decide (v19 = (0 : Int)))) (Tr.ret false)) Tr.fail) (Tr.ret false))
                                                  (Tr.ite (decide (v17 = (0 : Int)))
                                                    (Tr.ite (decide ((0 : Int) ≤ IntKind.i64.wrap v4 ∧ IntKind.i64.wrap v4 ≤ v3))
                                                      (Tr.ite (okls v16)
                                                        (Tr.ite (decide (v12 = a1) && U.eqLs v16 v8)
                                                          (Tr.ite (decide ((0 : Int) ≤ IntKind.i64.wrap v4 ∧ IntKind.i64.wrap v4 ≤ v3))
                                                            (Tr.ite (decide (v18.length ≤ (1048576 : Nat)) && v18.all fun (y : Line) => decide (y.fst.length ≤ (1048576 : Nat))) (Tr.ret (U.eqLs v18 v5))
                                                              Tr.fail)
                                                            Tr.fail)
                                                          (Tr.ret false))
                                                        Tr.fail)
                                                      Tr.fail)
                                                    (Tr.ret false)))))
                                            (Tr.ite (!decide (v13 = (0 : Int))) (Tr.ret false)
                                              (Tr.ite (inB (IntKind.i64.wrap v7) v2.length)
                                                (Tr.ite (decide (v10.length ≤ (1048576 : Nat)))
                                                  (Tr.ite (!U.eqL (v10, (U.rawAt (a1, v2, ()) c).snd.fst, ()) (rget link v2 (IntKind.i64.wrap v7))) (Tr.ret false)
                                                    (Tr.ite (decide (c < (0 : Int)))
                                                      (Tr.ite (decide (v17 = (1 : Int)))
                                                        (Tr.ite (okls v16) (Tr.ite (decide (v12 = (0 : Int)) && U.eqLs v16 []) (Tr.ret (decide (v19 = (0 : Int)))) (Tr.ret false)) Tr.fail)
                                                        (Tr.ret false))
                                                      (Tr.ite (decide (v17 = (0 : Int)))
                                                        (Tr.ite (decide ((0 : Int) ≤ IntKind.i64.wrap v4 ∧ IntKind.i64.wrap v4 ≤ v3))
                                                          (Tr.ite (okls v16)
                                                            (Tr.ite (decide (v12 = a1) && U.eqLs v16 v8)
                                                              (Tr.ite (decide ((0 : Int) ≤ IntKind.i64.wrap v4 ∧ IntKind.i64.wrap v4 ≤ v3))
                                                                (Tr.ite (decide (v18.length ≤ (1048576 : Nat)) && v18.all fun (y : Line) => decide (y.fst.length ≤ (1048576 : Nat)))
                                                                  (Tr.ret (U.eqLs v18 v5)) Tr.fail)
                                                                Tr.fail)
                                                              (Tr.ret false))
                                                            Tr.fail)
                                                          Tr.fail)
                                                        (Tr.ret false))))
                                                  Tr.fail)
                                                Tr.fail)))))
                                      Tr.fail))
                                  Tr.fail)
                                (Tr.ite (!decide (v14 = (0 : Int))) (Tr.ret false)
                                  (Tr.ite (okls v15)
                                    (Tr.ite (!(decide (v9 = a1) && U.eqLs v15 (v2 ++ v1))) (Tr.ret false)
                                      (Tr.ite (decide (c < (0 : Int)))
                                        (Tr.ite (!decide (v13 = (5 : Int))) (Tr.ret false)
                                          (Tr.ite (!decide (v11 = (0 : Int))) (Tr.ret false)
                                            (Tr.ite (decide (c < (0 : Int)))
                                              (Tr.ite (decide (v17 = (1 : Int)))
                                                (Tr.ite (okls v16) (Tr.ite (decide (v12 = (0 : Int)) && U.eqLs v16 []) (Tr.ret (decide (v19 = (0 : Int)))) (Tr.ret false)) Tr.fail) (Tr.ret false))
                                              (Tr.ite (decide (v17 = (0 : Int)))
                                                (Tr.ite (decide ((0 : Int) ≤ IntKind.i64.wrap v4 ∧ IntKind.i64.wrap v4 ≤ v3))
                                                  (Tr.ite (okls v16)
                                                    (Tr.ite (decide (v12 = a1) && U.eqLs v16 v8)
                                                      (Tr.ite (decide ((0 : Int) ≤ IntKind.i64.wrap v4 ∧ IntKind.i64.wrap v4 ≤ v3))
                                                        (Tr.ite (decide (v18.length ≤ (1048576 : Nat)) && v18.all fun (y : Line) => decide (y.fst.length ≤ (1048576 : Nat))) (Tr.ret (U.eqLs v18 v5))
                                                          Tr.fail)
                                                        Tr.fail)
                                                      (Tr.ret false))
                                                    Tr.fail)
                                                  Tr.fail)
                                                (Tr.ret false)))))
                                        (Tr.ite (decide (v3 ≤ c))
                                          (Tr.ite (!decide (v13 = (5 : Int))) (Tr.ret false)
                                            (Tr.ite (!decide (v11 = (0 : Int))) (Tr.ret false)
                                              (Tr.ite (decide (c < (0 : Int)))
                                                (Tr.ite (decide (v17 = (1 : Int)))
                                                  (Tr.ite (okls v16) (Tr.ite (decide (v12 = (0 : Int)) && U.eqLs v16 []) (Tr.ret (decide (v19 = (0 : Int)))) (Tr.ret false)) Tr.fail) (Tr.ret false))
                                                (Tr.ite (decide (v17 = (0 : Int)))
                                                  (Tr.ite (decide ((0 : Int) ≤ IntKind.i64.wrap v4 ∧ IntKind.i64.wrap v4 ≤ v3))
                                                    (Tr.ite (okls v16)
                                                      (Tr.ite (decide (v12 = a1) && U.eqLs v16 v8)
                                                        (Tr.ite (decide ((0 : Int) ≤ IntKind.i64.wrap v4 ∧ IntKind.i64.wrap v4 ≤ v3))
                                                          (Tr.ite (decide (v18.length ≤ (1048576 : Nat)) && v18.all fun (y : Line) => decide (y.fst.length ≤ (1048576 : Nat))) (Tr.ret (U.eqLs v18 v5))
                                                            Tr.fail)
                                                          Tr.fail)
                                                        (Tr.ret false))
                                                      Tr.fail)
                                                    Tr.fail)
                                                  (Tr.ret false)))))
                                          (Tr.ite (!decide (v13 = (0 : Int))) (Tr.ret false)
                                            (Tr.ite (inB (IntKind.i64.wrap v7) v2.length)
                                              (Tr.ite (decide (v10.length ≤ (1048576 : Nat)))
                                                (Tr.ite (!U.eqL (v10, (U.rawAt (a1, v2, ()) c).snd.fst, ()) (rget link v2 (IntKind.i64.wrap v7))) (Tr.ret false)
                                                  (Tr.ite (decide (c < (0 : Int)))
                                                    (Tr.ite (decide (v17 = (1 : Int)))
                                                      (Tr.ite (okls v16) (Tr.ite (decide (v12 = (0 : Int)) && U.eqLs v16 []) (Tr.ret (decide (v19 = (0 : Int)))) (Tr.ret false)) Tr.fail) (Tr.ret false))
                                                    (Tr.ite (decide (v17 = (0 : Int)))
                                                      (Tr.ite (decide ((0 : Int) ≤ IntKind.i64.wrap v4 ∧ IntKind.i64.wrap v4 ≤ v3))
                                                        (Tr.ite (okls v16)
                                                          (Tr.ite (decide (v12 = a1) && U.eqLs v16 v8)
                                                            (Tr.ite (decide ((0 : Int) ≤ IntKind.i64.wrap v4 ∧ IntKind.i64.wrap v4 ≤ v3))
                                                              (Tr.ite (decide (v18.length ≤ (1048576 : Nat)) && v18.all fun (y : Line) => decide (y.fst.length ≤ (1048576 : Nat)))
                                                                (Tr.ret (U.eqLs v18 v5)) Tr.fail)
                                                              Tr.fail)
                                                            (Tr.ret false))
                                                          Tr.fail)
                                                        Tr.fail)
                                                      (Tr.ret false))))
                                                Tr.fail)
                                              Tr.fail)))))
                                    Tr.fail)))
                              Tr.fail)
                            Tr.fail))
                        Tr.fail))
                    Tr.fail)))
              Tr.fail)
            Tr.fail)
          Tr.fail)
        Tr.fail)
      Tr.fail)
    Tr.fail
def e3 (r : Bool) : FRes := { rs := Slot.av (AV.one (Leaf.dat Kd.bool r)), upd := [], new := [] }
@[reducible] def a3 : List AK := [AK.d bakk, AK.d link.sl, AK.d (.int .i64)]
@[reducible] def b3 : List BK := []
theorem t3 (a1 : Int) (a2 : List Line) (b : List Line) (c : Int) : evFn (E0.withFns G3L) Tryd.f3 [PM.data Kd.bool] (akAV a3 ((a1, a2, ()), b, c, ())) (bkBs b3 ()) = (d3 a1 a2 b c).map e3 := by kernel_rfl
def s3 (C : akT a3 → Bool) (G : akT a3 → Bool) : FSpec := aspec a3 b3 e3 (fun x _ => C x) (fun x _ => G x)
theorem k3 {C : akT a3 → Bool} {G : akT a3 → Bool} (hd : ∀ (a1 : Int) (a2 : List Line) (b : List Line) (c : Int), C ((a1, a2, ()), b, c, ()) = true → (d3 a1 a2 b c).val = some (G ((a1, a2, ()), b, c, ()))) (IO : ItOK Tryd.prog (E0.withFns G3L) := by exact itOK_none rfl) (L : ∀ c, Tryd.f3.body = some c → LsOK (evI 2) ((E0.withFns G3L).lend 0) c := by exact fun c _ => LsOK_none rfl c) : SpecOK Tryd.prog E0 3 (s3 C G) :=
  aspec_ok (ak := a3) (bl := b3) (e := e3) (c := fun x _ => C x) (g := fun x _ => G x) (E0 := E0) (E := E0.withFns G3L) tab AG3L rfl rfl hm Tryd.func3 (by kernel_rfl) [PM.data Kd.bool] (fun X Y H => by obtain ⟨⟨a1, ⟨a2, _⟩⟩, ⟨b, ⟨c, _⟩⟩⟩ := X; exact val_of (t3 a1 a2 b c) (hd a1 a2 b c H)) IO L
def d4 (a1 : Int) (a2 : List Line) (b : List Line) (c : Int) : Tr (Bool) :=
  let v1 : List U.Ln := (U.few b (50 : Nat))
  let v2 : Int := ((↑v1.length : Int))
  let v3 : List U.Ln := (U.few a2 (42 : Nat))
  let v4 : Int := (v2 + (1 : Int))
  let v5 : Int := (c.tmod (IntKind.i64.wrap v4) + v2)
  let v6 : Int := (IntKind.i64.wrap v5 + (1 : Int))
  let v7 : Int := ((IntKind.i64.wrap v6).tmod (IntKind.i64.wrap v4))
  let v8 : List Line := (sub v1 v7.toNat v1.length)
  let v9 : List Line := (sub v1 (0 : Nat) v7.toNat)
  let v10 : Int := ((U.rawPush (a1, v3, ()) v1).fst)
  let v11 : Int := ((U.rawPush (a1, v3, ()) v9).fst)
  let v12 : List Line := ((U.rawPush (a1, v3, ()) v1).snd.fst)
  let v13 : Int := ((↑v12.length : Int))
  let v14 : Int := ((U.rawPush (a1, v3, ()) v1).snd.snd)
  let v15 : List Line := ((U.rawPush (a1, v3, ()) v9).snd.fst)
  let v16 : Int := ((U.rawPush (v11, v15, ()) v8).fst)
  let v17 : Int := ((U.rawPush (v11, v15, ()) v8).snd.snd)
  let v18 : Int := ((U.rawPush (a1, v3, ()) v9).snd.snd)
  let v19 : List Line := ((U.rawTake (v10, v12, ()) v2).snd.fst)
  let v20 : Int := ((↑v19.length : Int))
  let v21 : List Line := ((U.rawTake (v10, v12, ()) v2).snd.snd.fst)
  let v22 : Int := ((↑v21.length : Int))
  let v23 : Int := (v2 - v22)
  let v24 : Int := (v13 - v22)
  let v25 : Int := ((U.rawTake (v10, v12, ()) v2).snd.snd.snd)
  Tr.ite true
    (Tr.ite (!decide (IntKind.i64.wrap v4 = (0 : Int)))
      (Tr.ite (!decide (IntKind.i64.wrap v4 = (0 : Int)))
        (Tr.ite (U.okl v3 && U.okl v1 && decide (v3.length + v1.length ≤ (1048576 : Nat)))
          (Tr.ite (!decide (v14 = (0 : Int))) (Tr.ite true (Tr.ite (okls v12) (Tr.ret (decide (v10 = (0 : Int)) && U.eqLs v12 [])) Tr.fail) (Tr.ret false))
            (Tr.ite (decide ((0 : Int) ≤ v7 ∧ v7 ≤ v2))
              (Tr.ite (U.okl v3 && U.okl v9 && decide (v3.length + v9.length ≤ (1048576 : Nat)))
                (Tr.ite (decide ((0 : Int) ≤ v7 ∧ v7 ≤ v2))
                  (Tr.ite (U.okl v15 && U.okl v8 && decide (v15.length + v8.length ≤ (1048576 : Nat)))
                    (Tr.ite (U.okl v12)
                      (Tr.ite (!decide (v18 = (0 : Int))) (Tr.ret false)
                        (Tr.ite (!decide (v17 = (0 : Int))) (Tr.ret false)
                          (Tr.ite (!decide (v25 = (0 : Int))) (Tr.ret false)
                            (Tr.ite (okls v12)
                              (Tr.ite (!(decide (v10 = v16) && U.eqLs v12 (U.rawPush (v11, v15, ()) v8).snd.fst)) (Tr.ret false)
                                (Tr.ite (decide (a1 < v13)) (Tr.ret false)
                                  (Tr.ite (!decide (v22 = minI v2 a1)) (Tr.ret false)
                                    (Tr.ite (U.okl v19)
                                      (Tr.ite (!keepB ((U.rawTake (v10, v12, ()) v2).fst, v19, ())) (Tr.ret false)
                                        (Tr.ite false (Tr.ret false)
                                          (Tr.ite (decide ((0 : Int) ≤ IntKind.i64.wrap v23 ∧ IntKind.i64.wrap v23 ≤ v2))
                                            (Tr.ite (decide (v21.length ≤ (1048576 : Nat)) && v21.all fun (y : Line) => decide (y.fst.length ≤ (1048576 : Nat)))
                                              (Tr.ite (U.eqLs v21 (sub v1 (IntKind.i64.wrap v23).toNat v1.length)) (Tr.ret (decide (v20 = IntKind.i64.wrap v24))) (Tr.ret false)) Tr.fail)
                                            Tr.fail)))
                                      Tr.fail))))
                              Tr.fail))))
                      Tr.fail)
                    Tr.fail)
                  Tr.fail)
                Tr.fail)
              Tr.fail))
          Tr.fail)
        Tr.fail)
      Tr.fail)
    Tr.fail
def e4 (r : Bool) : FRes := { rs := Slot.av (AV.one (Leaf.dat Kd.bool r)), upd := [], new := [] }
@[reducible] def a4 : List AK := [AK.d bakk, AK.d link.sl, AK.d (.int .i64)]
@[reducible] def b4 : List BK := []
theorem t4 (a1 : Int) (a2 : List Line) (b : List Line) (c : Int) : evFn (E0.withFns G3L) Tryd.f4 [PM.data Kd.bool] (akAV a4 ((a1, a2, ()), b, c, ())) (bkBs b4 ()) = (d4 a1 a2 b c).map e4 := by kernel_rfl
def s4 (C : akT a4 → Bool) (G : akT a4 → Bool) : FSpec := aspec a4 b4 e4 (fun x _ => C x) (fun x _ => G x)
theorem k4 {C : akT a4 → Bool} {G : akT a4 → Bool} (hd : ∀ (a1 : Int) (a2 : List Line) (b : List Line) (c : Int), C ((a1, a2, ()), b, c, ()) = true → (d4 a1 a2 b c).val = some (G ((a1, a2, ()), b, c, ()))) (IO : ItOK Tryd.prog (E0.withFns G3L) := by exact itOK_none rfl) (L : ∀ c, Tryd.f4.body = some c → LsOK (evI 2) ((E0.withFns G3L).lend 0) c := by exact fun c _ => LsOK_none rfl c) : SpecOK Tryd.prog E0 4 (s4 C G) :=
  aspec_ok (ak := a4) (bl := b4) (e := e4) (c := fun x _ => C x) (g := fun x _ => G x) (E0 := E0) (E := E0.withFns G3L) tab AG3L rfl rfl hm Tryd.func4 (by kernel_rfl) [PM.data Kd.bool] (fun X Y H => by obtain ⟨⟨a1, ⟨a2, _⟩⟩, ⟨b, ⟨c, _⟩⟩⟩ := X; exact val_of (t4 a1 a2 b c) (hd a1 a2 b c H)) IO L
end Go.Proofs.YtmnbcnhpklejcaaDoor
namespace U
open Go.Proofs.YtmnbcnhpklejcaaDoor
theorem cutC_size (c : Cl) : (cutC c).1.size ≤ 20 := by
  show (c.1.extract 0 (min c.1.size 20)).size ≤ 20
  rw [← bl_len, bl_ext, List.length_drop, List.length_take, bl_len]
  omega
theorem cutL_ok (l : List Cl) : okc (cutL l) = true := by
  unfold okc cutL
  rw [Bool.and_eq_true, decide_eq_true_eq, List.all_eq_true]
  refine ⟨by rw [List.length_map, List.length_take]; omega, fun x hx => ?_⟩
  obtain ⟨y, _, rfl⟩ := List.mem_map.1 hx
  exact decide_eq_true (by have := cutC_size y; omega)
theorem few_len (l : List Ln) (n : Nat) : (few l n).length ≤ n := by unfold few; rw [List.length_map, List.length_take]; omega
theorem few_ok (l : List Ln) {n : Nat} (hn : n ≤ 1000) : okl (few l n) = true := by
  have := few_len l n
  unfold okl
  rw [Bool.and_eq_true, decide_eq_true_eq, List.all_eq_true]
  refine ⟨by omega, fun x hx => ?_⟩
  unfold few at hx
  obtain ⟨y, _, rfl⟩ := List.mem_map.1 hx
  exact cutL_ok _
theorem okl_iff {l : List Ln} : okl l = true ↔ l.length ≤ 1048576 ∧ ∀ x ∈ l, okc x.1 = true := by
  unfold okl
  rw [Bool.and_eq_true, decide_eq_true_eq, List.all_eq_true]
theorem okl_s {l : List Ln} (h : okl l = true) : (decide (l.length ≤ 1048576) && l.all fun y => decide (y.1.length ≤ 1048576)) = true := by
  rw [okl_iff] at h
  rw [Bool.and_eq_true, decide_eq_true_eq, List.all_eq_true]
  exact ⟨h.1, fun x hx => decide_eq_true (okc_len (h.2 x hx))⟩
theorem eqLs_refl (l : List Ln) : eqLs l l = true := eqLs_iff.2 rfl
theorem eqL_refl (l : Ln) : eqL l l = true := eqL_iff.2 rfl
end U
namespace Go.Proofs.YtmnbcnhpklejcaaDoor
end Go.Proofs.YtmnbcnhpklejcaaDoor

end
section
set_option linter.unusedVariables false
set_option linter.unusedSimpArgs false
set_option maxRecDepth 20000
open Go Go.Ev
namespace Go.Proofs.YtmnbcnhpklejcaaDoor
open Go.RowKit
def d93 (a : Int) (b : Int) (c : Int) : Tr (Bool) :=
  Tr.ite (decide (b ≤ a)) (Tr.ret (decide (a ≤ c))) (Tr.ret false)
def e93 (r : Bool) : FRes := { rs := Slot.av (AV.one (Leaf.dat Kd.bool r)), upd := [], new := [] }
@[reducible] def a93 : List AK := [AK.d (.int .i64), AK.d (.int .i64), AK.d (.int .i64)]
@[reducible] def b93 : List BK := []
theorem t93 (a : Int) (b : Int) (c : Int) : evFn (E0) Tryd.f93 [PM.data Kd.bool] (akAV a93 (a, b, c, ())) (bkBs b93 ()) = (d93 a b c).map e93 := by kernel_rfl
def s93' (G : akT a93 → Bool) : FSpec := aspec0 a93 b93 e93 (fun x _ => G x)
theorem k93' {G : akT a93 → Bool} (hd : ∀ (a : Int) (b : Int) (c : Int), (d93 a b c).val = some (G (a, b, c, ()))) (IO : ItOK Tryd.prog (E0) := by exact itOK_none rfl) (L : ∀ c, Tryd.f93.body = some c → LsOK (evI 2) ((E0).lend 0) c := by exact fun c _ => LsOK_none rfl c) : SpecOK Tryd.prog E0 93 (s93' G) :=
  aspec0_ok (ak := a93) (bl := b93) (e := e93) (g := fun x _ => G x) (E0 := E0) (E := E0) tab .nil rfl rfl hm Tryd.func93 (by kernel_rfl) [PM.data Kd.bool] (fun X Y => by obtain ⟨a, ⟨b, ⟨c, _⟩⟩⟩ := X; exact val_of (t93 a b c) (hd a b c)) IO L
abbrev w93 : FSpec := s93' fun x => U.inn x.1 x.2.1 x.2.2.1
theorem wk93 : SpecOK Tryd.prog E0 93 w93 := by
  refine k93' fun a b c => ?_
  show _ = some (U.inn a b c)
  unfold U.inn
  by_cases h : b ≤ a <;> simp [d93, Tr.val, h]
def d88 (a1 : Int) (a2 : Int) (a3 : Int) : Tr (ByteArray × Int × Int × Int × Int) :=
  Tr.ret (ByteArray.empty, (1 : Int), (0 : Int), a2, (0 : Int))
def e88 (r : ByteArray × Int × Int × Int × Int) : FRes := { rs := Slot.av (AV.agg [Leaf.dat Kd.str r.fst, Leaf.dat (.int .i64) r.snd.fst, Leaf.dat (.int .i64) r.snd.snd.fst, Leaf.dat (.int .i64) r.snd.snd.snd.fst, Leaf.dat (.int .i64) r.snd.snd.snd.snd]), upd := [], new := [] }
@[reducible] def a88 : List AK := [AK.d attk]
@[reducible] def b88 : List BK := []
theorem t88 (a1 : Int) (a2 : Int) (a3 : Int) : evFn (E0) Tryd.f88 [PM.data celk] (akAV a88 ((a1, a2, a3, ()), ())) (bkBs b88 ()) = (d88 a1 a2 a3).map e88 := by kernel_rfl
def s88' (G : akT a88 → ByteArray × Int × Int × Int × Int) : FSpec := aspec0 a88 b88 e88 (fun x _ => G x)
theorem k88' {G : akT a88 → ByteArray × Int × Int × Int × Int} (hd : ∀ (a1 : Int) (a2 : Int) (a3 : Int), (d88 a1 a2 a3).val = some (G ((a1, a2, a3, ()), ()))) (IO : ItOK Tryd.prog (E0) := by exact itOK_none rfl) (L : ∀ c, Tryd.f88.body = some c → LsOK (evI 2) ((E0).lend 0) c := by exact fun c _ => LsOK_none rfl c) : SpecOK Tryd.prog E0 88 (s88' G) :=
  aspec0_ok (ak := a88) (bl := b88) (e := e88) (g := fun x _ => G x) (E0 := E0) (E := E0) tab .nil rfl rfl hm Tryd.func88 (by kernel_rfl) [PM.data celk] (fun X Y => by obtain ⟨⟨a1, ⟨a2, ⟨a3, _⟩⟩⟩, _⟩ := X; exact val_of (t88 a1 a2 a3) (hd a1 a2 a3)) IO L
abbrev w88 : FSpec := s88' fun x => (ByteArray.empty, (1 : Int), (0 : Int), x.1.2.1, (0 : Int))
theorem wk88 : SpecOK Tryd.prog E0 88 w88 := k88' fun a b c => rfl
def live86 (key : Nat) : Lv :=
  bif Nat.beq key 7777 then { ls := [], wd := [⟨2, none, .row 48 celk⟩] } else
  { ls := [] }
def live97 (key : Nat) : Lv :=
  bif Nat.beq key 7777 then { ls := [], wd := [⟨2, none, .row 34 link⟩] } else
  { ls := [] }
abbrev w86 : FSpec := bspec [.d (.sl celk)] [] fun x _ => { c := some (decide (List.length (α := Cell) x.1 ≤ 1048576)), rs := .av (.one (.row 0)), new := [.row 48 celk x.1] }
theorem wk86 : SpecOK Tryd.prog E0 86 w86 := by
  refine nspec_ok (k := celk) (E0 := E0) (E := E0.loops live86 fun _ _ => none) (g := fun (xs : List Cell) => { c := some (decide (List.length xs ≤ 1048576)), rs := .av (.one (.row 0)), new := [.row 48 celk xs] }) tab .nil rfl rfl hm Tryd.func86 (by kernel_rfl) [.raw] fun b xs hb hc => ?_
  have hl : xs.length ≤ 1048576 := by
    cases h : decide (xs.length ≤ 1048576) with
    | true => exact of_decide_eq_true h
    | false => exact absurd (by show some (decide (xs.length ≤ 1048576)) = some false; rw [h]) hc
  cases b with
  | true =>
    cases hb rfl
    show (evFn (E0.loops live86 fun _ _ => none) Tryd.f86 [.raw] [.one (.nn true celk [])] []).val = some ⟨.av (.one (.row 0)), [], [.row 48 celk []]⟩
    kernel_rfl
  | false =>
    have e : evFn (E0.loops live86 fun _ _ => none) Tryd.f86 [.raw] [.one (.nn false celk xs)] [] = .ite (decide ((0 + xs.length) * 48 ≤ capLimit)) (.ret ⟨.av (.one (.row 0)), [], [.row 48 celk xs]⟩) .fail := by kernel_rfl
    have h2 : (0 + xs.length) * 48 ≤ capLimit := by unfold capLimit; omega
    rw [e, decide_eq_true h2]
    rfl
abbrev w97 : FSpec := bspec [.d (.sl link)] [] fun x _ => { c := some (decide (List.length (α := Line) x.1 ≤ 1048576)), rs := .av (.one (.row 0)), new := [.row 34 link x.1] }
theorem wk97 : SpecOK Tryd.prog E0 97 w97 := by
  refine nspec_ok (k := link) (E0 := E0) (E := E0.loops live97 fun _ _ => none) (g := fun (xs : List Line) => { c := some (decide (List.length xs ≤ 1048576)), rs := .av (.one (.row 0)), new := [.row 34 link xs] }) tab .nil rfl rfl hm Tryd.func97 (by kernel_rfl) [.raw] fun b xs hb hc => ?_
  have hl : xs.length ≤ 1048576 := by
    cases h : decide (xs.length ≤ 1048576) with
    | true => exact of_decide_eq_true h
    | false => exact absurd (by show some (decide (xs.length ≤ 1048576)) = some false; rw [h]) hc
  cases b with
  | true =>
    cases hb rfl
    show (evFn (E0.loops live97 fun _ _ => none) Tryd.f97 [.raw] [.one (.nn true link [])] []).val = some ⟨.av (.one (.row 0)), [], [.row 34 link []]⟩
    kernel_rfl
  | false =>
    have e : evFn (E0.loops live97 fun _ _ => none) Tryd.f97 [.raw] [.one (.nn false link xs)] [] = .ite (decide ((0 + xs.length) * 32 ≤ capLimit)) (.ret ⟨.av (.one (.row 0)), [], [.row 34 link xs]⟩) .fail := by kernel_rfl
    have h2 : (0 + xs.length) * 32 ≤ capLimit := by unfold capLimit; omega
    rw [e, decide_eq_true h2]
    rfl
namespace R
def d87 (b : Int) (h0 : List Cell) : Tr (Bool × List Cell) :=
  let v1 : Int := ((↑h0.length : Int))
  let v2 : Int := (b + (1 : Int))
  let v3 : Int := (b - (1 : Int))
  Tr.ite (inB b h0.length)
    (Tr.ite (decide ((h0.getD b.toNat celk.dflt).snd.fst = (2 : Int)))
      (Tr.ite (decide (IntKind.i64.wrap v2 < v1)) (Tr.ite (inB (IntKind.i64.wrap v2) h0.length) (Tr.ret (decide ((h0.getD (IntKind.i64.wrap v2).toNat celk.dflt).snd.fst = (0 : Int)), h0)) Tr.fail)
        (Tr.ret (false, h0)))
      (Tr.ite (decide ((h0.getD b.toNat celk.dflt).snd.fst = (0 : Int)))
        (Tr.ite (decide ((0 : Int) < b)) (Tr.ite (inB (IntKind.i64.wrap v3) h0.length) (Tr.ret (decide ((h0.getD (IntKind.i64.wrap v3).toNat celk.dflt).snd.fst = (2 : Int)), h0)) Tr.fail)
          (Tr.ret (false, h0)))
        (Tr.ret (true, h0))))
    Tr.fail
def e87 (r : Bool × List Cell) : FRes := { rs := Slot.av (AV.one (Leaf.dat Kd.bool r.fst)), upd := [Blk.row ( 48) celk r.snd], new := [] }
@[reducible] def a87 : List AK := [AK.c (Leaf.row (0 : Nat)), AK.d (.int .i64)]
@[reducible] def b87 : List BK := [BK.row (48 : TypeId) celk]
theorem t87 (b : Int) (h0 : List Cell) : evFn (E0) Tryd.f87 [PM.data Kd.bool] (akAV a87 (b, ())) (bkBs b87 (h0, ())) = (d87 b h0).map e87 := by kernel_rfl
def s87 (C : akT a87 → bksT b87 → Bool) (G : akT a87 → bksT b87 → Bool × List Cell) : FSpec := aspec a87 b87 e87 (C) (G)
theorem k87 {C : akT a87 → bksT b87 → Bool} {G : akT a87 → bksT b87 → Bool × List Cell} (hd : ∀ (b : Int) (h0 : List Cell), C (b, ()) (h0, ()) = true → (d87 b h0).val = some (G (b, ()) (h0, ()))) (IO : ItOK Tryd.prog (E0) := by exact itOK_none rfl) (L : ∀ c, Tryd.f87.body = some c → LsOK (evI 2) ((E0).lend 1) c := by exact fun c _ => LsOK_none rfl c) : SpecOK Tryd.prog E0 87 (s87 C G) :=
  aspec_ok (ak := a87) (bl := b87) (e := e87) (c := C) (g := G) (E0 := E0) (E := E0) tab .nil rfl rfl hm Tryd.func87 (by kernel_rfl) [PM.data Kd.bool] (fun X Y H => by obtain ⟨b, _⟩ := X; obtain ⟨h0, _⟩ := Y; exact val_of (t87 b h0) (hd b h0 H)) IO L
theorem cwd (l : List Cell) (i : Nat) : (l.getD i celk.dflt).2.1 = U.cw l i := rfl
abbrev w87 : FSpec := s87 (fun x y => decide (0 ≤ (x.1 : Int) ∧ (x.1 : Int) < (List.length (α := Cell) y.1 : Int) ∧ List.length (α := Cell) y.1 ≤ 1048576)) fun x y => (U.whole y.1 x.1.toNat, y.1)
theorem wk87 : SpecOK Tryd.prog E0 87 w87 := by
  refine k87 fun i l H => ?_
  obtain ⟨h0, h1, h2⟩ := of_decide_eq_true H
  dsimp only at h0 h1 h2
  obtain ⟨n, rfl⟩ := Int.eq_ofNat_of_zero_le h0
  show _ = some (U.whole l n, l)
  have hn : n < l.length := Int.ofNat_lt.1 h1
  have w1 : IntKind.i64.wrap ((n : Int) + 1) = ((n + 1 : Nat) : Int) := wrap64_nat (by omega)
  unfold U.whole d87
  simp only [Tr.val, inB_nat hn, cond_true, w1, Int.toNat_natCast, cwd]
  by_cases a : U.cw l n = 2
  · by_cases b : n + 1 < l.length
    · simp [a, b, inB_nat b, show ((n : Int) + 1 < (l.length : Int)) by omega, show inB ((n : Int) + 1) l.length = true from by simpa using inB_nat b, ← cwd]
    · simp [a, b, show ¬ ((n : Int) + 1 < (l.length : Int)) by omega]
  · by_cases b : U.cw l n = 0
    · by_cases c : 0 < n
      · have w2 : IntKind.i64.wrap ((n : Int) - 1) = ((n - 1 : Nat) : Int) := by
          rw [wrap64_id (by omega) (by omega)]
          omega
        simp [a, b, c, w2, inB_nat (show n - 1 < l.length by omega), ← cwd]
      · have : n = 0 := by omega
        subst this
        simp [a, b]
    · simp [a, b]
end R
abbrev G30 : List (Nat × FSpec) := [(86, w86), (87, R.w87), (88, w88)]
theorem AG30 : AllFn Tryd.prog E0 G30 := .cons wk86 (.cons R.wk87 (.cons wk88 .nil))
def live30 (key : Nat) : Lv :=
  bif Nat.beq key 3 then { ls := [1, 2, 10, 11, 12] } else bif Nat.beq key 1003 then { ls := [1, 2] } else
  { ls := [] }
abbrev M30 (ls : Nat → VS → Option (Tr (Ex × VS))) : Env := (E0.withFns G30).loops live30 ls
@[reducible] def p30_0 : LP := { n := 31, sl := [.c (Leaf.ptr ( 0) ( 0)), .c (Leaf.ptr ( 1) ( 0)), .c (Leaf.row ( 2)), .d (.int .i64), .d (.int .i64)], bl := [(0, .box [.c (Leaf.row ( 2)), .d (Kd.bool)]), (1, .box [.c (Leaf.nils), .d (Kd.bool)]), (2, .row 48 (celk))] }
def B30_0 (x3 : Int) (x4 : Int) (h0_1 : Bool) (h1_1 : Bool) (h2 : List Cell) : Tr (p30_0.T ⊕ (Bool × Bool × List Cell)) :=
  let v1 : Int := ((↑h2.length : Int))
  let v2 : Int := (x4 + (1 : Int))
  Tr.ite (decide (x4 < x3))
    (Tr.ite (inB x4 h2.length)
      (Tr.ite (decide ((0 : Int) ≤ x4 ∧ x4 < v1 ∧ h2.length ≤ (1048576 : Nat)))
        (Tr.ite (!U.whole h2 x4.toNat)
          (Tr.ite (inB x4 h2.length)
            (Tr.ret
              (Sum.inl
                ((x3, IntKind.i64.wrap v2, ()), (h0_1, ()), (h1_1, ()), h2.set x4.toNat (ByteArray.empty, (1 : Int), ((0 : Int), (h2.getD x4.toNat celk.dflt).snd.snd.fst.snd.fst, (0 : Int), ()), ()),
                  ())))
            Tr.fail)
          (Tr.ret (Sum.inl ((x3, IntKind.i64.wrap v2, ()), (h0_1, ()), (h1_1, ()), h2, ()))))
        Tr.fail)
      Tr.fail)
    (Tr.ret (Sum.inr (h0_1, h1_1, h2)))
def X30_0 (r : (Bool × Bool × List Cell)) : Ex × VS := Prod.mk (Ex.exit ( 0)) { n := 31, v := [Slot.av (AV.one (Leaf.ptr ( 0) ( 0))), Slot.av (AV.one (Leaf.ptr ( 1) ( 0)))], h := [( 0, Blk.box [Leaf.row ( 2), Leaf.dat Kd.bool r.fst]), ( 1, Blk.box [Leaf.nils, Leaf.dat Kd.bool r.snd.fst]), ( 2, Blk.row ( 48) celk r.snd.snd)] }
def b30_0 : p30_0.T → Tr (p30_0.T ⊕ (Bool × Bool × List Cell)) := fun ⟨⟨x3, ⟨x4, _⟩⟩, ⟨⟨h0_1, _⟩, ⟨⟨h1_1, _⟩, ⟨h2, _⟩⟩⟩⟩ => B30_0 x3 x4 h0_1 h1_1 h2
theorem h30_0 (ls : Nat → VS → Option (Tr (Ex × VS))) (x : p30_0.T) : (evC (evI 2) (lc Tryd.f30 0) (Env.lend (M30 ls) 0) (unV (live30 3) (p30_0.V x))).map (decL 0 (live30 3) (live30 1003)) = (b30_0 x).map (encR p30_0.V X30_0) := by
  obtain ⟨⟨x3, ⟨x4, _⟩⟩, ⟨⟨h0_1, _⟩, ⟨⟨h1_1, _⟩, ⟨h2, _⟩⟩⟩⟩ := x; kernel_rfl
theorem c30_0 (x : p30_0.T) : canV 0 (live30 3) (unV (live30 3) (p30_0.V x)) = p30_0.V x := by
  obtain ⟨⟨x3, ⟨x4, _⟩⟩, ⟨⟨h0_1, _⟩, ⟨⟨h1_1, _⟩, ⟨h2, _⟩⟩⟩⟩ := x; kernel_rfl
theorem l30_0 {T : p30_0.T → Tr (Bool × Bool × List Cell)} {ls : Nat → VS → Option (Tr (Ex × VS))} (hls : ∀ x, (Env.lend (M30 ls) 0).ls 3 x = p30_0.ls (fun a => (T a).map X30_0) x) (hS : ∀ x r, (T x).val = some r → Rounds b30_0 x r) : LoopOK (evI 2) (Env.lend (M30 ls) 0) (lc Tryd.f30 0) :=
  loopA 3 (live30 3) (live30 1003) p30_0 b30_0 X30_0 T (by kernel_rfl) rfl rfl hls (h30_0 ls) c30_0 hS
end Go.Proofs.YtmnbcnhpklejcaaDoor
namespace U
def blank (a : Int × Int × Int × Unit) : Cl := (ByteArray.empty, 1, (0, a.2.1, 0, ()), ())
def mendAt (i : Nat) (l : List Cl) : List Cl := if whole l i then l else l.set i (blank (l.getD i dC).2.2.1)
def mend (l : List Cl) : List Cl := (List.range' 0 l.length).foldl (fun l i => mendAt i l) l
theorem mendAt_len (i : Nat) (l : List Cl) : (mendAt i l).length = l.length := by unfold mendAt; split <;> simp
end U
namespace Go.Proofs.YtmnbcnhpklejcaaDoor
def T30 (x : p30_0.T) : Tr (Bool × Bool × List Cell) :=
  .ite (decide ((x.1.1 : Int) = (List.length (α := Cell) x.2.2.2.1 : Int) ∧ (x.1.2.1 : Int) = 0 ∧ List.length (α := Cell) x.2.2.2.1 ≤ 1048576))
    (.ret (x.2.1.1, x.2.2.1.1, U.mend x.2.2.2.1)) .fail
abbrev E30 : Env := M30 fun key x => bif Nat.beq key 3 then p30_0.ls (fun a => (T30 a).map X30_0) x else none
theorem L30 : LoopOK (evI 2) (E30.lend 0) (lc Tryd.f30 0) := by
  refine l30_0 (T := T30) (fun x => rfl) ?_
  rintro ⟨⟨n, i, z⟩, ⟨s, z0⟩, ⟨t, z1⟩, l, z2⟩ r h
  obtain ⟨g1, g2⟩ := pre_val h
  obtain ⟨e1, e2, e3⟩ := of_decide_eq_true g1
  dsimp only at e1 e2 e3 g2
  subst e1; subst e2
  cases g2
  refine Rounds.uptoA (B := b30_0) (σ := List Cell) (N := l.length) (fun i m => (((l.length : Int), (i : Int), ()), (s, ()), (t, ()), m, ())) U.mendAt (fun m => (s, t, m)) (fun _ m => m.length = l.length) (fun i m hi hv => ?_) (fun m hv => ?_) l.length 0 l (by omega) rfl
  · refine ⟨?_, by rw [U.mendAt_len]; exact hv⟩
    have hi' : i < m.length := by omega
    have h1 : (0 : Int) ≤ (i : Int) ∧ (i : Int) < (m.length : Int) ∧ m.length ≤ 1048576 := by omega
    unfold U.mendAt
    cases hw : U.whole m i with
    | true => simp only [b30_0, B30_0, Tr.val, hw, h1, inB_nat hi', Int.toNat_natCast, show ((i : Int) < (l.length : Int)) by omega, decide_true, cond_true, cond_false, Bool.not_true, wrap64_nat (show i ≤ 1048576 by omega), if_true, and_self]
    | false =>
      simp only [b30_0, B30_0, Tr.val, hw, h1, inB_nat hi', Int.toNat_natCast, show ((i : Int) < (l.length : Int)) by omega, decide_true, cond_true, cond_false, Bool.not_false, wrap64_nat (show i ≤ 1048576 by omega), Bool.false_eq_true, if_false, and_self]
      rfl
  · simp only [b30_0, B30_0, Tr.val, show ¬ ((l.length : Int) < (l.length : Int)) by omega, decide_false, cond_false]
def d30 (a1 : List Cell) (a2 : Bool) : Tr (List U.Cl × Bool) :=
  let v1 : Int := ((↑a1.length : Int))
  let v2 : Int := ((↑a1.length : Int))
  Tr.ite (decide (a1.length ≤ (1048576 : Nat))) (Tr.ite (decide (v2 = v1 ∧ (0 : Int) = (0 : Int) ∧ a1.length ≤ (1048576 : Nat))) (Tr.ret (U.mend a1, a2)) Tr.fail) Tr.fail
def e30 (r : List U.Cl × Bool) : FRes := { rs := Slot.av (AV.agg [Leaf.dat celk.sl r.fst, Leaf.dat Kd.bool r.snd]), upd := [], new := [] }
@[reducible] def a30 : List AK := [AK.d link]
@[reducible] def b30 : List BK := []
theorem t30 (a1 : List Cell) (a2 : Bool) : evFn (E30) Tryd.f30 [PM.data link] (akAV a30 ((a1, a2, ()), ())) (bkBs b30 ()) = (d30 a1 a2).map e30 := by kernel_rfl
def s30 (C : akT a30 → Bool) (G : akT a30 → List U.Cl × Bool) : FSpec := aspec a30 b30 e30 (fun x _ => C x) (fun x _ => G x)
theorem k30 {C : akT a30 → Bool} {G : akT a30 → List U.Cl × Bool} (hd : ∀ (a1 : List Cell) (a2 : Bool), C ((a1, a2, ()), ()) = true → (d30 a1 a2).val = some (G ((a1, a2, ()), ()))) (IO : ItOK Tryd.prog (E30) := by exact itOK_none rfl) (L : ∀ c, Tryd.f30.body = some c → LsOK (evI 2) ((E30).lend 0) c := by exact fun c _ => LsOK_none rfl c) : SpecOK Tryd.prog E0 30 (s30 C G) :=
  aspec_ok (ak := a30) (bl := b30) (e := e30) (c := fun x _ => C x) (g := fun x _ => G x) (E0 := E0) (E := E30) tab AG30 rfl rfl hm Tryd.func30 (by kernel_rfl) [PM.data link] (fun X Y H => by obtain ⟨⟨a1, ⟨a2, _⟩⟩, _⟩ := X; exact val_of (t30 a1 a2) (hd a1 a2 H)) IO L
abbrev w30 : FSpec := s30 (fun x => decide (List.length (α := Cell) x.1.1 ≤ 1048576)) fun x => (U.mend x.1.1, x.1.2.1)
theorem wk30 : SpecOK Tryd.prog E0 30 w30 := by
  refine k30 (fun l s H => ?_) (L := ls_ok (lcs := [lc Tryd.f30 0]) (rgs := []) (by kernel_rfl) (by kernel_rfl) L30 trivial)
  have hl : l.length ≤ 1048576 := of_decide_eq_true H
  show _ = some (U.mend l, s)
  simp only [d30, Tr.val, hl, decide_true, and_self, cond_true]
def live27 (key : Nat) : Lv :=
  bif Nat.beq key 3 then { ls := [2, 3, 15, 16, 17], wd := [⟨3, some 0, .row 48 celk⟩] } else bif Nat.beq key 1003 then { ls := [2, 3] } else
  { ls := [] }
abbrev M27 (ls : Nat → VS → Option (Tr (Ex × VS))) : Env := (E0.withFns []).loops live27 ls
@[reducible] def p27_0 : LP := { n := 37, sl := [.c (Leaf.ptr ( 0) ( 0)), .c (Leaf.ptr ( 1) ( 0)), .d (celk.sl), .d (.int .i64), .d (.int .i64)], bl := [(0, .box [.c (Leaf.nils), .d (Kd.bool)]), (1, .box [.c (Leaf.row ( 2)), .d (Kd.bool)]), (2, .row 48 (celk))] }
def B27_0 (x2 : List Cell) (x3 : Int) (x4 : Int) (h0_1 : Bool) (h1_1 : Bool) (h2 : List Cell) : Tr (p27_0.T ⊕ (Bool × Bool × List Cell)) :=
  let v1 : Int := ((↑(ByteArray.size (rget celk x2 x4).fst) : Int))
  let v2 : Int := (minI v1 (20 : Int))
  Tr.ite (decide (x4 < x3))
    (Tr.ite (inB x4 x2.length)
      (Tr.ite (decide ((0 : Int) ≤ v2 ∧ v2 ≤ v1))
        (Tr.ite (decide ((h2.length + (1 : Nat)) * (48 : Nat) ≤ (140737488355328 : Nat)))
          (Tr.ret (Sum.inl ((x2, x3, IntKind.i64.wrap (x4 + (1 : Int)), ()), (h0_1, ()), (h1_1, ()), h2 ++ [(ByteArray.extract (rget celk x2 x4).fst (0 : Nat) v2.toNat, (rget celk x2 x4).snd)], ())))
          Tr.fail)
        Tr.fail)
      Tr.fail)
    (Tr.ret (Sum.inr (h0_1, h1_1, h2)))
def X27_0 (r : (Bool × Bool × List Cell)) : Ex × VS := Prod.mk (Ex.exit ( 0)) { n := 37, v := [Slot.av (AV.one (Leaf.ptr ( 0) ( 0))), Slot.av (AV.one (Leaf.ptr ( 1) ( 0)))], h := [( 0, Blk.box [Leaf.nils, Leaf.dat Kd.bool r.fst]), ( 1, Blk.box [Leaf.row ( 2), Leaf.dat Kd.bool r.snd.fst]), ( 2, Blk.row ( 48) celk r.snd.snd)] }
def b27_0 : p27_0.T → Tr (p27_0.T ⊕ (Bool × Bool × List Cell)) := fun ⟨⟨x2, ⟨x3, ⟨x4, _⟩⟩⟩, ⟨⟨h0_1, _⟩, ⟨⟨h1_1, _⟩, ⟨h2, _⟩⟩⟩⟩ => B27_0 x2 x3 x4 h0_1 h1_1 h2
theorem h27_0 (ls : Nat → VS → Option (Tr (Ex × VS))) (x : p27_0.T) : (evC (evI 2) (lc Tryd.f27 0) (Env.lend (M27 ls) 0) (unV (live27 3) (p27_0.V x))).map (decL 0 (live27 3) (live27 1003)) = (b27_0 x).map (encR p27_0.V X27_0) := by
  obtain ⟨⟨x2, ⟨x3, ⟨x4, _⟩⟩⟩, ⟨⟨h0_1, _⟩, ⟨⟨h1_1, _⟩, ⟨h2, _⟩⟩⟩⟩ := x; kernel_rfl
theorem c27_0 (x : p27_0.T) : canV 0 (live27 3) (unV (live27 3) (p27_0.V x)) = p27_0.V x := by
  obtain ⟨⟨x2, ⟨x3, ⟨x4, _⟩⟩⟩, ⟨⟨h0_1, _⟩, ⟨⟨h1_1, _⟩, ⟨h2, _⟩⟩⟩⟩ := x; kernel_rfl
theorem l27_0 {T : p27_0.T → Tr (Bool × Bool × List Cell)} {ls : Nat → VS → Option (Tr (Ex × VS))} (hls : ∀ x, (Env.lend (M27 ls) 0).ls 3 x = p27_0.ls (fun a => (T a).map X27_0) x) (hS : ∀ x r, (T x).val = some r → Rounds b27_0 x r) : LoopOK (evI 2) (Env.lend (M27 ls) 0) (lc Tryd.f27 0) :=
  loopA 3 (live27 3) (live27 1003) p27_0 b27_0 X27_0 T (by kernel_rfl) rfl rfl hls (h27_0 ls) c27_0 hS
def T27 (x : p27_0.T) : Tr (Bool × Bool × List Cell) :=
  .ite (decide ((x.1.2.1 : Int) = (List.length (α := Cell) x.1.1 : Int) ∧ (x.1.2.2.1 : Int) = 0 ∧ List.length (α := Cell) x.2.2.2.1 + List.length (α := Cell) x.1.1 ≤ 1048576))
    (.ret (x.2.1.1, x.2.2.1.1, x.2.2.2.1 ++ List.map (α := Cell) (β := Cell) U.cutC x.1.1)) .fail
abbrev E27 : Env := M27 fun key x => bif Nat.beq key 3 then p27_0.ls (fun a => (T27 a).map X27_0) x else none
theorem L27 : LoopOK (evI 2) (E27.lend 0) (lc Tryd.f27 0) := by
  refine l27_0 (T := T27) (fun x => rfl) ?_
  rintro ⟨⟨l, n, i, z⟩, ⟨h0, z0⟩, ⟨h1, z1⟩, h2, z2⟩ r h
  obtain ⟨g1, g2⟩ := pre_val h
  obtain ⟨e1, e2, e3⟩ := of_decide_eq_true g1
  dsimp only at e1 e2 e3 g2
  subst e1; subst e2
  cases g2
  have := Rounds.fold0 (B := b27_0) (σ := List Cell) l (fun i s => ((l, (l.length : Int), (i : Int), ()), (h0, ()), (h1, ()), s, ())) (fun s c => s ++ [U.cutC c]) (fun s => (h0, h1, s)) (fun i s => s.length + (l.length - i) ≤ 1048576) h2 (by omega) (fun i s hi hv => ?_) (fun s hv => ?_)
  · have e : ∀ (l : List Cell) (a : List Cell), l.foldl (fun s c => s ++ [U.cutC c]) a = a ++ l.map U.cutC := by
      intro l
      induction l with
      | nil => intro a; simp
      | cons x l ih => intro a; rw [List.foldl_cons, ih]; simp
    rw [e] at this
    exact this
  · have e : rget celk l (i : Int) = l[i] := by rw [rgetC]; exact getD_el hi
    have e6 : minI (l[i].1.size : Int) 20 = ((min l[i].1.size 20 : Nat) : Int) := minI_nat _ 20
    have e7 : (0 : Int) ≤ ((min l[i].1.size 20 : Nat) : Int) ∧ ((min l[i].1.size 20 : Nat) : Int) ≤ (l[i].1.size : Int) := by omega
    have e8 : (s.length + 1) * 48 ≤ 140737488355328 := by omega
    refine ⟨?_, by simp only [List.length_append, List.length_singleton]; omega⟩
    simp only [b27_0, B27_0, Tr.val, e, e6, e7, e8, inB_nat hi, Int.toNat_natCast, List.length_singleton, show ((i : Int) < (l.length : Int)) by omega, and_self, decide_true, cond_true, wrap64_nat (show i ≤ 1048576 by omega)]
    rfl
  · simp only [b27_0, B27_0, Tr.val, show ¬ ((l.length : Int) < (l.length : Int)) by omega, decide_false, cond_false]
def d27 (a1 : List Cell) (a2 : Bool) : Tr (List Cell × Bool) :=
  let v1 : Int := ((↑a1.length : Int))
  let v2 : Int := (minI v1 (82 : Int))
  let v3 : List Cell := (sub a1 (0 : Nat) v2.toNat)
  let v4 : Int := ((↑v3.length : Int))
  let v5 : Int := ((↑v3.length : Int))
  Tr.ite (decide ((0 : Int) ≤ v2 ∧ v2 ≤ v1)) (Tr.ite (decide (v5 = v4 ∧ (0 : Int) = (0 : Int) ∧ (0 : Nat) + v3.length ≤ (1048576 : Nat))) (Tr.ret (List.map U.cutC v3, a2)) Tr.fail) Tr.fail
def e27 (r : List Cell × Bool) : FRes := { rs := Slot.av (AV.agg [Leaf.dat celk.sl r.fst, Leaf.dat Kd.bool r.snd]), upd := [], new := [] }
@[reducible] def a27 : List AK := [AK.d link]
@[reducible] def b27 : List BK := []
theorem t27 (a1 : List Cell) (a2 : Bool) : evFn (E27) Tryd.f27 [PM.data link] (akAV a27 ((a1, a2, ()), ())) (bkBs b27 ()) = (d27 a1 a2).map e27 := by kernel_rfl
def s27' (G : akT a27 → List Cell × Bool) : FSpec := aspec0 a27 b27 e27 (fun x _ => G x)
theorem k27' {G : akT a27 → List Cell × Bool} (hd : ∀ (a1 : List Cell) (a2 : Bool), (d27 a1 a2).val = some (G ((a1, a2, ()), ()))) (IO : ItOK Tryd.prog (E27) := by exact itOK_none rfl) (L : ∀ c, Tryd.f27.body = some c → LsOK (evI 2) ((E27).lend 0) c := by exact fun c _ => LsOK_none rfl c) : SpecOK Tryd.prog E0 27 (s27' G) :=
  aspec0_ok (ak := a27) (bl := b27) (e := e27) (g := fun x _ => G x) (E0 := E0) (E := E27) tab .nil rfl rfl hm Tryd.func27 (by kernel_rfl) [PM.data link] (fun X Y => by obtain ⟨⟨a1, ⟨a2, _⟩⟩, _⟩ := X; exact val_of (t27 a1 a2) (hd a1 a2)) IO L
abbrev w27 : FSpec := s27' fun x => (U.cutL x.1.1, x.1.2.1)
theorem wk27 : SpecOK Tryd.prog E0 27 w27 := by
  refine k27' (fun l s => ?_) (L := ls_ok (lcs := [lc Tryd.f27 0]) (rgs := []) (by kernel_rfl) (by kernel_rfl) L27 trivial)
  show _ = some (U.cutL l, s)
  have e6 : minI (l.length : Int) 82 = ((min l.length 82 : Nat) : Int) := minI_nat _ 82
  have e7 : (0 : Int) ≤ ((min l.length 82 : Nat) : Int) ∧ ((min l.length 82 : Nat) : Int) ≤ (l.length : Int) := by omega
  have e9 : sub l 0 (min l.length 82) = l.take 82 := by
    unfold sub
    rw [List.drop_zero]
    rcases Nat.le_total l.length 82 with h | h
    · rw [Nat.min_eq_left h, List.take_length, List.take_of_length_le h]
    · rw [Nat.min_eq_right h]
  have e10 : 0 + (l.take 82).length ≤ 1048576 := by rw [List.length_take]; omega
  simp only [d27, Tr.val, e6, e7, e9, e10, Int.toNat_natCast, List.length_nil, and_self, decide_true, cond_true, List.nil_append]
  rfl
def d179 (a : Int) (b : Int) : Tr (Int × Int) :=
  let v1 : Int := (b.fdiv (4294967296 : Int))
  let v2 : Int := (a.fdiv (4294967296 : Int))
  let v3 : Int := ((↑(BitVec.ofInt (64 : Nat) a &&& BitVec.ofInt (64 : Nat) (4294967295 : Int)).toNat : Int))
  let v4 : Int := ((↑(BitVec.ofInt (64 : Nat) b &&& BitVec.ofInt (64 : Nat) (4294967295 : Int)).toNat : Int))
  let v5 : Int := (v2 * IntKind.u64.wrap v4)
  let v6 : Int := (IntKind.u64.wrap v3 * IntKind.u64.wrap v4)
  let v7 : Int := ((IntKind.u64.wrap v6).fdiv (4294967296 : Int))
  let v8 : Int := (IntKind.u64.wrap v5 + v7)
  Tr.ite true
    (Tr.ite true
      (Tr.ite true
        (Tr.ite true
          (Tr.ite true
            (Tr.ret
              (IntKind.u64.wrap
                  (IntKind.u64.wrap (IntKind.u64.wrap (v2 * v1) + (IntKind.u64.wrap v8).fdiv (4294967296 : Int)) +
                    (IntKind.u64.wrap
                          (IntKind.u64.wrap (↑(BitVec.ofInt (64 : Nat) (IntKind.u64.wrap v8) &&& BitVec.ofInt (64 : Nat) (4294967295 : Int)).toNat : Int) +
                            IntKind.u64.wrap (IntKind.u64.wrap v3 * v1))).fdiv
                      (4294967296 : Int)),
                IntKind.u64.wrap (a * b)))
            Tr.fail)
          Tr.fail)
        Tr.fail)
      Tr.fail)
    Tr.fail
def e179 (r : Int × Int) : FRes := { rs := Slot.tup [AV.one (Leaf.dat (Kd.int IntKind.u64) r.fst), AV.one (Leaf.dat (Kd.int IntKind.u64) r.snd)], upd := [], new := [] }
@[reducible] def a179 : List AK := [AK.d (Kd.int IntKind.u64), AK.d (Kd.int IntKind.u64)]
@[reducible] def b179 : List BK := []
theorem t179 (a : Int) (b : Int) : evFn (E0) Tryd.f179 [PM.data (Kd.int IntKind.u64), PM.data (Kd.int IntKind.u64)] (akAV a179 (a, b, ())) (bkBs b179 ()) = (d179 a b).map e179 := by kernel_rfl
def s179 (C : akT a179 → Bool) (G : akT a179 → Int × Int) : FSpec := aspec a179 b179 e179 (fun x _ => C x) (fun x _ => G x)
theorem k179 {C : akT a179 → Bool} {G : akT a179 → Int × Int} (hd : ∀ (a : Int) (b : Int), C (a, b, ()) = true → (d179 a b).val = some (G (a, b, ()))) (IO : ItOK Tryd.prog (E0) := by exact itOK_none rfl) (L : ∀ c, Tryd.f179.body = some c → LsOK (evI 2) ((E0).lend 0) c := by exact fun c _ => LsOK_none rfl c) : SpecOK Tryd.prog E0 179 (s179 C G) :=
  aspec_ok (ak := a179) (bl := b179) (e := e179) (c := fun x _ => C x) (g := fun x _ => G x) (E0 := E0) (E := E0) tab .nil rfl rfl hm Tryd.func179 (by kernel_rfl) [PM.data (Kd.int IntKind.u64), PM.data (Kd.int IntKind.u64)] (fun X Y H => by obtain ⟨a, ⟨b, _⟩⟩ := X; exact val_of (t179 a b) (hd a b H)) IO L
abbrev w179 : FSpec := s179 (fun x => decide ((x.1 : Int) = 1 ∧ 0 ≤ (x.2.1 : Int) ∧ (x.2.1 : Int) < 128)) fun x => ((0 : Int), x.2.1)
theorem wk179 : SpecOK Tryd.prog E0 179 w179 := by
  refine k179 fun a b H => ?_
  obtain ⟨h1, h2, h3⟩ := of_decide_eq_true H
  dsimp only at h1 h2 h3
  subst h1
  obtain ⟨n, rfl⟩ := Int.eq_ofNat_of_zero_le h2
  have hn : n < 128 := Int.ofNat_lt.1 h3
  have : ∀ m : Fin 128, (d179 1 (m.val : Int)).val = some ((0 : Int), (m.val : Int)) := by decide +kernel
  exact this ⟨n, hn⟩
def d172 (a : Int) (b : Int) : Tr (Int × Int) :=
  Tr.ite (decide (a = (1 : Int) ∧ (0 : Int) ≤ b ∧ b < (128 : Int))) (Tr.ret ((0 : Int), b)) Tr.fail
def e172 (r : Int × Int) : FRes := { rs := Slot.tup [AV.one (Leaf.dat (Kd.int IntKind.u64) r.fst), AV.one (Leaf.dat (Kd.int IntKind.u64) r.snd)], upd := [], new := [] }
@[reducible] def a172 : List AK := [AK.d (Kd.int IntKind.u64), AK.d (Kd.int IntKind.u64)]
@[reducible] def b172 : List BK := []
theorem t172 (a : Int) (b : Int) : evFn (E0.withFns [((179 : Nat), w179)]) Tryd.f172 [PM.data (Kd.int IntKind.u64), PM.data (Kd.int IntKind.u64)] (akAV a172 (a, b, ())) (bkBs b172 ()) = (d172 a b).map e172 := by kernel_rfl
def s172 (C : akT a172 → Bool) (G : akT a172 → Int × Int) : FSpec := aspec a172 b172 e172 (fun x _ => C x) (fun x _ => G x)
theorem k172 {C : akT a172 → Bool} {G : akT a172 → Int × Int} (hd : ∀ (a : Int) (b : Int), C (a, b, ()) = true → (d172 a b).val = some (G (a, b, ()))) (IO : ItOK Tryd.prog (E0.withFns [((179 : Nat), w179)]) := by exact itOK_none rfl) (L : ∀ c, Tryd.f172.body = some c → LsOK (evI 2) ((E0.withFns [((179 : Nat), w179)]).lend 0) c := by exact fun c _ => LsOK_none rfl c) : SpecOK Tryd.prog E0 172 (s172 C G) :=
  aspec_ok (ak := a172) (bl := b172) (e := e172) (c := fun x _ => C x) (g := fun x _ => G x) (E0 := E0) (E := E0.withFns [((179 : Nat), w179)]) tab (.cons wk179 .nil) rfl rfl hm Tryd.func172 (by kernel_rfl) [PM.data (Kd.int IntKind.u64), PM.data (Kd.int IntKind.u64)] (fun X Y H => by obtain ⟨a, ⟨b, _⟩⟩ := X; exact val_of (t172 a b) (hd a b H)) IO L
abbrev w172 : FSpec := s172 (fun x => decide ((x.1 : Int) = 1 ∧ 0 ≤ (x.2.1 : Int) ∧ (x.2.1 : Int) < 128)) fun x => ((0 : Int), x.2.1)
theorem wk172 : SpecOK Tryd.prog E0 172 w172 := by
  refine k172 fun a b H => ?_
  obtain ⟨h1, h2, h3⟩ := of_decide_eq_true H
  dsimp only at h1 h2 h3
  simp only [d172, Tr.val, h1, h2, h3, and_self, decide_true, cond_true]
def d121 (a1 : List Cell) (a2 : Bool) (h0_0 : Int) (h0_1 : List Line) : Tr (Bool × Int × List Line) :=
  let v1 : Int := ((↑a1.length : Int))
  Tr.ite (U.okc a1) (Tr.ret (!(U.fitC a1 && decide (v1 = h0_0)), h0_0, h0_1)) Tr.fail
def e121 (r : Bool × Int × List Line) : FRes := { rs := Slot.av (AV.one (Leaf.dat Kd.bool r.fst)), upd := [Blk.box [Leaf.dat (.int .i64) r.snd.fst, Leaf.dat link.sl r.snd.snd]], new := [] }
@[reducible] def a121 : List AK := [AK.d link, AK.c (Leaf.ptr (0 : Nat) (0 : Nat))]
@[reducible] def b121 : List BK := [BK.box [SK.d (.int .i64), SK.d link.sl]]
theorem t121 (a1 : List Cell) (a2 : Bool) (h0_0 : Int) (h0_1 : List Line) : evFn (E0.withFns [((31 : Nat), w31)]) Tryd.f121 [PM.data Kd.bool] (akAV a121 ((a1, a2, ()), ())) (bkBs b121 ((h0_0, h0_1, ()), ())) = (d121 a1 a2 h0_0 h0_1).map e121 := by kernel_rfl
def s121 (C : akT a121 → bksT b121 → Bool) (G : akT a121 → bksT b121 → Bool × Int × List Line) : FSpec := aspec a121 b121 e121 (C) (G)
theorem k121 {C : akT a121 → bksT b121 → Bool} {G : akT a121 → bksT b121 → Bool × Int × List Line} (hd : ∀ (a1 : List Cell) (a2 : Bool) (h0_0 : Int) (h0_1 : List Line), C ((a1, a2, ()), ()) ((h0_0, h0_1, ()), ()) = true → (d121 a1 a2 h0_0 h0_1).val = some (G ((a1, a2, ()), ()) ((h0_0, h0_1, ()), ()))) (IO : ItOK Tryd.prog (E0.withFns [((31 : Nat), w31)]) := by exact itOK_none rfl) (L : ∀ c, Tryd.f121.body = some c → LsOK (evI 2) ((E0.withFns [((31 : Nat), w31)]).lend 1) c := by exact fun c _ => LsOK_none rfl c) : SpecOK Tryd.prog E0 121 (s121 C G) :=
  aspec_ok (ak := a121) (bl := b121) (e := e121) (c := C) (g := G) (E0 := E0) (E := E0.withFns [((31 : Nat), w31)]) tab (.cons wk31 .nil) rfl rfl hm Tryd.func121 (by kernel_rfl) [PM.data Kd.bool] (fun X Y H => by obtain ⟨⟨a1, ⟨a2, _⟩⟩, _⟩ := X; obtain ⟨⟨h0_0, ⟨h0_1, _⟩⟩, _⟩ := Y; exact val_of (t121 a1 a2 h0_0 h0_1) (hd a1 a2 h0_0 h0_1 H)) IO L
end Go.Proofs.YtmnbcnhpklejcaaDoor
namespace U
def misfit (n : Int) (y : Ln) : Bool := !(fitC y.1 && decide ((y.1.length : Int) = n))
end U
namespace Go.Proofs.YtmnbcnhpklejcaaDoor
abbrev w121 : FSpec := s121 (fun x _ => U.okc x.1.1) fun x y => (U.misfit y.1.1 x.1, y.1.1, y.1.2.1)
theorem wk121 : SpecOK Tryd.prog E0 121 w121 := by
  refine k121 fun l s n g H => ?_
  have H : U.okc l = true := H
  simp only [d121, Tr.val, H, cond_true]
  rfl
namespace GR
def live131 (key : Nat) : Lv :=
  bif Nat.beq key 2 then { ls := [0, 1, 7, 8] } else bif Nat.beq key 1002 then { ls := [4] } else
  { ls := [] }
abbrev M131 (ls : Nat → VS → Option (Tr (Ex × VS))) : Env := (E0.withFns [(121, w121)]).loops live131 ls
@[reducible] def p131_0 : LP := { n := 19, sl := [.d (link.sl), .c (Leaf.fn ( 121) [0]), .d (.int .i64), .d (.int .i64)], bl := [(0, .box [.d (.int .i64), .d (link.sl)])] }
def B131_0 (x0 : List Line) (x2 : Int) (x3 : Int) (h0_0 : Int) (h0_1 : List Line) : Tr (p131_0.T ⊕ (Int × Int × List Line ⊕ Int × List Line)) :=
  Tr.ite (decide (x3 < x2))
    (Tr.ite (inB x3 x0.length)
      (Tr.ite (U.okc (rget link x0 x3).fst)
        (Tr.ite (U.misfit h0_0 (rget link x0 x3)) (Tr.ret (Sum.inr (Sum.inl (x3, h0_0, h0_1)))) (Tr.ret (Sum.inl ((x0, x2, IntKind.i64.wrap (x3 + (1 : Int)), ()), (h0_0, h0_1, ()), ())))) Tr.fail)
      Tr.fail)
    (Tr.ret (Sum.inr (Sum.inr (h0_0, h0_1))))
def X131_0 : (Int × Int × List Line ⊕ Int × List Line) → Ex × VS
  | (.inl r) => Prod.mk Ex.ret { n := 19, v := [Slot.av (AV.one (Leaf.dat (.int .i64) r.fst))], h := [( 0, Blk.box [Leaf.dat (.int .i64) r.snd.fst, Leaf.dat link.sl r.snd.snd])] }
  | (.inr r) => Prod.mk (Ex.exit ( 0)) { n := 19, v := [Slot.av (AV.one Leaf.undef)], h := [( 0, Blk.box [Leaf.dat (.int .i64) r.fst, Leaf.dat link.sl r.snd])] }
def b131_0 : p131_0.T → Tr (p131_0.T ⊕ (Int × Int × List Line ⊕ Int × List Line)) := fun ⟨⟨x0, ⟨x2, ⟨x3, _⟩⟩⟩, ⟨⟨h0_0, ⟨h0_1, _⟩⟩, _⟩⟩ => B131_0 x0 x2 x3 h0_0 h0_1
theorem h131_0 (ls : Nat → VS → Option (Tr (Ex × VS))) (x : p131_0.T) : (evC (evI 2) (lc Tryd.f131 0) (Env.lend (M131 ls) 1) (unV (live131 2) (p131_0.V x))).map (decL 1 (live131 2) (live131 1002)) = (b131_0 x).map (encR p131_0.V X131_0) := by
  obtain ⟨⟨x0, ⟨x2, ⟨x3, _⟩⟩⟩, ⟨⟨h0_0, ⟨h0_1, _⟩⟩, _⟩⟩ := x; kernel_rfl
theorem c131_0 (x : p131_0.T) : canV 1 (live131 2) (unV (live131 2) (p131_0.V x)) = p131_0.V x := by
  obtain ⟨⟨x0, ⟨x2, ⟨x3, _⟩⟩⟩, ⟨⟨h0_0, ⟨h0_1, _⟩⟩, _⟩⟩ := x; kernel_rfl
theorem l131_0 {T : p131_0.T → Tr (Int × Int × List Line ⊕ Int × List Line)} {ls : Nat → VS → Option (Tr (Ex × VS))} (hls : ∀ x, (Env.lend (M131 ls) 1).ls 2 x = p131_0.ls (fun a => (T a).map X131_0) x) (hS : ∀ x r, (T x).val = some r → Rounds b131_0 x r) : LoopOK (evI 2) (Env.lend (M131 ls) 1) (lc Tryd.f131 0) :=
  loopA 2 (live131 2) (live131 1002) p131_0 b131_0 X131_0 T (by kernel_rfl) rfl rfl hls (h131_0 ls) c131_0 hS
def T131 (x : p131_0.T) : Tr (Int × Int × List Line ⊕ Int × List Line) :=
  .ite (decide ((x.1.2.1 : Int) = (List.length (α := Line) x.1.1 : Int) ∧ (x.1.2.2.1 : Int) = 0) && U.okl x.1.1)
    (.ite (findN (fun i => U.misfit x.2.1.1 (List.getD (α := Line) x.1.1 i U.dL)) (List.length (α := Line) x.1.1) 0).isSome (.ret (.inl ((((findN (fun i => U.misfit x.2.1.1 (List.getD (α := Line) x.1.1 i U.dL)) (List.length (α := Line) x.1.1) 0).getD 0 : Nat) : Int), x.2.1.1, x.2.1.2.1))) (.ret (.inr (x.2.1.1, x.2.1.2.1)))) .fail
abbrev E131 : Env := M131 fun key x => bif Nat.beq key 2 then p131_0.ls (fun a => (T131 a).map X131_0) x else none
theorem L131 : LoopOK (evI 2) (E131.lend 1) (lc Tryd.f131 0) := by
  refine l131_0 (T := T131) (fun x => rfl) ?_
  rintro ⟨⟨l, n, i, z⟩, ⟨c, g, z1⟩, z2⟩ r h
  obtain ⟨h1, h2⟩ := pre_val h
  rw [Bool.and_eq_true] at h1
  obtain ⟨h1, hok⟩ := h1
  obtain ⟨e1, e2⟩ := of_decide_eq_true h1
  dsimp only at e1 e2 hok h2
  subst e1
  subst e2
  have hl := U.okl_len hok
  have := Rounds.find (B := b131_0) (N := l.length) (fun i => ((l, (l.length : Int), (i : Int), ()), (c, g, ()), ())) (fun i => U.misfit c (l.getD i U.dL)) (fun i => .inl ((i : Int), c, g)) (.inr (c, g)) (fun i hi => ?_) ?_
  · cases hf : findN (fun i => U.misfit c (l.getD i U.dL)) l.length 0 <;> simp only [hf, Tr.val, Option.isSome_none, Option.isSome_some, Option.getD_some, cond_true, cond_false, outN] at h2 this <;> cases h2 <;> exact this
  · have h3 := U.okl_at hok hi
    simp only [b131_0, B131_0, Tr.val, inB_nat hi, rgetL, h3, show ((i : Int) < (l.length : Int)) by omega, decide_true, cond_true, wrap64_nat (show i ≤ 1048576 by omega)]
    cases U.misfit c (l.getD i U.dL) <;> rfl
  · simp only [b131_0, B131_0, Tr.val, show ¬ ((l.length : Int) < (l.length : Int)) by omega, decide_false, cond_false]
def d131 (a : List Line) (h0_0 : Int) (h0_1 : List Line) : Tr (Int × Int × List Line) :=
  let v1 : Int := ((↑a.length : Int))
  let v2 : Int := ((↑a.length : Int))
  Tr.ite (decide (v2 = v1 ∧ (0 : Int) = (0 : Int)) && U.okl a)
    (Tr.ite (findN (fun (i : Nat) => U.misfit h0_0 (a.getD i U.dL)) a.length (0 : Nat)).isSome
      (Tr.ret ((↑((findN (fun (i : Nat) => U.misfit h0_0 (a.getD i U.dL)) a.length (0 : Nat)).getD (0 : Nat)) : Int), h0_0, h0_1)) (Tr.ret ((-1 : Int), h0_0, h0_1)))
    Tr.fail
def e131 (r : Int × Int × List Line) : FRes := { rs := Slot.av (AV.one (Leaf.dat (.int .i64) r.fst)), upd := [Blk.box [Leaf.dat (.int .i64) r.snd.fst, Leaf.dat link.sl r.snd.snd]], new := [] }
@[reducible] def a131 : List AK := [AK.d link.sl, AK.c (Leaf.fn (121 : FuncId) [(0 : Nat)])]
@[reducible] def b131 : List BK := [BK.box [SK.d (.int .i64), SK.d link.sl]]
theorem t131 (a : List Line) (h0_0 : Int) (h0_1 : List Line) : evFn (E131) Tryd.f131 [PM.data (.int .i64)] (akAV a131 (a, ())) (bkBs b131 ((h0_0, h0_1, ()), ())) = (d131 a h0_0 h0_1).map e131 := by kernel_rfl
def s131 (C : akT a131 → bksT b131 → Bool) (G : akT a131 → bksT b131 → Int × Int × List Line) : FSpec := aspec a131 b131 e131 (C) (G)
theorem k131 {C : akT a131 → bksT b131 → Bool} {G : akT a131 → bksT b131 → Int × Int × List Line} (hd : ∀ (a : List Line) (h0_0 : Int) (h0_1 : List Line), C (a, ()) ((h0_0, h0_1, ()), ()) = true → (d131 a h0_0 h0_1).val = some (G (a, ()) ((h0_0, h0_1, ()), ()))) (IO : ItOK Tryd.prog (E131) := by exact itOK_none rfl) (L : ∀ c, Tryd.f131.body = some c → LsOK (evI 2) ((E131).lend 1) c := by exact fun c _ => LsOK_none rfl c) : SpecOK Tryd.prog E0 131 (s131 C G) :=
  aspec_ok (ak := a131) (bl := b131) (e := e131) (c := C) (g := G) (E0 := E0) (E := E131) tab (.cons wk121 .nil) rfl rfl hm Tryd.func131 (by kernel_rfl) [PM.data (.int .i64)] (fun X Y H => by obtain ⟨a, _⟩ := X; obtain ⟨⟨h0_0, ⟨h0_1, _⟩⟩, _⟩ := Y; exact val_of (t131 a h0_0 h0_1) (hd a h0_0 h0_1 H)) IO L
abbrev w131 : FSpec := s131 (fun x _ => U.okl x.1) fun x y => (optI' (findN (fun i => U.misfit y.1.1 (List.getD (α := Line) x.1 i U.dL)) (List.length (α := Line) x.1) 0), y.1.1, y.1.2.1)
theorem wk131 : SpecOK Tryd.prog E0 131 w131 := by
  refine k131 (fun l n g H => ?_) (L := ls_ok (lcs := [lc Tryd.f131 0]) (rgs := []) (by kernel_rfl) (by kernel_rfl) L131 trivial)
  have H : U.okl l = true := H
  simp only [d131, Tr.val, H, and_self, decide_true, Bool.and_self, cond_true]
  cases findN (fun i => U.misfit n (l.getD i U.dL)) l.length 0 <;> rfl
def d79 (a : List Line) (h0_0 : Int) (h0_1 : List Line) : Tr (Bool × Int × List Line) :=
  let v1 : Int := (optI' (findN (fun (i : Nat) => U.misfit h0_0 (a.getD i U.dL)) a.length (0 : Nat)))
  Tr.ite (U.okl a) (Tr.ret (decide ((0 : Int) ≤ v1), h0_0, h0_1)) Tr.fail
def e79 (r : Bool × Int × List Line) : FRes := { rs := Slot.av (AV.one (Leaf.dat Kd.bool r.fst)), upd := [Blk.box [Leaf.dat (.int .i64) r.snd.fst, Leaf.dat link.sl r.snd.snd]], new := [] }
@[reducible] def a79 : List AK := [AK.d link.sl, AK.c (Leaf.fn (121 : FuncId) [(0 : Nat)])]
@[reducible] def b79 : List BK := [BK.box [SK.d (.int .i64), SK.d link.sl]]
theorem t79 (a : List Line) (h0_0 : Int) (h0_1 : List Line) : evFn (E0.withFns [((131 : Nat), w131)]) Tryd.f79 [PM.data Kd.bool] (akAV a79 (a, ())) (bkBs b79 ((h0_0, h0_1, ()), ())) = (d79 a h0_0 h0_1).map e79 := by kernel_rfl
def s79 (C : akT a79 → bksT b79 → Bool) (G : akT a79 → bksT b79 → Bool × Int × List Line) : FSpec := aspec a79 b79 e79 (C) (G)
theorem k79 {C : akT a79 → bksT b79 → Bool} {G : akT a79 → bksT b79 → Bool × Int × List Line} (hd : ∀ (a : List Line) (h0_0 : Int) (h0_1 : List Line), C (a, ()) ((h0_0, h0_1, ()), ()) = true → (d79 a h0_0 h0_1).val = some (G (a, ()) ((h0_0, h0_1, ()), ()))) (IO : ItOK Tryd.prog (E0.withFns [((131 : Nat), w131)]) := by exact itOK_none rfl) (L : ∀ c, Tryd.f79.body = some c → LsOK (evI 2) ((E0.withFns [((131 : Nat), w131)]).lend 1) c := by exact fun c _ => LsOK_none rfl c) : SpecOK Tryd.prog E0 79 (s79 C G) :=
  aspec_ok (ak := a79) (bl := b79) (e := e79) (c := C) (g := G) (E0 := E0) (E := E0.withFns [((131 : Nat), w131)]) tab (.cons wk131 .nil) rfl rfl hm Tryd.func79 (by kernel_rfl) [PM.data Kd.bool] (fun X Y H => by obtain ⟨a, _⟩ := X; obtain ⟨⟨h0_0, ⟨h0_1, _⟩⟩, _⟩ := Y; exact val_of (t79 a h0_0 h0_1) (hd a h0_0 h0_1 H)) IO L
abbrev w79 : FSpec := s79 (fun x _ => U.okl x.1) fun x y => (List.any (α := Line) x.1 (U.misfit y.1.1), y.1.1, y.1.2.1)
theorem wk79 : SpecOK Tryd.prog E0 79 w79 := by
  refine k79 fun l n g H => ?_
  have H : U.okl l = true := H
  show _ = some (l.any (U.misfit n), n, g)
  rw [← find_any (U.misfit n) U.dL l]
  simp only [d79, Tr.val, H, cond_true]
  cases findN (fun i => U.misfit n (l.getD i U.dL)) l.length 0 <;> simp [optI']
end GR
abbrev G67 : List (Nat × FSpec) := [(93, w93), (79, GR.w79)]
theorem AG67 : AllFn Tryd.prog E0 G67 := .cons wk93 (.cons GR.wk79 .nil)
abbrev gridk : Kd := .pr (.int .i64) (.pr (.sl link) .un)
def d67 (a1 : Int) (a2 : List Line) : Tr (Bool) :=
  Tr.ite (U.inn a1 (1 : Int) (80 : Int)) (Tr.ite (U.inn (↑a2.length : Int) (1 : Int) (50 : Int)) (Tr.ite (U.okl a2) (Tr.ret !a2.any (U.misfit a1)) Tr.fail) (Tr.ret false)) (Tr.ret false)
def e67 (r : Bool) : FRes := { rs := Slot.av (AV.one (Leaf.dat Kd.bool r)), upd := [], new := [] }
@[reducible] def a67 : List AK := [AK.d gridk]
@[reducible] def b67 : List BK := []
theorem t67 (a1 : Int) (a2 : List Line) : evFn (E0.withFns G67) Tryd.f67 [PM.data Kd.bool] (akAV a67 ((a1, a2, ()), ())) (bkBs b67 ()) = (d67 a1 a2).map e67 := by kernel_rfl
def s67 (C : akT a67 → Bool) (G : akT a67 → Bool) : FSpec := aspec a67 b67 e67 (fun x _ => C x) (fun x _ => G x)
theorem k67 {C : akT a67 → Bool} {G : akT a67 → Bool} (hd : ∀ (a1 : Int) (a2 : List Line), C ((a1, a2, ()), ()) = true → (d67 a1 a2).val = some (G ((a1, a2, ()), ()))) (IO : ItOK Tryd.prog (E0.withFns G67) := by exact itOK_none rfl) (L : ∀ c, Tryd.f67.body = some c → LsOK (evI 2) ((E0.withFns G67).lend 0) c := by exact fun c _ => LsOK_none rfl c) : SpecOK Tryd.prog E0 67 (s67 C G) :=
  aspec_ok (ak := a67) (bl := b67) (e := e67) (c := fun x _ => C x) (g := fun x _ => G x) (E0 := E0) (E := E0.withFns G67) tab AG67 rfl rfl hm Tryd.func67 (by kernel_rfl) [PM.data Kd.bool] (fun X Y H => by obtain ⟨⟨a1, ⟨a2, _⟩⟩, _⟩ := X; exact val_of (t67 a1 a2) (hd a1 a2 H)) IO L
end Go.Proofs.YtmnbcnhpklejcaaDoor
namespace U
def gridR (c : Int) (l : List Ln) : Bool := inn c 1 80 && (inn (l.length : Int) 1 50 && !l.any (misfit c))
end U
namespace Go.Proofs.YtmnbcnhpklejcaaDoor
abbrev w67 : FSpec := s67 (fun x => U.okl x.1.2.1) fun x => U.gridR x.1.1 x.1.2.1
theorem wk67 : SpecOK Tryd.prog E0 67 w67 := by
  refine k67 fun c l H => ?_
  have H : U.okl l = true := H
  show _ = some (U.gridR c l)
  unfold U.gridR
  cases h1 : U.inn c 1 80 <;> cases h2 : U.inn (l.length : Int) 1 50 <;> simp only [d67, Tr.val, h1, h2, H, cond_true, cond_false, Bool.true_and, Bool.false_and]
def d90 (a1 : Int) (a2 : List Line) (b : Int) (c : Int) : Tr (Bool) :=
  Tr.ite (U.okl a2)
    (Tr.ite (U.gridR a1 a2) (Tr.ite (U.inn b (0 : Int) (IntKind.i64.wrap ((↑a2.length : Int) - (1 : Int)))) (Tr.ret (U.inn c (0 : Int) (IntKind.i64.wrap (a1 - (1 : Int))))) (Tr.ret false))
      (Tr.ret false))
    Tr.fail
def e90 (r : Bool) : FRes := { rs := Slot.av (AV.one (Leaf.dat Kd.bool r)), upd := [], new := [] }
@[reducible] def a90 : List AK := [AK.d gridk, AK.d (.int .i64), AK.d (.int .i64)]
@[reducible] def b90 : List BK := []
theorem t90 (a1 : Int) (a2 : List Line) (b : Int) (c : Int) : evFn (E0.withFns [((67 : Nat), w67), ((93 : Nat), w93)]) Tryd.f90 [PM.data Kd.bool] (akAV a90 ((a1, a2, ()), b, c, ())) (bkBs b90 ()) = (d90 a1 a2 b c).map e90 := by kernel_rfl
def s90 (C : akT a90 → Bool) (G : akT a90 → Bool) : FSpec := aspec a90 b90 e90 (fun x _ => C x) (fun x _ => G x)
theorem k90 {C : akT a90 → Bool} {G : akT a90 → Bool} (hd : ∀ (a1 : Int) (a2 : List Line) (b : Int) (c : Int), C ((a1, a2, ()), b, c, ()) = true → (d90 a1 a2 b c).val = some (G ((a1, a2, ()), b, c, ()))) (IO : ItOK Tryd.prog (E0.withFns [((67 : Nat), w67), ((93 : Nat), w93)]) := by exact itOK_none rfl) (L : ∀ c, Tryd.f90.body = some c → LsOK (evI 2) ((E0.withFns [((67 : Nat), w67), ((93 : Nat), w93)]).lend 0) c := by exact fun c _ => LsOK_none rfl c) : SpecOK Tryd.prog E0 90 (s90 C G) :=
  aspec_ok (ak := a90) (bl := b90) (e := e90) (c := fun x _ => C x) (g := fun x _ => G x) (E0 := E0) (E := E0.withFns [((67 : Nat), w67), ((93 : Nat), w93)]) tab (.cons wk67 (.cons wk93 .nil)) rfl rfl hm Tryd.func90 (by kernel_rfl) [PM.data Kd.bool] (fun X Y H => by obtain ⟨⟨a1, ⟨a2, _⟩⟩, ⟨b, ⟨c, _⟩⟩⟩ := X; exact val_of (t90 a1 a2 b c) (hd a1 a2 b c H)) IO L
end Go.Proofs.YtmnbcnhpklejcaaDoor
namespace U
def place (c : Int) (l : List Ln) (row col : Int) : Bool := gridR c l && (inn row 0 ((l.length : Int) - 1) && inn col 0 (c - 1))
theorem gridR_cols {c : Int} {l : List Ln} (h : gridR c l = true) : 1 ≤ c ∧ c ≤ 80 ∧ 1 ≤ l.length ∧ l.length ≤ 50 := by
  unfold gridR inn at h
  simp only [Bool.and_eq_true, decide_eq_true_eq] at h
  omega
end U
namespace Go.Proofs.YtmnbcnhpklejcaaDoor
abbrev w90 : FSpec := s90 (fun x => U.okl x.1.2.1) fun x => U.place x.1.1 x.1.2.1 x.2.1 x.2.2.1
theorem wk90 : SpecOK Tryd.prog E0 90 w90 := by
  refine k90 fun c l row col H => ?_
  have H : U.okl l = true := H
  show _ = some (U.place c l row col)
  unfold U.place
  cases h0 : U.gridR c l with
  | false => simp only [d90, Tr.val, H, h0, cond_true, cond_false, Bool.false_and]
  | true =>
    obtain ⟨a1, a2, a3, a4⟩ := U.gridR_cols h0
    have e1 : IntKind.i64.wrap ((l.length : Int) - 1) = (l.length : Int) - 1 := w64 (by omega) (by omega)
    have e2 : IntKind.i64.wrap (c - 1) = c - 1 := w64 (by omega) (by omega)
    cases h1 : U.inn row 0 ((l.length : Int) - 1) <;> cases h2 : U.inn col 0 (c - 1) <;> simp only [d90, Tr.val, h0, h1, h2, H, e1, e2, cond_true, cond_false, Bool.true_and, Bool.false_and, Bool.and_false]
def d92 (h0 : List Cell) (h1_0 : ByteArray) (h1_1 : Int) (h1_2 : Int) (h1_3 : Int) (h1_4 : Int) (h2_0 : Int) : Tr (List Cell × ByteArray × Int × Int × Int × Int × Int) :=
  let v1 : Int := (h2_0 + (1 : Int))
  let v2 : List Cell := (h0.set h2_0.toNat (h1_0, h1_1, (h1_2, h1_3, h1_4, ()), ()))
  Tr.ite (inB h2_0 h0.length)
    (Tr.ite (decide (h1_1 = (2 : Int)))
      (Tr.ite (inB (IntKind.i64.wrap v1) v2.length) (Tr.ret (v2.set (IntKind.i64.wrap v1).toNat (ByteArray.empty, (0 : Int), (h1_2, h1_3, h1_4, ()), ()), h1_0, h1_1, h1_2, h1_3, h1_4, h2_0)) Tr.fail)
      (Tr.ret (v2, h1_0, h1_1, h1_2, h1_3, h1_4, h2_0)))
    Tr.fail
def e92 (r : List Cell × ByteArray × Int × Int × Int × Int × Int) : FRes := { rs := Slot.tup [], upd := [Blk.row ( 48) celk r.fst, Blk.box [Leaf.dat Kd.str r.snd.fst, Leaf.dat (.int .i64) r.snd.snd.fst, Leaf.dat (.int .i64) r.snd.snd.snd.fst, Leaf.dat (.int .i64) r.snd.snd.snd.snd.fst, Leaf.dat (.int .i64) r.snd.snd.snd.snd.snd.fst], Blk.box [Leaf.dat (.int .i64) r.snd.snd.snd.snd.snd.snd]], new := [] }
@[reducible] def a92 : List AK := [AK.c (Leaf.row (0 : Nat)), AK.c (Leaf.ptr (1 : Nat) (0 : Nat)), AK.c (Leaf.ptr (2 : Nat) (0 : Nat))]
@[reducible] def b92 : List BK := [BK.row (48 : TypeId) celk, BK.box [SK.d Kd.str, SK.d (.int .i64), SK.d (.int .i64), SK.d (.int .i64), SK.d (.int .i64)], BK.box [SK.d (.int .i64)]]
theorem t92 (h0 : List Cell) (h1_0 : ByteArray) (h1_1 : Int) (h1_2 : Int) (h1_3 : Int) (h1_4 : Int) (h2_0 : Int) : evFn (E0) Tryd.f92 [] (akAV a92 ()) (bkBs b92 (h0, (h1_0, h1_1, h1_2, h1_3, h1_4, ()), (h2_0, ()), ())) = (d92 h0 h1_0 h1_1 h1_2 h1_3 h1_4 h2_0).map e92 := by kernel_rfl
def s92 (C : akT a92 → bksT b92 → Bool) (G : akT a92 → bksT b92 → List Cell × ByteArray × Int × Int × Int × Int × Int) : FSpec := aspec a92 b92 e92 (C) (G)
theorem k92 {C : akT a92 → bksT b92 → Bool} {G : akT a92 → bksT b92 → List Cell × ByteArray × Int × Int × Int × Int × Int} (hd : ∀ (h0 : List Cell) (h1_0 : ByteArray) (h1_1 : Int) (h1_2 : Int) (h1_3 : Int) (h1_4 : Int) (h2_0 : Int), C () (h0, (h1_0, h1_1, h1_2, h1_3, h1_4, ()), (h2_0, ()), ()) = true → (d92 h0 h1_0 h1_1 h1_2 h1_3 h1_4 h2_0).val = some (G () (h0, (h1_0, h1_1, h1_2, h1_3, h1_4, ()), (h2_0, ()), ()))) (IO : ItOK Tryd.prog (E0) := by exact itOK_none rfl) (L : ∀ c, Tryd.f92.body = some c → LsOK (evI 2) ((E0).lend 3) c := by exact fun c _ => LsOK_none rfl c) : SpecOK Tryd.prog E0 92 (s92 C G) :=
  aspec_ok (ak := a92) (bl := b92) (e := e92) (c := C) (g := G) (E0 := E0) (E := E0) tab .nil rfl rfl hm Tryd.func92 (by kernel_rfl) [] (fun X Y H => by obtain ⟨h0, ⟨⟨h1_0, ⟨h1_1, ⟨h1_2, ⟨h1_3, ⟨h1_4, _⟩⟩⟩⟩⟩, ⟨⟨h2_0, _⟩, _⟩⟩⟩ := Y; exact val_of (t92 h0 h1_0 h1_1 h1_2 h1_3 h1_4 h2_0) (hd h0 h1_0 h1_1 h1_2 h1_3 h1_4 h2_0 H)) IO L
end Go.Proofs.YtmnbcnhpklejcaaDoor
namespace U
def putC (l : List Cl) (i : Nat) (c : Cl) : List Cl := if c.2.1 = 2 then (l.set i c).set (i + 1) (ByteArray.empty, 0, c.2.2.1, ()) else l.set i c
def setL (ls : List Ln) (r : Nat) (f : List Cl → List Cl) : List Ln := ls.set r (mend (f (ls.getD r dL).1), (ls.getD r dL).2)
end U
namespace Go.Proofs.YtmnbcnhpklejcaaDoor
abbrev putOK (col : Int) (n : Nat) (w : Int) : Bool := decide (0 ≤ col ∧ col < (n : Int) ∧ (w = 2 → col + 1 < (n : Int)) ∧ n ≤ 1048576)
abbrev w92 : FSpec := s92 (fun _ y => putOK y.2.2.1.1 (List.length (α := Cell) y.1) y.2.1.2.1)
  fun _ y => (U.putC y.1 y.2.2.1.1.toNat (y.2.1.1, y.2.1.2.1, (y.2.1.2.2.1, y.2.1.2.2.2.1, y.2.1.2.2.2.2.1, ()), ()), y.2.1.1, y.2.1.2.1, y.2.1.2.2.1, y.2.1.2.2.2.1, y.2.1.2.2.2.2.1, y.2.2.1.1)
theorem wk92 : SpecOK Tryd.prog E0 92 w92 := by
  refine k92 fun l t w a b c col H => ?_
  obtain ⟨h1, h2, h3, h4⟩ := of_decide_eq_true H
  dsimp only at h1 h2 h3 h4
  obtain ⟨n, rfl⟩ := Int.eq_ofNat_of_zero_le h1
  have hn : n < l.length := Int.ofNat_lt.1 h2
  have w1 : IntKind.i64.wrap ((n : Int) + 1) = ((n + 1 : Nat) : Int) := wrap64_nat (by omega)
  show _ = some (U.putC l n (t, w, (a, b, c, ()), ()), t, w, a, b, c, (n : Int))
  unfold U.putC
  by_cases hw : w = 2
  · have i1 : inB ((n + 1 : Nat) : Int) (l.set n (t, w, (a, b, c, ()), ())).length = true := by rw [List.length_set]; exact inB_nat (by have := h3 hw; omega)
    simp only [d92, Tr.val, inB_nat hn, hw, w1, Int.toNat_natCast, decide_true, cond_true, if_true]
    subst hw
    rw [i1]
    rfl
  · simp only [d92, Tr.val, inB_nat hn, hw, decide_false, cond_true, cond_false, if_false]
    rfl
namespace P
abbrev G91 : List (Nat × FSpec) := [(97, w97), (86, w86), (92, w92), (30, w30)]
theorem AG91 : AllFn Tryd.prog E0 G91 := .cons wk97 (.cons wk86 (.cons wk92 (.cons wk30 .nil)))
def d91 (a1 : Int) (a2 : List Line) (b : Int) (h0_0 : ByteArray) (h0_1 : Int) (h0_2 : Int) (h0_3 : Int) (h0_4 : Int) (h1_0 : Int) : Tr (Int × List Line × Int × ByteArray × Int × Int × Int × Int × Int) :=
  let v1 : List U.Cl := (U.putC (a2.getD b.toNat link.dflt).fst h1_0.toNat (h0_0, h0_1, (h0_2, h0_3, h0_4, ()), ()))
  Tr.ite (decide (a2.length ≤ (1048576 : Nat)))
    (Tr.ite (inB b a2.length)
      (Tr.ite (decide (List.length (a2.getD b.toNat link.dflt).fst ≤ (1048576 : Nat)))
        (Tr.ite (putOK h1_0 (List.length (a2.getD b.toNat link.dflt).fst) h0_1)
          (Tr.ite (decide (v1.length ≤ (1048576 : Nat)))
            (Tr.ite (inB b a2.length) (Tr.ret (a1, a2.set b.toNat (U.mend v1, (a2.getD b.toNat link.dflt).snd), (0 : Int), h0_0, h0_1, h0_2, h0_3, h0_4, h1_0)) Tr.fail) Tr.fail)
          Tr.fail)
        Tr.fail)
      Tr.fail)
    Tr.fail
def e91 (r : Int × List Line × Int × ByteArray × Int × Int × Int × Int × Int) : FRes := { rs := Slot.tup [AV.agg [Leaf.dat (.int .i64) r.fst, Leaf.dat link.sl r.snd.fst], AV.one (Leaf.dat (.int .i64) r.snd.snd.fst)], upd := [Blk.box [Leaf.dat Kd.str r.snd.snd.snd.fst, Leaf.dat (.int .i64) r.snd.snd.snd.snd.fst, Leaf.dat (.int .i64) r.snd.snd.snd.snd.snd.fst, Leaf.dat (.int .i64) r.snd.snd.snd.snd.snd.snd.fst, Leaf.dat (.int .i64) r.snd.snd.snd.snd.snd.snd.snd.fst], Blk.box [Leaf.dat (.int .i64) r.snd.snd.snd.snd.snd.snd.snd.snd]], new := [] }
@[reducible] def a91 : List AK := [AK.d gridk, AK.d (.int .i64), AK.c (Leaf.fn (92 : FuncId) [(0 : Nat), (1 : Nat)])]
@[reducible] def b91 : List BK := [BK.box [SK.d Kd.str, SK.d (.int .i64), SK.d (.int .i64), SK.d (.int .i64), SK.d (.int .i64)], BK.box [SK.d (.int .i64)]]
theorem t91 (a1 : Int) (a2 : List Line) (b : Int) (h0_0 : ByteArray) (h0_1 : Int) (h0_2 : Int) (h0_3 : Int) (h0_4 : Int) (h1_0 : Int) : evFn (E0.withFns G91) Tryd.f91 [PM.data gridk, PM.data (.int .i64)] (akAV a91 ((a1, a2, ()), b, ())) (bkBs b91 ((h0_0, h0_1, h0_2, h0_3, h0_4, ()), (h1_0, ()), ())) = (d91 a1 a2 b h0_0 h0_1 h0_2 h0_3 h0_4 h1_0).map e91 := by kernel_rfl
def s91 (C : akT a91 → bksT b91 → Bool) (G : akT a91 → bksT b91 → Int × List Line × Int × ByteArray × Int × Int × Int × Int × Int) : FSpec := aspec a91 b91 e91 (C) (G)
theorem k91 {C : akT a91 → bksT b91 → Bool} {G : akT a91 → bksT b91 → Int × List Line × Int × ByteArray × Int × Int × Int × Int × Int} (hd : ∀ (a1 : Int) (a2 : List Line) (b : Int) (h0_0 : ByteArray) (h0_1 : Int) (h0_2 : Int) (h0_3 : Int) (h0_4 : Int) (h1_0 : Int), C ((a1, a2, ()), b, ()) ((h0_0, h0_1, h0_2, h0_3, h0_4, ()), (h1_0, ()), ()) = true → (d91 a1 a2 b h0_0 h0_1 h0_2 h0_3 h0_4 h1_0).val = some (G ((a1, a2, ()), b, ()) ((h0_0, h0_1, h0_2, h0_3, h0_4, ()), (h1_0, ()), ()))) (IO : ItOK Tryd.prog (E0.withFns G91) := by exact itOK_none rfl) (L : ∀ c, Tryd.f91.body = some c → LsOK (evI 2) ((E0.withFns G91).lend 2) c := by exact fun c _ => LsOK_none rfl c) : SpecOK Tryd.prog E0 91 (s91 C G) :=
  aspec_ok (ak := a91) (bl := b91) (e := e91) (c := C) (g := G) (E0 := E0) (E := E0.withFns G91) tab AG91 rfl rfl hm Tryd.func91 (by kernel_rfl) [PM.data gridk, PM.data (.int .i64)] (fun X Y H => by obtain ⟨⟨a1, ⟨a2, _⟩⟩, ⟨b, _⟩⟩ := X; obtain ⟨⟨h0_0, ⟨h0_1, ⟨h0_2, ⟨h0_3, ⟨h0_4, _⟩⟩⟩⟩⟩, ⟨⟨h1_0, _⟩, _⟩⟩ := Y; exact val_of (t91 a1 a2 b h0_0 h0_1 h0_2 h0_3 h0_4 h1_0) (hd a1 a2 b h0_0 h0_1 h0_2 h0_3 h0_4 h1_0 H)) IO L
abbrev w91 : FSpec := s91 (fun x y => decide (0 ≤ (x.2.1 : Int) ∧ (x.2.1 : Int) < (List.length (α := Line) x.1.2.1 : Int) ∧ List.length (α := Line) x.1.2.1 ≤ 1048576) && putOK y.2.1.1 (List.length (α := Cell) (List.getD (α := Line) x.1.2.1 x.2.1.toNat U.dL).1) y.1.2.1)
  fun x y => (x.1.1, U.setL x.1.2.1 x.2.1.toNat fun l => U.putC l y.2.1.1.toNat (y.1.1, y.1.2.1, (y.1.2.2.1, y.1.2.2.2.1, y.1.2.2.2.2.1, ()), ()), 0, y.1.1, y.1.2.1, y.1.2.2.1, y.1.2.2.2.1, y.1.2.2.2.2.1, y.2.1.1)
theorem wk91 : SpecOK Tryd.prog E0 91 w91 := by
  refine k91 fun n l row t w a b c col H => ?_
  have H : (decide (0 ≤ row ∧ row < (l.length : Int) ∧ l.length ≤ 1048576) && putOK col (l.getD row.toNat U.dL).1.length w) = true := H
  rw [Bool.and_eq_true] at H
  obtain ⟨H1, H2⟩ := H
  obtain ⟨h1, h2, h3⟩ := of_decide_eq_true H1
  obtain ⟨r, rfl⟩ := Int.eq_ofNat_of_zero_le h1
  have hr : r < l.length := Int.ofNat_lt.1 h2
  have g4 : (l.getD r U.dL).1.length ≤ 1048576 := (of_decide_eq_true H2).2.2.2
  have e0 : l.getD r link.dflt = l.getD r U.dL := rfl
  have e1 : ∀ (m : List U.Cl) c, (U.putC m col.toNat c).length = m.length := fun m c => by unfold U.putC; split <;> simp
  simp only [d91, Tr.val, Int.toNat_natCast, inB_nat hr, h3, e0, e1, g4, decide_true, cond_true] at H2 ⊢
  rw [H2]
  rfl
end P
def d33 (a1 : Int) (a2 : List Line) (b : Int) (c : Int) (y1 : ByteArray) (y2 : Int) (y31 : Int) (y32 : Int) (y33 : Int) : Tr (Int × List Line × Int) :=
  let v1 : Int := ((↑a2.length : Int))
  let v2 : List Cell := ((a2.getD b.toNat U.dL).fst)
  let v3 : Int := (a1 - (1 : Int))
  Tr.ite (U.okl a2)
    (Tr.ite (!U.place a1 a2 b c) (Tr.ret ((0 : Int), [], (1 : Int)))
      (Tr.ite (decide (y1.size ≤ (1048576 : Nat)))
        (Tr.ite (!U.cellR (y1, y2, (y31, y32, y33, ()), ())) (Tr.ret ((0 : Int), [], (1 : Int)))
          (Tr.ite (decide (y1 = { data := #[] })) (Tr.ret ((0 : Int), [], (1 : Int)))
            (Tr.ite (decide (y2 = (2 : Int)))
              (Tr.ite (decide (c = IntKind.i64.wrap v3)) (Tr.ret ((0 : Int), [], (9 : Int)))
                (Tr.ite (decide ((0 : Int) ≤ b ∧ b < v1 ∧ a2.length ≤ (1048576 : Nat)) && putOK c v2.length y2)
                  (Tr.ret (a1, U.setL a2 b.toNat fun (l : List U.Cl) => U.putC l c.toNat (y1, y2, (y31, y32, y33, ()), ()), (0 : Int))) Tr.fail))
              (Tr.ite (decide ((0 : Int) ≤ b ∧ b < v1 ∧ a2.length ≤ (1048576 : Nat)) && putOK c v2.length y2)
                (Tr.ret (a1, U.setL a2 b.toNat fun (l : List U.Cl) => U.putC l c.toNat (y1, y2, (y31, y32, y33, ()), ()), (0 : Int))) Tr.fail))))
        Tr.fail))
    Tr.fail
def e33 (r : Int × List Line × Int) : FRes := { rs := Slot.tup [AV.agg [Leaf.dat (.int .i64) r.fst, Leaf.dat link.sl r.snd.fst], AV.one (Leaf.dat (.int .i64) r.snd.snd)], upd := [], new := [] }
@[reducible] def a33 : List AK := [AK.d gridk, AK.d (.int .i64), AK.d (.int .i64), AK.d celk]
@[reducible] def b33 : List BK := []
theorem t33 (a1 : Int) (a2 : List Line) (b : Int) (c : Int) (y1 : ByteArray) (y2 : Int) (y31 : Int) (y32 : Int) (y33 : Int) : evFn (E0.withFns [((90 : Nat), w90), ((89 : Nat), w89), ((91 : Nat), P.w91)]) Tryd.f33 [PM.data gridk, PM.data (.int .i64)] (akAV a33 ((a1, a2, ()), b, c, (y1, y2, (y31, y32, y33, ()), ()), ())) (bkBs b33 ()) = (d33 a1 a2 b c y1 y2 y31 y32 y33).map e33 := by kernel_rfl
def s33 (C : akT a33 → Bool) (G : akT a33 → Int × List Line × Int) : FSpec := aspec a33 b33 e33 (fun x _ => C x) (fun x _ => G x)
theorem k33 {C : akT a33 → Bool} {G : akT a33 → Int × List Line × Int} (hd : ∀ (a1 : Int) (a2 : List Line) (b : Int) (c : Int) (y1 : ByteArray) (y2 : Int) (y31 : Int) (y32 : Int) (y33 : Int), C ((a1, a2, ()), b, c, (y1, y2, (y31, y32, y33, ()), ()), ()) = true → (d33 a1 a2 b c y1 y2 y31 y32 y33).val = some (G ((a1, a2, ()), b, c, (y1, y2, (y31, y32, y33, ()), ()), ()))) (IO : ItOK Tryd.prog (E0.withFns [((90 : Nat), w90), ((89 : Nat), w89), ((91 : Nat), P.w91)]) := by exact itOK_none rfl) (L : ∀ c, Tryd.f33.body = some c → LsOK (evI 2) ((E0.withFns [((90 : Nat), w90), ((89 : Nat), w89), ((91 : Nat), P.w91)]).lend 0) c := by exact fun c _ => LsOK_none rfl c) : SpecOK Tryd.prog E0 33 (s33 C G) :=
  aspec_ok (ak := a33) (bl := b33) (e := e33) (c := fun x _ => C x) (g := fun x _ => G x) (E0 := E0) (E := E0.withFns [((90 : Nat), w90), ((89 : Nat), w89), ((91 : Nat), P.w91)]) tab (.cons wk90 (.cons wk89 (.cons P.wk91 .nil))) rfl rfl hm Tryd.func33 (by kernel_rfl) [PM.data gridk, PM.data (.int .i64)] (fun X Y H => by obtain ⟨⟨a1, ⟨a2, _⟩⟩, ⟨b, ⟨c, ⟨⟨y1, ⟨y2, ⟨⟨y31, ⟨y32, ⟨y33, _⟩⟩⟩, _⟩⟩⟩, _⟩⟩⟩⟩ := X; exact val_of (t33 a1 a2 b c y1 y2 y31 y32 y33) (hd a1 a2 b c y1 y2 y31 y32 y33 H)) IO L
end Go.Proofs.YtmnbcnhpklejcaaDoor
namespace U
def rawPut (c : Int) (l : List Ln) (row col : Int) (x : Cl) : Int × List Ln × Int :=
  if place c l row col = true ∧ cellR x = true ∧ x.1.size ≠ 0 then
    if x.2.1 = 2 ∧ col = c - 1 then (0, [], 9) else (c, setL l row.toNat fun m => putC m col.toNat x, 0)
  else (0, [], 1)
theorem inn_iff {a b c : Int} : inn a b c = true ↔ b ≤ a ∧ a ≤ c := by unfold inn; simp [Bool.and_eq_true, decide_eq_true_eq]
theorem place_at {c : Int} {l : List Ln} {row col : Int} (h : place c l row col = true) : 0 ≤ row ∧ row < (l.length : Int) ∧ 0 ≤ col ∧ col < c ∧ ∀ y ∈ l, fitC y.1 = true ∧ (y.1.length : Int) = c := by
  unfold place gridR at h
  simp only [Bool.and_eq_true, inn_iff, Bool.not_eq_true', List.any_eq_false] at h
  obtain ⟨⟨_, _, h1⟩, h2, h3⟩ := h
  refine ⟨h2.1, by omega, h3.1, by omega, fun y hy => ?_⟩
  have := h1 y hy
  unfold misfit at this
  simpa using this
theorem getD_mem {l : List Ln} {i : Nat} (hi : i < l.length) : l.getD i dL ∈ l := by rw [getD_el hi]; exact List.getElem_mem hi
end U
namespace Go.Proofs.YtmnbcnhpklejcaaDoor
abbrev w33 : FSpec := s33 (fun x => U.okl x.1.2.1 && decide (ByteArray.size x.2.2.2.1.1 ≤ 1048576)) fun x => U.rawPut x.1.1 x.1.2.1 x.2.1 x.2.2.1 x.2.2.2.1
theorem wk33 : SpecOK Tryd.prog E0 33 w33 := by
  refine k33 fun c l row col t w a b d H => ?_
  have H : (U.okl l && decide (t.size ≤ 1048576)) = true := H
  rw [Bool.and_eq_true] at H
  obtain ⟨H1, H2⟩ := H
  have H2 := of_decide_eq_true H2
  show _ = some (U.rawPut c l row col (t, w, (a, b, d, ()), ()))
  unfold U.rawPut
  cases hp : U.place c l row col with
  | false => simp only [d33, Tr.val, H1, hp, cond_true, Bool.not_false, Bool.false_eq_true, false_and, if_false]
  | true =>
    cases hc : U.cellR (t, w, (a, b, d, ()), ()) with
    | false => simp only [d33, Tr.val, H1, H2, hp, hc, cond_true, cond_false, Bool.not_true, Bool.not_false, decide_true, Bool.false_eq_true, false_and, and_false, if_false]
    | true =>
      by_cases ht : t.size = 0
      · obtain rfl := ba_nil ht
        simp only [d33, Tr.val, H1, H2, hp, hc, cond_true, cond_false, Bool.not_true, decide_true]
        rw [if_neg (fun h => h.2.2 rfl)]
      · obtain ⟨p1, p2, p3, p4, p5⟩ := U.place_at hp
        obtain ⟨a1, a2, a3, a4⟩ := U.gridR_cols (c := c) (l := l) (by unfold U.place at hp; rw [Bool.and_eq_true] at hp; exact hp.1)
        have e2 : IntKind.i64.wrap (c - 1) = c - 1 := w64 (by omega) (by omega)
        have hr : row.toNat < l.length := by omega
        have hlen := (p5 _ (U.getD_mem hr)).2
        rw [if_pos ⟨rfl, rfl, ht⟩]
        by_cases hw : w = 2
        · by_cases hcc : col = c - 1
          · subst hw
            subst hcc
            simp only [d33, Tr.val, H1, H2, hp, hc, ba_ne ht, e2, decide_true, decide_false, cond_true, cond_false, Bool.not_true, and_self, if_true]
          · have hput : (decide (0 ≤ row ∧ row < (l.length : Int) ∧ l.length ≤ 1048576) && putOK col (l.getD row.toNat U.dL).1.length w) = true := by
              unfold putOK
              rw [Bool.and_eq_true, decide_eq_true_eq, decide_eq_true_eq]
              omega
            subst hw
            simp only [d33, Tr.val, H1, H2, hp, hc, ba_ne ht, e2, hcc, hput, decide_true, decide_false, cond_true, cond_false, Bool.not_true, and_false, if_false]
        · have hput : (decide (0 ≤ row ∧ row < (l.length : Int) ∧ l.length ≤ 1048576) && putOK col (l.getD row.toNat U.dL).1.length w) = true := by
            unfold putOK
            rw [Bool.and_eq_true, decide_eq_true_eq, decide_eq_true_eq]
            omega
          simp only [d33, Tr.val, H1, H2, hp, hc, ba_ne ht, hw, hput, decide_true, decide_false, cond_true, cond_false, Bool.not_true, false_and, if_false]
def live162 (key : Nat) : Lv :=
  bif Nat.beq key 8 then { ls := [7, 8] } else bif Nat.beq key 1008 then { ls := [7] } else
  bif Nat.beq key 8888 then { ls := [41, 44] } else
  { ls := [] }
abbrev M162 (ls : Nat → VS → Option (Tr (Ex × VS))) : Env := (E0.withFns [(172, w172)]).loops live162 ls
@[reducible] def p162_0 : LP := { n := 48, sl := [.c (Leaf.row ( 0)), .d (.int .i64)], bl := [(0, .row 48 (celk))] }
def B162_0 (x1 : Int) (h0 : List Cell) : Tr (p162_0.T ⊕ (List Cell)) :=
  let v1 : Int := ((↑h0.length : Int))
  let v2 : Int := (vwHi v1 none - vwLo (some x1))
  let v3 : Int := (vwHi v1 (some x1) - (0 : Int))
  let v4 : List Cell := (sub h0 (0 : Nat) ((0 : Nat) + v3.toNat))
  Tr.ite (decide (x1 < v1))
    (Tr.ite (vwOK v1 (some x1) none)
      (Tr.ite (vwOK v1 none (some x1)) (Tr.ret (Sum.inl ((IntKind.i64.wrap (x1 + (↑(v4.length.min v2.toNat) : Int)), ()), putAt h0 (vwLo (some x1)).toNat (List.take v2.toNat v4), ()))) Tr.fail) Tr.fail)
    (Tr.ret (Sum.inr h0))
def X162_0 (r : (List Cell)) : Ex × VS := Prod.mk (Ex.exit ( 0)) { n := 48, v := [Slot.av (AV.one (Leaf.row ( 0)))], h := [( 0, Blk.row ( 48) celk r)] }
def b162_0 : p162_0.T → Tr (p162_0.T ⊕ (List Cell)) := fun ⟨⟨x1, _⟩, ⟨h0, _⟩⟩ => B162_0 x1 h0
theorem h162_0 (ls : Nat → VS → Option (Tr (Ex × VS))) (x : p162_0.T) : (evC (evI 2) (lc Tryd.f162 0) (Env.lend (M162 ls) 0) (unV (live162 8) (p162_0.V x))).map (decL 0 (live162 8) (live162 1008)) = (b162_0 x).map (encR p162_0.V X162_0) := by
  obtain ⟨⟨x1, _⟩, ⟨h0, _⟩⟩ := x; kernel_rfl
theorem c162_0 (x : p162_0.T) : canV 0 (live162 8) (unV (live162 8) (p162_0.V x)) = p162_0.V x := by
  obtain ⟨⟨x1, _⟩, ⟨h0, _⟩⟩ := x; kernel_rfl
theorem l162_0 {T : p162_0.T → Tr (List Cell)} {ls : Nat → VS → Option (Tr (Ex × VS))} (hls : ∀ x, (Env.lend (M162 ls) 0).ls 8 x = p162_0.ls (fun a => (T a).map X162_0) x) (hS : ∀ x r, (T x).val = some r → Rounds b162_0 x r) : LoopOK (evI 2) (Env.lend (M162 ls) 0) (lc Tryd.f162 0) :=
  loopA 8 (live162 8) (live162 1008) p162_0 b162_0 X162_0 T (by kernel_rfl) rfl rfl hls (h162_0 ls) c162_0 hS
def T162 (x : p162_0.T) : Tr (List Cell) :=
  .ite (decide ((x.1.1 : Int) = 1 ∧ 1 ≤ List.length (α := Cell) x.2.1 ∧ List.length (α := Cell) x.2.1 ≤ 1048576)) (.ret (List.replicate (List.length (α := Cell) x.2.1) (List.getD (α := Cell) x.2.1 0 U.dC))) .fail
abbrev E162 : Env := M162 fun key x => bif Nat.beq key 8 then p162_0.ls (fun a => (T162 a).map X162_0) x else none
theorem rep162 (c : Cell) (N : Nat) (hN : N ≤ 1048576) : ∀ (k n : Nat) (h : List Cell), N - n ≤ k → 1 ≤ n → n ≤ N → h.length = N → h.take n = List.replicate n c → Rounds b162_0 (((n : Int), ()), h, ()) (List.replicate N c) := by
  intro k
  induction k with
  | zero =>
    intro n h h1 h2 h3 h4 h5
    have : n = N := by omega
    subst this
    rw [← h5, List.take_of_length_le (by omega)]
    refine .exit ?_
    simp only [b162_0, B162_0, Tr.val, h4, show ¬ ((n : Int) < (n : Int)) by omega, decide_false, cond_false]
  | succ k ih =>
    intro n h h1 h2 h3 h4 h5
    by_cases hn : n = N
    · exact ih n h (by omega) h2 h3 h4 h5
    · have e1 : vwHi (N : Int) none - vwLo (some (n : Int)) = ((N - n : Nat) : Int) := by simp only [vwHi, vwLo]; omega
      have e2 : vwOK (N : Int) (some (n : Int)) none = true := by
        show decide (0 ≤ (n : Int) ∧ (n : Int) ≤ (N : Int) ∧ (N : Int) ≤ (N : Int)) = true
        exact decide_eq_true (by omega)
      have e3 : vwOK (N : Int) none (some (n : Int)) = true := by
        show decide ((0 : Int) ≤ 0 ∧ (0 : Int) ≤ (n : Int) ∧ (n : Int) ≤ (N : Int)) = true
        exact decide_eq_true (by omega)
      have e4 : vwHi (N : Int) (some (n : Int)) - 0 = (n : Int) := by simp only [vwHi]; omega
      have e5 : sub h 0 (0 + n) = List.replicate n c := by unfold sub; rw [Nat.zero_add, List.drop_zero, h5]
      obtain ⟨m, hm, m1, m2, m3⟩ : ∃ m, n.min (N - n) = m ∧ m ≤ n ∧ m ≤ N - n ∧ 1 ≤ m := ⟨_, rfl, Nat.min_le_left _ _, Nat.min_le_right _ _, by
        have : n.min (N - n) = min n (N - n) := rfl
        omega⟩
      have e6 : IntKind.i64.wrap ((n : Int) + (m : Int)) = ((n + m : Nat) : Int) := by
        rw [w64 (by omega) (by omega)]
        omega
      have e7 : List.take (N - n) (List.replicate n c) = List.replicate m c := by
        rw [List.take_replicate, ← hm]
        congr 1
        exact Nat.min_comm _ _
      refine .step (y := ((((n + m : Nat) : Int), ()), putAt h n (List.replicate m c), ())) ?_ (ih (n + m) _ (by omega) (by omega) (by omega) ?_ ?_)
      · simp only [b162_0, B162_0, Tr.val, h4, show ((n : Int) < (N : Int)) by omega, e1, e2, e3, e4, e5, Int.toNat_natCast, List.length_replicate, hm, e6, e7, decide_true, cond_true]
        rfl
      · simp only [putAt, List.length_append, List.length_take, List.length_drop, List.length_replicate]
        omega
      · unfold putAt
        rw [h5, ← List.append_assoc, List.replicate_append_replicate, List.take_left' (by rw [List.length_replicate])]
theorem L162 : LoopOK (evI 2) (E162.lend 0) (lc Tryd.f162 0) := by
  refine l162_0 (T := T162) (fun x => rfl) ?_
  rintro ⟨⟨n, z⟩, h, z2⟩ r hh
  obtain ⟨g1, g2⟩ := pre_val hh
  obtain ⟨e1, e2, e3⟩ := of_decide_eq_true g1
  dsimp only at e1 e2 e3 g2
  subst e1
  cases g2
  refine rep162 (h.getD 0 U.dC) h.length e3 h.length 1 h (by omega) (by omega) e2 rfl ?_
  cases h with
  | nil => simp at e2
  | cons x h => rfl
def d162 (a : List Cell) (b : Int) : Tr (List Cell) :=
  let v1 : Int := ((↑a.length : Int))
  let v2 : List Cell := (List.replicate (IntKind.i64.wrap (IntKind.u64.wrap b)).toNat (ByteArray.empty, (0 : Int), ((0 : Int), (0 : Int), (0 : Int), ()), ()))
  let v3 : List Cell := (List.take v2.length a)
  let v4 : List Cell := (putAt v2 (0 : Nat) v3)
  let v5 : Int := ((↑(a.length.min v2.length) : Int))
  Tr.ite (decide (b < (0 : Int))) Tr.fail
    (Tr.ite (decide (IntKind.u64.wrap v1 = (1 : Int) ∧ (0 : Int) ≤ IntKind.u64.wrap b ∧ IntKind.u64.wrap b < (128 : Int)))
      (Tr.ite false Tr.fail
        (Tr.ite (decide ((9223372036854775807 : Int) < IntKind.u64.wrap b)) Tr.fail
          (Tr.ite
            (decide
              ((0 : Int) ≤ IntKind.i64.wrap (IntKind.u64.wrap b) ∧
                IntKind.i64.wrap (IntKind.u64.wrap b) ≤ IntKind.i64.wrap (IntKind.u64.wrap b) ∧ (IntKind.i64.wrap (IntKind.u64.wrap b)).toNat * (48 : Nat) ≤ (140737488355328 : Nat)))
            (Tr.ite (decide (v5 = (1 : Int) ∧ (1 : Nat) ≤ v4.length ∧ v4.length ≤ (1048576 : Nat))) (Tr.ret (List.replicate v4.length (v4.getD (0 : Nat) U.dC))) Tr.fail) Tr.fail)))
      Tr.fail)
def e162 (r : List Cell) : FRes := { rs := Slot.av (AV.one (Leaf.dat celk.sl r)), upd := [], new := [] }
@[reducible] def a162 : List AK := [AK.d celk.sl, AK.d (.int .i64)]
@[reducible] def b162 : List BK := []
theorem t162 (a : List Cell) (b : Int) : evFn (E162) Tryd.f162 [PM.data celk.sl] (akAV a162 (a, b, ())) (bkBs b162 ()) = (d162 a b).map e162 := by kernel_rfl
def s162 (C : akT a162 → Bool) (G : akT a162 → List Cell) : FSpec := aspec a162 b162 e162 (fun x _ => C x) (fun x _ => G x)
theorem k162 {C : akT a162 → Bool} {G : akT a162 → List Cell} (hd : ∀ (a : List Cell) (b : Int), C (a, b, ()) = true → (d162 a b).val = some (G (a, b, ()))) (IO : ItOK Tryd.prog (E162) := by exact itOK_none rfl) (L : ∀ c, Tryd.f162.body = some c → LsOK (evI 2) ((E162).lend 0) c := by exact fun c _ => LsOK_none rfl c) : SpecOK Tryd.prog E0 162 (s162 C G) :=
  aspec_ok (ak := a162) (bl := b162) (e := e162) (c := fun x _ => C x) (g := fun x _ => G x) (E0 := E0) (E := E162) tab (.cons wk172 .nil) rfl rfl hm Tryd.func162 (by kernel_rfl) [PM.data celk.sl] (fun X Y H => by obtain ⟨a, ⟨b, _⟩⟩ := X; exact val_of (t162 a b) (hd a b H)) IO L
abbrev w162 : FSpec := s162 (fun x => decide (List.length (α := Cell) x.1 = 1 ∧ 1 ≤ (x.2.1 : Int) ∧ (x.2.1 : Int) < 128)) fun x => List.replicate x.2.1.toNat (List.getD (α := Cell) x.1 0 U.dC)
theorem wk162 : SpecOK Tryd.prog E0 162 w162 := by
  refine k162 (fun l n H => ?_) (L := ls_ok (lcs := [lc Tryd.f162 0]) (rgs := []) (by kernel_rfl) (by kernel_rfl) L162 trivial)
  have H : (l.length = 1 ∧ (1 : Int) ≤ n ∧ (n : Int) < 128) := of_decide_eq_true H
  obtain ⟨h1, h2, h3⟩ := H
  obtain ⟨m, rfl⟩ := Int.eq_ofNat_of_zero_le (a := n) (Int.le_trans (by decide) h2)
  have h4 : 1 ≤ m ∧ m < 128 := by omega
  have u1 : IntKind.u64.wrap (m : Int) = (m : Int) := by simp [IntKind.wrap, IntKind.signed, IntKind.bits]; omega
  have u2 : IntKind.i64.wrap (m : Int) = (m : Int) := w64 (by omega) (by omega)
  have u3 : IntKind.u64.wrap 1 = 1 := by decide
  match l, h1 with
  | [x], _ =>
    have e1 : List.take m [x] = [x] := List.take_of_length_le (by simp; omega)
    show _ = some (List.replicate m x)
    have e2 : Nat.min 1 m = 1 := Nat.min_eq_left h4.1
    have e3 : (putAt (List.replicate m ((ByteArray.empty, (0 : Int), ((0 : Int), (0 : Int), (0 : Int), ()), ()) : Cell)) 0 [x]).length = m := by
      simp only [putAt, List.length_append, List.length_take, List.length_drop, List.length_replicate, List.length_cons, List.length_nil]
      omega
    have e4 : ∀ (q : List Cell), (putAt q 0 [x]).getD 0 U.dC = x := fun q => rfl
    have a1 : (0 : Int) ≤ (m : Int) := by omega
    have a2 : (m : Int) < 128 := by omega
    have a3 : (m : Int) ≤ (m : Int) := by omega
    have a4 : m * 48 ≤ 140737488355328 := by omega
    have a5 : 1 ≤ m := by omega
    have a6 : m ≤ 1048576 := by omega
    simp only [d162, Tr.val, u1, u2, Int.toNat_natCast, List.length_replicate, List.length_cons, List.length_nil, Nat.zero_add, e1, e2, e4, show ((1 : Nat) : Int) = 1 from rfl, u3, show ¬ ((m : Int) < 0) by omega, show ¬ ((9223372036854775807 : Int) < (m : Int)) by omega, decide_true, decide_false, cond_true, cond_false]
    simp only [e3, a1, a2, a3, a4, a5, a6, and_self, true_and, decide_true, cond_true]
def d150 (a : Int) (b1 : Int) (b2 : Int) (b3 : Int) : Tr (List Cell × Bool) :=
  Tr.ite (decide ((1 : Nat) = (1 : Nat) ∧ (1 : Int) ≤ a ∧ a < (128 : Int)))
    (Tr.ret (List.replicate a.toNat ([(ByteArray.empty, (1 : Int), ((0 : Int), b2, (0 : Int), ()), ())].getD (0 : Nat) U.dC), false)) Tr.fail
def e150 (r : List Cell × Bool) : FRes := { rs := Slot.av (AV.agg [Leaf.dat celk.sl r.fst, Leaf.dat Kd.bool r.snd]), upd := [], new := [] }
@[reducible] def a150 : List AK := [AK.d (.int .i64), AK.d attk]
@[reducible] def b150 : List BK := []
theorem t150 (a : Int) (b1 : Int) (b2 : Int) (b3 : Int) : evFn (E0.withFns [((88 : Nat), w88), ((162 : Nat), w162)]) Tryd.f150 [PM.data link] (akAV a150 (a, (b1, b2, b3, ()), ())) (bkBs b150 ()) = (d150 a b1 b2 b3).map e150 := by kernel_rfl
def s150 (C : akT a150 → Bool) (G : akT a150 → List Cell × Bool) : FSpec := aspec a150 b150 e150 (fun x _ => C x) (fun x _ => G x)
theorem k150 {C : akT a150 → Bool} {G : akT a150 → List Cell × Bool} (hd : ∀ (a : Int) (b1 : Int) (b2 : Int) (b3 : Int), C (a, (b1, b2, b3, ()), ()) = true → (d150 a b1 b2 b3).val = some (G (a, (b1, b2, b3, ()), ()))) (IO : ItOK Tryd.prog (E0.withFns [((88 : Nat), w88), ((162 : Nat), w162)]) := by exact itOK_none rfl) (L : ∀ c, Tryd.f150.body = some c → LsOK (evI 2) ((E0.withFns [((88 : Nat), w88), ((162 : Nat), w162)]).lend 0) c := by exact fun c _ => LsOK_none rfl c) : SpecOK Tryd.prog E0 150 (s150 C G) :=
  aspec_ok (ak := a150) (bl := b150) (e := e150) (c := fun x _ => C x) (g := fun x _ => G x) (E0 := E0) (E := E0.withFns [((88 : Nat), w88), ((162 : Nat), w162)]) tab (.cons wk88 (.cons wk162 .nil)) rfl rfl hm Tryd.func150 (by kernel_rfl) [PM.data link] (fun X Y H => by obtain ⟨a, ⟨⟨b1, ⟨b2, ⟨b3, _⟩⟩⟩, _⟩⟩ := X; exact val_of (t150 a b1 b2 b3) (hd a b1 b2 b3 H)) IO L
abbrev w150 : FSpec := s150 (fun x => decide (1 ≤ (x.1 : Int) ∧ (x.1 : Int) < 128)) fun x => (List.replicate x.1.toNat (U.blank x.2.1), false)
theorem wk150 : SpecOK Tryd.prog E0 150 w150 := by
  refine k150 fun n a b c H => ?_
  have H : (1 : Int) ≤ n ∧ (n : Int) < 128 := of_decide_eq_true H
  simp only [d150, Tr.val, H, and_self, decide_true, cond_true]
  rfl
def live117 (key : Nat) : Lv :=
  bif Nat.beq key 3 then { ls := [0, 5, 7, 8, 9], wd := [⟨7, none, .row 34 link⟩] } else bif Nat.beq key 1003 then { ls := [7] } else
  { ls := [] }
abbrev M117 (ls : Nat → VS → Option (Tr (Ex × VS))) : Env := (E0.withFns [(150, w150)]).loops live117 ls
@[reducible] def p117_0 : LP := { n := 19, sl := [.d (.int .i64), .c (Leaf.ptr ( 0) ( 0)), .c (Leaf.row ( 1)), .d (.int .i64), .d (.int .i64)], bl := [(0, .box [.d (.int .i64), .d (.int .i64), .d (.int .i64)]), (1, .row 34 (link))] }
def B117_0 (x0 : Int) (x3 : Int) (x4 : Int) (h0_0 : Int) (h0_1 : Int) (h0_2 : Int) (h1 : List Line) : Tr (p117_0.T ⊕ (List Line)) :=
  Tr.ite (decide (x4 < x3))
    (Tr.ite (decide ((1 : Int) ≤ x0 ∧ x0 < (128 : Int)))
      (Tr.ite (decide ((h1.length + (1 : Nat)) * (32 : Nat) ≤ (140737488355328 : Nat)))
        (Tr.ret (Sum.inl ((x0, x3, IntKind.i64.wrap (x4 + (1 : Int)), ()), (h0_0, h0_1, h0_2, ()), h1 ++ [(List.replicate x0.toNat (U.blank (h0_0, h0_1, h0_2, ())), false, ())], ()))) Tr.fail)
      Tr.fail)
    (Tr.ret (Sum.inr h1))
def X117_0 (r : (List Line)) : Ex × VS := Prod.mk (Ex.exit ( 0)) { n := 19, v := [Slot.av (AV.one (Leaf.row ( 0)))], h := [( 0, Blk.row ( 34) link r)] }
def b117_0 : p117_0.T → Tr (p117_0.T ⊕ (List Line)) := fun ⟨⟨x0, ⟨x3, ⟨x4, _⟩⟩⟩, ⟨⟨h0_0, ⟨h0_1, ⟨h0_2, _⟩⟩⟩, ⟨h1, _⟩⟩⟩ => B117_0 x0 x3 x4 h0_0 h0_1 h0_2 h1
theorem h117_0 (ls : Nat → VS → Option (Tr (Ex × VS))) (x : p117_0.T) : (evC (evI 2) (lc Tryd.f117 0) (Env.lend (M117 ls) 0) (unV (live117 3) (p117_0.V x))).map (decL 0 (live117 3) (live117 1003)) = (b117_0 x).map (encR p117_0.V X117_0) := by
  obtain ⟨⟨x0, ⟨x3, ⟨x4, _⟩⟩⟩, ⟨⟨h0_0, ⟨h0_1, ⟨h0_2, _⟩⟩⟩, ⟨h1, _⟩⟩⟩ := x; kernel_rfl
theorem c117_0 (x : p117_0.T) : canV 0 (live117 3) (unV (live117 3) (p117_0.V x)) = p117_0.V x := by
  obtain ⟨⟨x0, ⟨x3, ⟨x4, _⟩⟩⟩, ⟨⟨h0_0, ⟨h0_1, ⟨h0_2, _⟩⟩⟩, ⟨h1, _⟩⟩⟩ := x; kernel_rfl
theorem l117_0 {T : p117_0.T → Tr (List Line)} {ls : Nat → VS → Option (Tr (Ex × VS))} (hls : ∀ x, (Env.lend (M117 ls) 0).ls 3 x = p117_0.ls (fun a => (T a).map X117_0) x) (hS : ∀ x r, (T x).val = some r → Rounds b117_0 x r) : LoopOK (evI 2) (Env.lend (M117 ls) 0) (lc Tryd.f117 0) :=
  loopA 3 (live117 3) (live117 1003) p117_0 b117_0 X117_0 T (by kernel_rfl) rfl rfl hls (h117_0 ls) c117_0 hS
theorem fold_rep {α : Type} (c : α) : ∀ (k i : Nat) (a : List α), (List.range' i k).foldl (fun s _ => s ++ [c]) a = a ++ List.replicate k c
  | 0, _, a => by simp
  | k + 1, i, a => by rw [List.range'_succ, List.foldl_cons, fold_rep c k, List.append_assoc, List.replicate_succ]; rfl
def T117 (x : p117_0.T) : Tr (List Line) :=
  .ite (decide ((x.1.2.2.1 : Int) = 0 ∧ 0 ≤ (x.1.2.1 : Int) ∧ (x.1.2.1 : Int) ≤ 1000 ∧ 1 ≤ (x.1.1 : Int) ∧ (x.1.1 : Int) < 128 ∧ List.length (α := Line) x.2.2.1 ≤ 1000))
    (.ret (x.2.2.1 ++ List.replicate x.1.2.1.toNat (List.replicate x.1.1.toNat (U.blank (x.2.1.1, x.2.1.2.1, x.2.1.2.2.1, ())), false, ()))) .fail
abbrev E117 : Env := M117 fun key x => bif Nat.beq key 3 then p117_0.ls (fun a => (T117 a).map X117_0) x else none
theorem L117 : LoopOK (evI 2) (E117.lend 0) (lc Tryd.f117 0) := by
  refine l117_0 (T := T117) (fun x => rfl) ?_
  rintro ⟨⟨c, n, i, z⟩, ⟨a, b, d, z1⟩, h, z2⟩ r hh
  obtain ⟨g1, g2⟩ := pre_val hh
  have g1 : ((i : Int) = 0 ∧ (0 : Int) ≤ n ∧ (n : Int) ≤ 1000 ∧ (1 : Int) ≤ c ∧ (c : Int) < 128 ∧ h.length ≤ 1000) := of_decide_eq_true g1
  obtain ⟨rfl, e2, e3, e4, e5, e6⟩ := g1
  obtain ⟨m, rfl⟩ := Int.eq_ofNat_of_zero_le (a := n) e2
  have e3' : m ≤ 1000 := by
    have : (m : Int) ≤ 1000 := e3
    omega
  cases g2
  have := Rounds.uptoA (B := b117_0) (σ := List Line) (N := m) (fun i s => ((c, (m : Int), (i : Int), ()), (a, b, d, ()), s, ())) (fun _ s => s ++ [(List.replicate c.toNat (U.blank (a, b, d, ())), false, ())]) (fun s => s) (fun i s => s.length ≤ 1000 + i) (fun i s hi hv => ?_) (fun s hv => ?_) m 0 h (by omega) (by omega)
  · rw [fold_rep] at this
    exact this
  · have e8 : (s.length + 1) * 32 ≤ 140737488355328 := by omega
    refine ⟨?_, by simp only [List.length_append, List.length_singleton]; omega⟩
    simp only [b117_0, B117_0, Tr.val, e4, e5, e8, show ((i : Int) < (m : Int)) by omega, and_self, decide_true, cond_true, wrap64_nat (show i ≤ 1048576 by omega)]
  · simp only [b117_0, B117_0, Tr.val, show ¬ ((m : Int) < (m : Int)) by omega, decide_false, cond_false]
def d117 (a : Int) (b : Int) (c1 : Int) (c2 : Int) (c3 : Int) : Tr (List (List U.Cl × Bool × Unit)) :=
  Tr.ite (decide ((0 : Int) = (0 : Int) ∧ (0 : Int) ≤ b ∧ b ≤ (1000 : Int) ∧ (1 : Int) ≤ a ∧ a < (128 : Int) ∧ (0 : Nat) ≤ (1000 : Nat)))
    (Tr.ret (List.replicate b.toNat (List.replicate a.toNat (U.blank (c1, c2, c3, ())), false, ()))) Tr.fail
def e117 (r : List (List U.Cl × Bool × Unit)) : FRes := { rs := Slot.av (AV.one (Leaf.dat link.sl r)), upd := [], new := [] }
@[reducible] def a117 : List AK := [AK.d (.int .i64), AK.d (.int .i64), AK.d attk]
@[reducible] def b117 : List BK := []
theorem t117 (a : Int) (b : Int) (c1 : Int) (c2 : Int) (c3 : Int) : evFn (E117) Tryd.f117 [PM.data link.sl] (akAV a117 (a, b, (c1, c2, c3, ()), ())) (bkBs b117 ()) = (d117 a b c1 c2 c3).map e117 := by kernel_rfl
def s117 (C : akT a117 → Bool) (G : akT a117 → List (List U.Cl × Bool × Unit)) : FSpec := aspec a117 b117 e117 (fun x _ => C x) (fun x _ => G x)
theorem k117 {C : akT a117 → Bool} {G : akT a117 → List (List U.Cl × Bool × Unit)} (hd : ∀ (a : Int) (b : Int) (c1 : Int) (c2 : Int) (c3 : Int), C (a, b, (c1, c2, c3, ()), ()) = true → (d117 a b c1 c2 c3).val = some (G (a, b, (c1, c2, c3, ()), ()))) (IO : ItOK Tryd.prog (E117) := by exact itOK_none rfl) (L : ∀ c, Tryd.f117.body = some c → LsOK (evI 2) ((E117).lend 0) c := by exact fun c _ => LsOK_none rfl c) : SpecOK Tryd.prog E0 117 (s117 C G) :=
  aspec_ok (ak := a117) (bl := b117) (e := e117) (c := fun x _ => C x) (g := fun x _ => G x) (E0 := E0) (E := E117) tab (.cons wk150 .nil) rfl rfl hm Tryd.func117 (by kernel_rfl) [PM.data link.sl] (fun X Y H => by obtain ⟨a, ⟨b, ⟨⟨c1, ⟨c2, ⟨c3, _⟩⟩⟩, _⟩⟩⟩ := X; exact val_of (t117 a b c1 c2 c3) (hd a b c1 c2 c3 H)) IO L
abbrev w117 : FSpec := s117 (fun x => decide (1 ≤ (x.1 : Int) ∧ (x.1 : Int) < 128 ∧ 0 ≤ (x.2.1 : Int) ∧ (x.2.1 : Int) ≤ 1000)) fun x => List.replicate x.2.1.toNat (List.replicate x.1.toNat (U.blank x.2.2.1), false, ())
theorem wk117 : SpecOK Tryd.prog E0 117 w117 := by
  refine k117 (fun c n a b d H => ?_) (L := ls_ok (lcs := [lc Tryd.f117 0]) (rgs := []) (by kernel_rfl) (by kernel_rfl) L117 trivial)
  have H : (1 : Int) ≤ c ∧ (c : Int) < 128 ∧ (0 : Int) ≤ n ∧ (n : Int) ≤ 1000 := of_decide_eq_true H
  obtain ⟨h1, h2, h3, h4⟩ := H
  simp only [d117, Tr.val, h1, h2, h3, h4, and_self, decide_true, cond_true, List.length_nil, Nat.zero_le, List.nil_append]
def d85 (a : Int) (b : Int) : Tr (Int × List Line × Int) :=
  Tr.ite (!U.inn a (1 : Int) (80 : Int)) (Tr.ret ((0 : Int), [], (1 : Int)))
    (Tr.ite (!U.inn b (1 : Int) (50 : Int)) (Tr.ret ((0 : Int), [], (1 : Int)))
      (Tr.ite (decide ((1 : Int) ≤ a ∧ a < (128 : Int) ∧ (0 : Int) ≤ b ∧ b ≤ (1000 : Int)))
        (Tr.ret (a, List.replicate b.toNat (List.replicate a.toNat (U.blank ((0 : Int), (0 : Int), (0 : Int), ())), false, ()), (0 : Int))) Tr.fail))
def e85 (r : Int × List Line × Int) : FRes := { rs := Slot.tup [AV.agg [Leaf.dat (.int .i64) r.fst, Leaf.dat link.sl r.snd.fst], AV.one (Leaf.dat (.int .i64) r.snd.snd)], upd := [], new := [] }
@[reducible] def a85 : List AK := [AK.d (.int .i64), AK.d (.int .i64)]
@[reducible] def b85 : List BK := []
theorem t85 (a : Int) (b : Int) : evFn (E0.withFns [((93 : Nat), w93), ((117 : Nat), w117)]) Tryd.f85 [PM.data gridk, PM.data (.int .i64)] (akAV a85 (a, b, ())) (bkBs b85 ()) = (d85 a b).map e85 := by kernel_rfl
def s85' (G : akT a85 → Int × List Line × Int) : FSpec := aspec0 a85 b85 e85 (fun x _ => G x)
theorem k85' {G : akT a85 → Int × List Line × Int} (hd : ∀ (a : Int) (b : Int), (d85 a b).val = some (G (a, b, ()))) (IO : ItOK Tryd.prog (E0.withFns [((93 : Nat), w93), ((117 : Nat), w117)]) := by exact itOK_none rfl) (L : ∀ c, Tryd.f85.body = some c → LsOK (evI 2) ((E0.withFns [((93 : Nat), w93), ((117 : Nat), w117)]).lend 0) c := by exact fun c _ => LsOK_none rfl c) : SpecOK Tryd.prog E0 85 (s85' G) :=
  aspec0_ok (ak := a85) (bl := b85) (e := e85) (g := fun x _ => G x) (E0 := E0) (E := E0.withFns [((93 : Nat), w93), ((117 : Nat), w117)]) tab (.cons wk93 (.cons wk117 .nil)) rfl rfl hm Tryd.func85 (by kernel_rfl) [PM.data gridk, PM.data (.int .i64)] (fun X Y => by obtain ⟨a, ⟨b, _⟩⟩ := X; exact val_of (t85 a b) (hd a b)) IO L
end Go.Proofs.YtmnbcnhpklejcaaDoor
namespace U
def rawNew (c r : Int) : Int × List Ln × Int := if inn c 1 80 = true ∧ inn r 1 50 = true then (c, List.replicate r.toNat (List.replicate c.toNat (blank (0, 0, 0, ())), false, ()), 0) else (0, [], 1)
end U
namespace Go.Proofs.YtmnbcnhpklejcaaDoor
abbrev w85 : FSpec := s85' fun x => U.rawNew x.1 x.2.1
theorem wk85 : SpecOK Tryd.prog E0 85 w85 := by
  refine k85' fun c r => ?_
  show _ = some (U.rawNew c r)
  unfold U.rawNew
  cases h1 : U.inn c 1 80 with
  | false => simp only [d85, Tr.val, h1, Bool.not_false, cond_true, Bool.false_eq_true, false_and, if_false]
  | true =>
    cases h2 : U.inn r 1 50 with
    | false => simp only [d85, Tr.val, h1, h2, Bool.not_false, Bool.not_true, cond_true, cond_false, Bool.false_eq_true, and_false, if_false]
    | true =>
      obtain ⟨a1, a2⟩ := U.inn_iff.1 h1
      obtain ⟨b1, b2⟩ := U.inn_iff.1 h2
      simp only [d85, Tr.val, h1, h2, Bool.not_true, cond_true, cond_false, a1, show c < 128 by omega, show 0 ≤ r by omega, show r ≤ 1000 by omega, and_self, decide_true, if_true]
def d29 : Tr (Bool) :=
  Tr.ite true
    (Tr.ite true (Tr.ite true (Tr.ite true (Tr.ite true (Tr.ite true (Tr.ite true (Tr.ite true (Tr.ret true) Tr.fail) Tr.fail) (Tr.ret false)) Tr.fail) (Tr.ret false)) (Tr.ret false)) (Tr.ret false))
    Tr.fail
def e29 (r : Bool) : FRes := { rs := Slot.av (AV.one (Leaf.dat Kd.bool r)), upd := [], new := [] }
@[reducible] def a29 : List AK := []
@[reducible] def b29 : List BK := []
theorem t29 : evFn (E0.withFns [((85 : Nat), w85), ((33 : Nat), w33)]) Tryd.f29 [PM.data Kd.bool] (akAV a29 ()) (bkBs b29 ()) = (d29).map e29 := by kernel_rfl
def s29' (G : akT a29 → Bool) : FSpec := aspec0 a29 b29 e29 (fun x _ => G x)
theorem k29' {G : akT a29 → Bool} (hd : (d29).val = some (G ())) (IO : ItOK Tryd.prog (E0.withFns [((85 : Nat), w85), ((33 : Nat), w33)]) := by exact itOK_none rfl) (L : ∀ c, Tryd.f29.body = some c → LsOK (evI 2) ((E0.withFns [((85 : Nat), w85), ((33 : Nat), w33)]).lend 0) c := by exact fun c _ => LsOK_none rfl c) : SpecOK Tryd.prog E0 29 (s29' G) :=
  aspec0_ok (ak := a29) (bl := b29) (e := e29) (g := fun x _ => G x) (E0 := E0) (E := E0.withFns [((85 : Nat), w85), ((33 : Nat), w33)]) tab (.cons wk85 (.cons wk33 .nil)) rfl rfl hm Tryd.func29 (by kernel_rfl) [PM.data Kd.bool] (fun X Y => by exact val_of (t29) (hd)) IO L
abbrev w29 : FSpec := s29' fun _ => true
theorem wk29 : SpecOK Tryd.prog E0 29 w29 := k29' rfl
end Go.Proofs.YtmnbcnhpklejcaaDoor

end
section
set_option linter.unusedVariables false
set_option linter.unusedSimpArgs false
set_option maxRecDepth 20000
open Go Go.Ev
namespace U
theorem mendAt_eq {i : Nat} {l : List Cl} (h : whole l i = true) : mendAt i l = l := by unfold mendAt; rw [if_pos h]
theorem cw_set {l : List Cl} {i j : Nat} {c : Cl} (hi : i < l.length) : cw (l.set i c) j = if j = i then c.2.1 else cw l j := by
  unfold cw
  rw [List.getD_eq_getElem?_getD, List.getD_eq_getElem?_getD, List.getElem?_set]
  by_cases h : i = j
  · subst h
    rw [if_pos rfl, if_pos hi, if_pos rfl]
    rfl
  · rw [if_neg h, if_neg (fun e => h e.symm)]
theorem mend_step {l : List Cl} {i : Nat} (hi : i < l.length) (h : ∀ j, j < i → whole l j = true) : ∀ j, j < i + 1 → whole (mendAt i l) j = true := by
  intro j hj
  cases hw : whole l i with
  | true =>
    rw [mendAt_eq hw]
    by_cases e : j = i
    · rw [e]; exact hw
    · exact h j (by omega)
  | false =>
    unfold mendAt
    rw [hw, if_neg (by decide)]
    have hl : (l.set i (blank (l.getD i dC).2.2.1)).length = l.length := by simp
    have hb : (blank (l.getD i dC).2.2.1).2.1 = 1 := rfl
    have key : ∀ k, cw (l.set i (blank (l.getD i dC).2.2.1)) k = if k = i then 1 else cw l k := fun k => by rw [cw_set hi, hb]
    generalize l.set i (blank (l.getD i dC).2.2.1) = m at *
    by_cases e : j = i
    · subst e
      unfold whole
      rw [key, if_pos rfl]
      simp
    · have hj' : j < i := by omega
      have h1 := h j hj'
      unfold whole at h1 ⊢
      unfold whole at hw
      rw [key, key, key, if_neg e, hl]
      by_cases c2 : cw l j = 2
      · rw [if_pos c2] at h1 ⊢
        by_cases e2 : j + 1 = i
        · exfalso
          subst e2
          simp only [Bool.and_eq_true, decide_eq_true_eq] at h1
          rw [if_neg (by omega), if_pos h1.2] at hw
          simp [c2] at hw
        · rw [if_neg e2]; exact h1
      · rw [if_neg c2] at h1 ⊢
        by_cases c0 : cw l j = 0
        · rw [if_pos c0] at h1 ⊢
          have : ¬ j - 1 = i := by omega
          rw [if_neg this]
          exact h1
        · rw [if_neg c0]
theorem mend_fold (N : Nat) : ∀ (k i : Nat) (l : List Cl), i + k = N → l.length = N → (∀ j, j < i → whole l j = true) →
    ((List.range' i k).foldl (fun l i => mendAt i l) l).length = N ∧ ∀ j, j < N → whole ((List.range' i k).foldl (fun l i => mendAt i l) l) j = true
  | 0, i, l, h1, h2, h3 => ⟨h2, fun j hj => h3 j (by omega)⟩
  | k + 1, i, l, h1, h2, h3 => by
    rw [List.range'_succ, List.foldl_cons]
    exact mend_fold N k (i + 1) (mendAt i l) (by omega) (by rw [mendAt_len]; exact h2) (mend_step (by omega) h3)
theorem mend_len (l : List Cl) : (mend l).length = l.length := (mend_fold l.length l.length 0 l (by omega) rfl (fun j h => absurd h (Nat.not_lt_zero j))).1
end U
namespace Go.Proofs.YtmnbcnhpklejcaaDoor
open Go.RowKit
def d5 (a1 : List Cell) (a2 : Bool) : Tr (Bool) :=
  let v1 : Int := ((↑(U.cutL a1).length : Int))
  let v2 : Int := ((↑(U.cutL a1).length : Int))
  let v3 : Int := ((↑(U.mend (U.cutL a1)).length : Int))
  Tr.ite (decide (v2 = v1 ∧ (0 : Int) = (0 : Int)) && U.okc (U.cutL a1))
    (Tr.ite (allN (fun (i : Nat) => U.cellR ((U.cutL a1).getD i U.dC)) (U.cutL a1).length (0 : Nat))
      (Tr.ite (decide ((U.cutL a1).length ≤ (1048576 : Nat)))
        (Tr.ite (U.okc (U.mend (U.cutL a1)))
          (Tr.ite (!(U.fitC (U.mend (U.cutL a1)) && decide (v3 = v2))) (Tr.ret false)
            (Tr.ite (decide ((U.mend (U.cutL a1)).length ≤ (1048576 : Nat)))
              (Tr.ite (decide ((U.mend (U.mend (U.cutL a1))).length ≤ (1048576 : Nat)))
                (Tr.ite (!U.eqL (U.mend (U.mend (U.cutL a1)), a2, ()) (U.mend (U.cutL a1), a2, ())) (Tr.ret false)
                  (Tr.ite false (Tr.ret false)
                    (Tr.ite (U.okc (U.cutL a1))
                      (Tr.ite (!(U.fitC (U.cutL a1) && decide (v1 = v2))) (Tr.ret true)
                        (Tr.ite (decide ((U.mend (U.cutL a1)).length ≤ (1048576 : Nat))) (Tr.ret (U.eqL (U.mend (U.cutL a1), a2, ()) (U.cutL a1, a2, ()))) Tr.fail))
                      Tr.fail)))
                Tr.fail)
              Tr.fail))
          Tr.fail)
        Tr.fail)
      (Tr.ret true))
    Tr.fail
def e5 (r : Bool) : FRes := { rs := Slot.av (AV.one (Leaf.dat Kd.bool r)), upd := [], new := [] }
@[reducible] def a5 : List AK := [AK.d link]
end Go.Proofs.YtmnbcnhpklejcaaDoor
namespace U
end U
namespace Go.Proofs.YtmnbcnhpklejcaaDoor
end Go.Proofs.YtmnbcnhpklejcaaDoor

end
section
set_option linter.unusedVariables false
set_option linter.unusedSimpArgs false
set_option maxRecDepth 20000
open Go Go.Ev
namespace Go.Proofs.YtmnbcnhpklejcaaDoor
open Go.RowKit
def live32 (key : Nat) : Lv :=
  bif Nat.beq key 3 then { ls := [2, 3, 15, 16, 17], wd := [⟨3, some 1, .row 34 link⟩] } else bif Nat.beq key 1003 then { ls := [2, 3] } else
  { ls := [] }
abbrev M32 (ls : Nat → VS → Option (Tr (Ex × VS))) : Env := (E0.withFns [(27, w27)]).loops live32 ls
@[reducible] def p32_0 : LP := { n := 30, sl := [.c (Leaf.ptr ( 0) ( 0)), .c (Leaf.ptr ( 1) ( 0)), .d (link.sl), .d (.int .i64), .d (.int .i64)], bl := [(0, .box [.d (.int .i64), .c (Leaf.nils)]), (1, .box [.d (.int .i64), .c (Leaf.row ( 2))]), (2, .row 34 (link))] }
def B32_0 (x2 : List Line) (x3 : Int) (x4 : Int) (h0_0 : Int) (h1_0 : Int) (h2 : List Line) : Tr (p32_0.T ⊕ (Int × Int × List Line)) :=
  Tr.ite (decide (x4 < x3))
    (Tr.ite (inB x4 x2.length)
      (Tr.ite (decide ((h2.length + (1 : Nat)) * (32 : Nat) ≤ (140737488355328 : Nat)))
        (Tr.ret (Sum.inl ((x2, x3, IntKind.i64.wrap (x4 + (1 : Int)), ()), (h0_0, ()), (h1_0, ()), h2 ++ [(U.cutL (rget link x2 x4).fst, (rget link x2 x4).snd)], ()))) Tr.fail)
      Tr.fail)
    (Tr.ret (Sum.inr (h0_0, h1_0, h2)))
def X32_0 (r : (Int × Int × List Line)) : Ex × VS := Prod.mk (Ex.exit ( 0)) { n := 30, v := [Slot.av (AV.one (Leaf.ptr ( 0) ( 0))), Slot.av (AV.one (Leaf.ptr ( 1) ( 0)))], h := [( 0, Blk.box [Leaf.dat (.int .i64) r.fst, Leaf.nils]), ( 1, Blk.box [Leaf.dat (.int .i64) r.snd.fst, Leaf.row ( 2)]), ( 2, Blk.row ( 34) link r.snd.snd)] }
def b32_0 : p32_0.T → Tr (p32_0.T ⊕ (Int × Int × List Line)) := fun ⟨⟨x2, ⟨x3, ⟨x4, _⟩⟩⟩, ⟨⟨h0_0, _⟩, ⟨⟨h1_0, _⟩, ⟨h2, _⟩⟩⟩⟩ => B32_0 x2 x3 x4 h0_0 h1_0 h2
theorem h32_0 (ls : Nat → VS → Option (Tr (Ex × VS))) (x : p32_0.T) : (evC (evI 2) (lc Tryd.f32 0) (Env.lend (M32 ls) 0) (unV (live32 3) (p32_0.V x))).map (decL 0 (live32 3) (live32 1003)) = (b32_0 x).map (encR p32_0.V X32_0) := by
  obtain ⟨⟨x2, ⟨x3, ⟨x4, _⟩⟩⟩, ⟨⟨h0_0, _⟩, ⟨⟨h1_0, _⟩, ⟨h2, _⟩⟩⟩⟩ := x; kernel_rfl
theorem c32_0 (x : p32_0.T) : canV 0 (live32 3) (unV (live32 3) (p32_0.V x)) = p32_0.V x := by
  obtain ⟨⟨x2, ⟨x3, ⟨x4, _⟩⟩⟩, ⟨⟨h0_0, _⟩, ⟨⟨h1_0, _⟩, ⟨h2, _⟩⟩⟩⟩ := x; kernel_rfl
theorem l32_0 {T : p32_0.T → Tr (Int × Int × List Line)} {ls : Nat → VS → Option (Tr (Ex × VS))} (hls : ∀ x, (Env.lend (M32 ls) 0).ls 3 x = p32_0.ls (fun a => (T a).map X32_0) x) (hS : ∀ x r, (T x).val = some r → Rounds b32_0 x r) : LoopOK (evI 2) (Env.lend (M32 ls) 0) (lc Tryd.f32 0) :=
  loopA 3 (live32 3) (live32 1003) p32_0 b32_0 X32_0 T (by kernel_rfl) rfl rfl hls (h32_0 ls) c32_0 hS
def T32 (x : p32_0.T) : Tr (Int × Int × List Line) :=
  .ite (decide ((x.1.2.1 : Int) = (List.length (α := Line) x.1.1 : Int) ∧ (x.1.2.2.1 : Int) = 0 ∧ List.length (α := Line) x.2.2.2.1 + List.length (α := Line) x.1.1 ≤ 1048576))
    (.ret (x.2.1.1, x.2.2.1.1, x.2.2.2.1 ++ List.map (α := Line) (β := Line) (fun y => (U.cutL y.1, y.2.1, ())) x.1.1)) .fail
abbrev E32 : Env := M32 fun key x => bif Nat.beq key 3 then p32_0.ls (fun a => (T32 a).map X32_0) x else none
theorem L32 : LoopOK (evI 2) (E32.lend 0) (lc Tryd.f32 0) := by
  refine l32_0 (T := T32) (fun x => rfl) ?_
  rintro ⟨⟨l, n, i, z⟩, ⟨h0, z0⟩, ⟨h1, z1⟩, h2, z2⟩ r h
  obtain ⟨g1, g2⟩ := pre_val h
  obtain ⟨e1, e2, e3⟩ := of_decide_eq_true g1
  dsimp only at e1 e2 e3 g2
  subst e1; subst e2
  cases g2
  have := Rounds.fold0 (B := b32_0) (σ := List Line) l (fun i s => ((l, (l.length : Int), (i : Int), ()), (h0, ()), (h1, ()), s, ())) (fun s y => s ++ [(U.cutL y.1, y.2.1, ())]) (fun s => (h0, h1, s)) (fun i s => s.length + (l.length - i) ≤ 1048576) h2 (by omega) (fun i s hi hv => ?_) (fun s hv => ?_)
  · have e : ∀ (l : List Line) (a : List Line), l.foldl (fun s y => s ++ [(U.cutL y.1, y.2.1, ())]) a = a ++ l.map (fun y => (U.cutL y.1, y.2.1, ())) := by
      intro l
      induction l with
      | nil => intro a; simp
      | cons x l ih => intro a; rw [List.foldl_cons, ih]; simp
    rw [e] at this
    exact this
  · have e : rget link l (i : Int) = l[i] := by rw [rgetL]; exact getD_el hi
    have e8 : (s.length + 1) * 32 ≤ 140737488355328 := by omega
    refine ⟨?_, by simp only [List.length_append, List.length_singleton]; omega⟩
    simp only [b32_0, B32_0, Tr.val, e, e8, inB_nat hi, show ((i : Int) < (l.length : Int)) by omega, and_self, decide_true, cond_true, wrap64_nat (show i ≤ 1048576 by omega)]
  · simp only [b32_0, B32_0, Tr.val, show ¬ ((l.length : Int) < (l.length : Int)) by omega, decide_false, cond_false]
def d32 (a1 : Int) (a2 : List Line) : Tr (Int × List Line) :=
  let v1 : Int := ((↑a2.length : Int))
  let v2 : Int := (minI v1 (52 : Int))
  let v3 : List Line := (sub a2 (0 : Nat) v2.toNat)
  let v4 : Int := ((↑v3.length : Int))
  let v5 : Int := ((↑v3.length : Int))
  Tr.ite (decide ((0 : Int) ≤ v2 ∧ v2 ≤ v1))
    (Tr.ite (decide (v5 = v4 ∧ (0 : Int) = (0 : Int) ∧ (0 : Nat) + v3.length ≤ (1048576 : Nat))) (Tr.ret (a1, List.map (fun (y : Line) => (U.cutL y.fst, y.snd.fst, ())) v3)) Tr.fail) Tr.fail
def e32 (r : Int × List Line) : FRes := { rs := Slot.av (AV.agg [Leaf.dat (.int .i64) r.fst, Leaf.dat link.sl r.snd]), upd := [], new := [] }
@[reducible] def a32 : List AK := [AK.d gridk]
@[reducible] def b32 : List BK := []
theorem t32 (a1 : Int) (a2 : List Line) : evFn (E32) Tryd.f32 [PM.data gridk] (akAV a32 ((a1, a2, ()), ())) (bkBs b32 ()) = (d32 a1 a2).map e32 := by kernel_rfl
def s32' (G : akT a32 → Int × List Line) : FSpec := aspec0 a32 b32 e32 (fun x _ => G x)
theorem k32' {G : akT a32 → Int × List Line} (hd : ∀ (a1 : Int) (a2 : List Line), (d32 a1 a2).val = some (G ((a1, a2, ()), ()))) (IO : ItOK Tryd.prog (E32) := by exact itOK_none rfl) (L : ∀ c, Tryd.f32.body = some c → LsOK (evI 2) ((E32).lend 0) c := by exact fun c _ => LsOK_none rfl c) : SpecOK Tryd.prog E0 32 (s32' G) :=
  aspec0_ok (ak := a32) (bl := b32) (e := e32) (g := fun x _ => G x) (E0 := E0) (E := E32) tab (.cons wk27 .nil) rfl rfl hm Tryd.func32 (by kernel_rfl) [PM.data gridk] (fun X Y => by obtain ⟨⟨a1, ⟨a2, _⟩⟩, _⟩ := X; exact val_of (t32 a1 a2) (hd a1 a2)) IO L
abbrev w32 : FSpec := s32' fun x => (x.1.1, U.few x.1.2.1 52)
theorem wk32 : SpecOK Tryd.prog E0 32 w32 := by
  refine k32' (fun c l => ?_) (L := ls_ok (lcs := [lc Tryd.f32 0]) (rgs := []) (by kernel_rfl) (by kernel_rfl) L32 trivial)
  show _ = some (c, U.few l 52)
  have e6 : minI (l.length : Int) 52 = ((min l.length 52 : Nat) : Int) := minI_nat _ 52
  have e7 : (0 : Int) ≤ ((min l.length 52 : Nat) : Int) ∧ ((min l.length 52 : Nat) : Int) ≤ (l.length : Int) := by omega
  have e9 : sub l 0 (min l.length 52) = l.take 52 := by
    unfold sub
    rw [List.drop_zero]
    rcases Nat.le_total l.length 52 with h | h
    · rw [Nat.min_eq_left h, List.take_length, List.take_of_length_le h]
    · rw [Nat.min_eq_right h]
  have e10 : 0 + (l.take 52).length ≤ 1048576 := by rw [List.length_take]; omega
  simp only [d32, Tr.val, e6, e7, e9, e10, Int.toNat_natCast, List.length_nil, and_self, decide_true, cond_true, List.nil_append]
  rfl
def d100 (a1 : Int) (a2 : Int) (a3 : Int) : Tr (ByteArray × Int × Int × Int × Int) :=
  Tr.ret (ByteArray.empty, (1 : Int), (0 : Int), a2, (0 : Int))
def e100 (r : ByteArray × Int × Int × Int × Int) : FRes := { rs := Slot.av (AV.agg [Leaf.dat Kd.str r.fst, Leaf.dat (.int .i64) r.snd.fst, Leaf.dat (.int .i64) r.snd.snd.fst, Leaf.dat (.int .i64) r.snd.snd.snd.fst, Leaf.dat (.int .i64) r.snd.snd.snd.snd]), upd := [], new := [] }
@[reducible] def a100 : List AK := [AK.d attk]
@[reducible] def b100 : List BK := []
theorem t100 (a1 : Int) (a2 : Int) (a3 : Int) : evFn (E0) Tryd.f100 [PM.data celk] (akAV a100 ((a1, a2, a3, ()), ())) (bkBs b100 ()) = (d100 a1 a2 a3).map e100 := by kernel_rfl
def s100' (G : akT a100 → ByteArray × Int × Int × Int × Int) : FSpec := aspec0 a100 b100 e100 (fun x _ => G x)
theorem k100' {G : akT a100 → ByteArray × Int × Int × Int × Int} (hd : ∀ (a1 : Int) (a2 : Int) (a3 : Int), (d100 a1 a2 a3).val = some (G ((a1, a2, a3, ()), ()))) (IO : ItOK Tryd.prog (E0) := by exact itOK_none rfl) (L : ∀ c, Tryd.f100.body = some c → LsOK (evI 2) ((E0).lend 0) c := by exact fun c _ => LsOK_none rfl c) : SpecOK Tryd.prog E0 100 (s100' G) :=
  aspec0_ok (ak := a100) (bl := b100) (e := e100) (g := fun x _ => G x) (E0 := E0) (E := E0) tab .nil rfl rfl hm Tryd.func100 (by kernel_rfl) [PM.data celk] (fun X Y => by obtain ⟨⟨a1, ⟨a2, ⟨a3, _⟩⟩⟩, _⟩ := X; exact val_of (t100 a1 a2 a3) (hd a1 a2 a3)) IO L
abbrev w100 : FSpec := s100' fun x => (ByteArray.empty, (1 : Int), (0 : Int), x.1.2.1, (0 : Int))
theorem wk100 : SpecOK Tryd.prog E0 100 w100 := k100' fun a b c => rfl
abbrev G142 : List (Nat × FSpec) := [(123, w123), (100, w100)]
theorem AG142 : AllFn Tryd.prog E0 G142 := .cons wk123 (.cons wk100 .nil)
def live142 (key : Nat) : Lv :=
  bif Nat.beq key 3 then { ls := [1, 2, 3, 9, 10, 11] } else bif Nat.beq key 1003 then { ls := [1, 2, 3] } else
  { ls := [] }
abbrev M142 (ls : Nat → VS → Option (Tr (Ex × VS))) : Env := (E0.withFns G142).loops live142 ls
@[reducible] def p142_0 : LP := { n := 41, sl := [.c (Leaf.ptr ( 0) ( 0)), .c (Leaf.ptr ( 1) ( 0)), .c (Leaf.row ( 2)), .d (celk.sl), .d (.int .i64), .d (.int .i64)], bl := [(0, .box [.d (celk.sl), .d (Kd.bool)]), (1, .box [.c (Leaf.nils), .d (Kd.bool)]), (2, .row 48 (celk))] }
def B142_0 (x3 : List Cell) (x4 : Int) (x5 : Int) (h0_0 : List Cell) (h0_1 : Bool) (h1_1 : Bool) (h2 : List Cell) : Tr (p142_0.T ⊕ (List Cell × Bool × Bool × List Cell)) :=
  let v1 : Int := ((↑h0_0.length : Int))
  let v2 : List Cell := (sub h0_0 x5.toNat h0_0.length)
  let v3 : Int := (x5 + (1 : Int))
  let v4 : Int := ((↑(List.length (h2 ++ v2)) : Int))
  Tr.ite (decide (x5 < x4))
    (Tr.ite (inB x5 x3.length)
      (Tr.ite (decide (((0 : Nat) + h2.length) * (48 : Nat) ≤ (140737488355328 : Nat)))
        (Tr.ite (decide ((0 : Int) ≤ x5 ∧ x5 ≤ v1))
          (Tr.ite (decide ((h2.length + v2.length) * (48 : Nat) ≤ (140737488355328 : Nat)))
            (Tr.ite (decide ((0 : Int) ≤ x5 ∧ x5 < v4 ∧ List.length (h2 ++ v2) ≤ (1048576 : Nat)))
              (Tr.ite (!U.whole (h2 ++ v2) x5.toNat)
                (Tr.ite (decide ((h2.length + (1 : Nat)) * (48 : Nat) ≤ (140737488355328 : Nat)))
                  (Tr.ret
                    (Sum.inl
                      ((x3, x4, IntKind.i64.wrap v3, ()), (h0_0, h0_1, ()), (h1_1, ()), h2 ++ [(ByteArray.empty, (1 : Int), ((0 : Int), (rget celk x3 x5).snd.snd.fst.snd.fst, (0 : Int), ()), ())], ())))
                  Tr.fail)
                (Tr.ite (decide ((h2.length + (1 : Nat)) * (48 : Nat) ≤ (140737488355328 : Nat)))
                  (Tr.ret (Sum.inl ((x3, x4, IntKind.i64.wrap v3, ()), (h0_0, h0_1, ()), (h1_1, ()), h2 ++ [rget celk x3 x5], ()))) Tr.fail))
              Tr.fail)
            Tr.fail)
          Tr.fail)
        Tr.fail)
      Tr.fail)
    (Tr.ret (Sum.inr (h0_0, h0_1, h1_1, h2)))
def X142_0 (r : (List Cell × Bool × Bool × List Cell)) : Ex × VS := Prod.mk (Ex.exit ( 0)) { n := 41, v := [Slot.av (AV.one (Leaf.ptr ( 0) ( 0))), Slot.av (AV.one (Leaf.ptr ( 1) ( 0))), Slot.av (AV.one (Leaf.row ( 2)))], h := [( 0, Blk.box [Leaf.dat celk.sl r.fst, Leaf.dat Kd.bool r.snd.fst]), ( 1, Blk.box [Leaf.nils, Leaf.dat Kd.bool r.snd.snd.fst]), ( 2, Blk.row ( 48) celk r.snd.snd.snd)] }
def b142_0 : p142_0.T → Tr (p142_0.T ⊕ (List Cell × Bool × Bool × List Cell)) := fun ⟨⟨x3, ⟨x4, ⟨x5, _⟩⟩⟩, ⟨⟨h0_0, ⟨h0_1, _⟩⟩, ⟨⟨h1_1, _⟩, ⟨h2, _⟩⟩⟩⟩ => B142_0 x3 x4 x5 h0_0 h0_1 h1_1 h2
theorem h142_0 (ls : Nat → VS → Option (Tr (Ex × VS))) (x : p142_0.T) : (evC (evI 2) (lc Tryd.f142 0) (Env.lend (M142 ls) 0) (unV (live142 3) (p142_0.V x))).map (decL 0 (live142 3) (live142 1003)) = (b142_0 x).map (encR p142_0.V X142_0) := by
  obtain ⟨⟨x3, ⟨x4, ⟨x5, _⟩⟩⟩, ⟨⟨h0_0, ⟨h0_1, _⟩⟩, ⟨⟨h1_1, _⟩, ⟨h2, _⟩⟩⟩⟩ := x; kernel_rfl
theorem c142_0 (x : p142_0.T) : canV 0 (live142 3) (unV (live142 3) (p142_0.V x)) = p142_0.V x := by
  obtain ⟨⟨x3, ⟨x4, ⟨x5, _⟩⟩⟩, ⟨⟨h0_0, ⟨h0_1, _⟩⟩, ⟨⟨h1_1, _⟩, ⟨h2, _⟩⟩⟩⟩ := x; kernel_rfl
theorem l142_0 {T : p142_0.T → Tr (List Cell × Bool × Bool × List Cell)} {ls : Nat → VS → Option (Tr (Ex × VS))} (hls : ∀ x, (Env.lend (M142 ls) 0).ls 3 x = p142_0.ls (fun a => (T a).map X142_0) x) (hS : ∀ x r, (T x).val = some r → Rounds b142_0 x r) : LoopOK (evI 2) (Env.lend (M142 ls) 0) (lc Tryd.f142 0) :=
  loopA 3 (live142 3) (live142 1003) p142_0 b142_0 X142_0 T (by kernel_rfl) rfl rfl hls (h142_0 ls) c142_0 hS
def T142 (x : p142_0.T) : Tr (List Cell × Bool × Bool × List Cell) :=
  .ite (decide ((x.1.2.1 : Int) = (List.length (α := Cell) x.1.1 : Int) ∧ (x.1.2.2.1 : Int) = 0 ∧ List.length (α := Cell) x.1.1 ≤ 1048576 ∧ List.length (α := Cell) x.2.2.2.1 = 0) && U.eqL (x.1.1, false, ()) (x.2.1.1, false, ()))
    (.ret (x.2.1.1, x.2.1.2.1, x.2.2.1.1, U.mend x.1.1)) .fail
abbrev E142 : Env := M142 fun key x => bif Nat.beq key 3 then p142_0.ls (fun a => (T142 a).map X142_0) x else none
theorem take_mend {m : List U.Cl} {i : Nat} (hi : i < m.length) : (U.mendAt i m).take (i + 1) = m.take i ++ [if U.whole m i then m.getD i U.dC else U.blank (m.getD i U.dC).2.2.1] ∧ (U.mendAt i m).drop (i + 1) = m.drop (i + 1) := by
  unfold U.mendAt
  split
  · refine ⟨?_, rfl⟩
    rw [List.take_add_one, getD_el hi, List.getElem?_eq_getElem hi]
    rfl
  · refine ⟨?_, by rw [List.drop_set_of_lt (by omega)]⟩
    rw [List.take_add_one, List.take_set_of_le (Nat.le_refl i), List.getElem?_set, if_pos rfl, if_pos hi]
    rfl
theorem L142 : LoopOK (evI 2) (E142.lend 0) (lc Tryd.f142 0) := by
  refine l142_0 (T := T142) (fun x => rfl) ?_
  rintro ⟨⟨l, n, i, z⟩, ⟨l', s, z0⟩, ⟨t, z1⟩, o, z2⟩ r h
  obtain ⟨g1, g2⟩ := pre_val h
  rw [Bool.and_eq_true] at g1
  obtain ⟨g1, g3⟩ := g1
  have g1 : (n : Int) = (l.length : Int) ∧ (i : Int) = 0 ∧ l.length ≤ 1048576 ∧ o.length = 0 := of_decide_eq_true g1
  have hll : l = l' := by
    have := U.eqL_iff.1 g3
    cases this
    rfl
  clear g3
  obtain ⟨rfl, rfl, e3, e5⟩ := g1
  subst hll
  have e5 : o = [] := List.eq_nil_of_length_eq_zero e5
  subst e5
  cases g2
  have := Rounds.uptoA (B := b142_0) (σ := List Cell) (N := l.length) (fun i m => ((l, (l.length : Int), (i : Int), ()), (l, s, ()), (t, ()), m.take i, ())) U.mendAt (fun m => (l, s, t, m)) (fun i m => m.length = l.length ∧ m.drop i = l.drop i) (fun i m hi hv => ?_) (fun m hv => ?_) l.length 0 l (by omega) ⟨rfl, rfl⟩
  · exact this
  · obtain ⟨v1, v2⟩ := hv
    have hi' : i < m.length := by omega
    obtain ⟨t1, t2⟩ := take_mend hi'
    have e6 : m.take i ++ sub l i l.length = m := by
      unfold sub
      rw [List.take_length, ← v2, List.take_append_drop]
    have e7 : l.getD i U.dC = m.getD i U.dC := by
      have h1 := congrArg (fun q : List Cell => q[0]?) v2
      simp only [List.getElem?_drop, Nat.add_zero] at h1
      rw [List.getD_eq_getElem?_getD, List.getD_eq_getElem?_getD, h1]
    have lt : (m.take i).length = i := by rw [List.length_take]; omega
    have ls : (sub l i l.length).length = l.length - i := by unfold sub; rw [List.take_length, List.length_drop]
    have f1 : (0 + i) * 48 ≤ 140737488355328 := by omega
    have f2 : (i + (l.length - i)) * 48 ≤ 140737488355328 := by omega
    have f3 : (i + 1) * 48 ≤ 140737488355328 := by omega
    have f4 : (0 : Int) ≤ (i : Int) ∧ (i : Int) ≤ (l.length : Int) := by omega
    have f5 : (0 : Int) ≤ (i : Int) ∧ (i : Int) < (m.length : Int) ∧ m.length ≤ 1048576 := by omega
    refine ⟨?_, by rw [U.mendAt_len]; exact v1, by rw [t2, ← List.drop_drop, v2, List.drop_drop]⟩
    rw [t1]
    cases hw : U.whole m i with
    | true => simp only [b142_0, B142_0, Tr.val, inB_nat hi, lt, ls, e6, f1, f2, f3, f4, f5, hw, Int.toNat_natCast, rgetC, e7, show ((i : Int) < (l.length : Int)) by omega, and_self, decide_true, cond_true, cond_false, Bool.not_true, if_true, wrap64_nat (show i ≤ 1048576 by omega)]
    | false =>
      simp only [b142_0, B142_0, Tr.val, inB_nat hi, lt, ls, e6, f1, f2, f3, f4, f5, hw, Int.toNat_natCast, rgetC, e7, show ((i : Int) < (l.length : Int)) by omega, and_self, decide_true, cond_true, cond_false, Bool.not_false, Bool.false_eq_true, if_false, wrap64_nat (show i ≤ 1048576 by omega)]
      rfl
  · obtain ⟨v1, v2⟩ := hv
    simp only [b142_0, B142_0, Tr.val, show ¬ ((l.length : Int) < (l.length : Int)) by omega, decide_false, cond_false]
    rw [List.take_of_length_le (by omega)]
def d142 (a1 : List Cell) (a2 : Bool) : Tr (List U.Cl × Bool) :=
  let v1 : Int := ((↑a1.length : Int))
  let v2 : Int := ((↑a1.length : Int))
  Tr.ite (decide (v2 = v1 ∧ (0 : Int) = (0 : Int) ∧ a1.length ≤ (1048576 : Nat) ∧ (0 : Nat) = (0 : Nat)) && U.eqL (a1, false, ()) (a1, false, ())) (Tr.ret (U.mend a1, a2)) Tr.fail
def e142 (r : List U.Cl × Bool) : FRes := { rs := Slot.av (AV.agg [Leaf.dat celk.sl r.fst, Leaf.dat Kd.bool r.snd]), upd := [], new := [] }
@[reducible] def a142 : List AK := [AK.d link]
@[reducible] def b142 : List BK := []
theorem t142 (a1 : List Cell) (a2 : Bool) : evFn (E142) Tryd.f142 [PM.data link] (akAV a142 ((a1, a2, ()), ())) (bkBs b142 ()) = (d142 a1 a2).map e142 := by kernel_rfl
def s142 (C : akT a142 → Bool) (G : akT a142 → List U.Cl × Bool) : FSpec := aspec a142 b142 e142 (fun x _ => C x) (fun x _ => G x)
theorem k142 {C : akT a142 → Bool} {G : akT a142 → List U.Cl × Bool} (hd : ∀ (a1 : List Cell) (a2 : Bool), C ((a1, a2, ()), ()) = true → (d142 a1 a2).val = some (G ((a1, a2, ()), ()))) (IO : ItOK Tryd.prog (E142) := by exact itOK_none rfl) (L : ∀ c, Tryd.f142.body = some c → LsOK (evI 2) ((E142).lend 0) c := by exact fun c _ => LsOK_none rfl c) : SpecOK Tryd.prog E0 142 (s142 C G) :=
  aspec_ok (ak := a142) (bl := b142) (e := e142) (c := fun x _ => C x) (g := fun x _ => G x) (E0 := E0) (E := E142) tab AG142 rfl rfl hm Tryd.func142 (by kernel_rfl) [PM.data link] (fun X Y H => by obtain ⟨⟨a1, ⟨a2, _⟩⟩, _⟩ := X; exact val_of (t142 a1 a2) (hd a1 a2 H)) IO L
abbrev w142 : FSpec := s142 (fun x => decide (List.length (α := Cell) x.1.1 ≤ 1048576)) fun x => (U.mend x.1.1, x.1.2.1)
theorem wk142 : SpecOK Tryd.prog E0 142 w142 := by
  refine k142 (fun l s H => ?_) (L := ls_ok (lcs := [lc Tryd.f142 0]) (rgs := []) (by kernel_rfl) (by kernel_rfl) L142 trivial)
  have hl : l.length ≤ 1048576 := of_decide_eq_true H
  show _ = some (U.mend l, s)
  simp only [d142, Tr.val, hl, U.eqL_refl, decide_true, and_self, cond_true, List.length_nil, Bool.and_self]
def live98 (key : Nat) : Lv :=
  bif Nat.beq key 2 then { ls := [1, 6, 7, 8] } else bif Nat.beq key 1002 then { ls := [1, 2] } else
  { ls := [] }
abbrev M98 (ls : Nat → VS → Option (Tr (Ex × VS))) : Env := (E0.withFns [(71, w71)]).loops live98 ls
@[reducible] def p98_0 : LP := { n := 38, sl := [.c (Leaf.ptr ( 0) ( 0)), .d (link.sl), .d (.int .i64), .d (.int .i64)], bl := [(0, .box [.d (.int .i64), .d (link.sl)])] }
def B98_0 (x1 : List Line) (x2 : Int) (x3 : Int) (h0_0 : Int) (h0_1 : List Line) : Tr (p98_0.T ⊕ (Int × List Line ⊕ Int × List Line)) :=
  let v1 : Int := ((↑(List.length (rget link x1 x3).fst) : Int))
  Tr.ite (decide (x3 < x2))
    (Tr.ite (inB x3 x1.length)
      (Tr.ite (U.okc (rget link x1 x3).fst)
        (Tr.ite (!(U.fitC (rget link x1 x3).fst && decide (v1 = h0_0))) (Tr.ret (Sum.inr (Sum.inl (h0_0, h0_1))))
          (Tr.ret (Sum.inl ((x1, x2, IntKind.i64.wrap (x3 + (1 : Int)), ()), (h0_0, h0_1, ()), ()))))
        Tr.fail)
      Tr.fail)
    (Tr.ret (Sum.inr (Sum.inr (h0_0, h0_1))))
def X98_0 : (Int × List Line ⊕ Int × List Line) → Ex × VS
  | (.inl r) => Prod.mk Ex.ret { n := 38, v := [Slot.av (AV.one (Leaf.ptr ( 0) ( 0))), Slot.av (AV.one (Leaf.kb false))], h := [( 0, Blk.box [Leaf.dat (.int .i64) r.fst, Leaf.dat link.sl r.snd])] }
  | (.inr r) => Prod.mk (Ex.exit ( 0)) { n := 38, v := [Slot.av (AV.one (Leaf.ptr ( 0) ( 0))), Slot.av (AV.one Leaf.undef)], h := [( 0, Blk.box [Leaf.dat (.int .i64) r.fst, Leaf.dat link.sl r.snd])] }
def b98_0 : p98_0.T → Tr (p98_0.T ⊕ (Int × List Line ⊕ Int × List Line)) := fun ⟨⟨x1, ⟨x2, ⟨x3, _⟩⟩⟩, ⟨⟨h0_0, ⟨h0_1, _⟩⟩, _⟩⟩ => B98_0 x1 x2 x3 h0_0 h0_1
theorem h98_0 (ls : Nat → VS → Option (Tr (Ex × VS))) (x : p98_0.T) : (evC (evI 2) (lc Tryd.f98 0) (Env.lend (M98 ls) 0) (unV (live98 2) (p98_0.V x))).map (decL 0 (live98 2) (live98 1002)) = (b98_0 x).map (encR p98_0.V X98_0) := by
  obtain ⟨⟨x1, ⟨x2, ⟨x3, _⟩⟩⟩, ⟨⟨h0_0, ⟨h0_1, _⟩⟩, _⟩⟩ := x; kernel_rfl
theorem c98_0 (x : p98_0.T) : canV 0 (live98 2) (unV (live98 2) (p98_0.V x)) = p98_0.V x := by
  obtain ⟨⟨x1, ⟨x2, ⟨x3, _⟩⟩⟩, ⟨⟨h0_0, ⟨h0_1, _⟩⟩, _⟩⟩ := x; kernel_rfl
theorem l98_0 {T : p98_0.T → Tr (Int × List Line ⊕ Int × List Line)} {ls : Nat → VS → Option (Tr (Ex × VS))} (hls : ∀ x, (Env.lend (M98 ls) 0).ls 2 x = p98_0.ls (fun a => (T a).map X98_0) x) (hS : ∀ x r, (T x).val = some r → Rounds b98_0 x r) : LoopOK (evI 2) (Env.lend (M98 ls) 0) (lc Tryd.f98 0) :=
  loopA 2 (live98 2) (live98 1002) p98_0 b98_0 X98_0 T (by kernel_rfl) rfl rfl hls (h98_0 ls) c98_0 hS
def T98 (x : p98_0.T) : Tr (Int × List Line ⊕ Int × List Line) :=
  .ite (decide ((x.1.2.1 : Int) = (List.length (α := Line) x.1.1 : Int) ∧ (x.1.2.2.1 : Int) = 0) && U.okl x.1.1)
    (.ite (allN (fun i => !U.misfit x.2.1.1 (List.getD (α := Line) x.1.1 i U.dL)) (List.length (α := Line) x.1.1) 0) (.ret (.inr (x.2.1.1, x.2.1.2.1))) (.ret (.inl (x.2.1.1, x.2.1.2.1)))) .fail
abbrev E98 : Env := M98 fun key x => bif Nat.beq key 2 then p98_0.ls (fun a => (T98 a).map X98_0) x else none
theorem L98 : LoopOK (evI 2) (E98.lend 0) (lc Tryd.f98 0) := by
  refine l98_0 (T := T98) (fun x => rfl) ?_
  rintro ⟨⟨l, n, i, z⟩, ⟨c, g, z1⟩, z2⟩ r h
  obtain ⟨h1, h2⟩ := pre_val h
  rw [Bool.and_eq_true] at h1
  obtain ⟨h1, hok⟩ := h1
  obtain ⟨e1, e2⟩ := of_decide_eq_true h1
  dsimp only at e1 e2 hok h2
  subst e1
  subst e2
  have hl := U.okl_len hok
  have := Rounds.all (B := b98_0) (N := l.length) (fun i => ((l, (l.length : Int), (i : Int), ()), (c, g, ()), ())) (fun i => !U.misfit c (l.getD i U.dL)) (.inl (c, g)) (.inr (c, g)) (fun i hi => ?_) ?_
  · cases ha : allN (fun i => !U.misfit c (l.getD i U.dL)) l.length 0 <;> simp only [ha, Tr.val, cond_true, cond_false] at h2 this <;> cases h2 <;> exact this
  · have h3 := U.okl_at hok hi
    have h4 : U.misfit c (l.getD i U.dL) = !(U.fitC (l.getD i U.dL).1 && decide (((l.getD i U.dL).1.length : Int) = c)) := rfl
    simp only [b98_0, B98_0, Tr.val, inB_nat hi, rgetL, h3, h4, show ((i : Int) < (l.length : Int)) by omega, decide_true, cond_true, wrap64_nat (show i ≤ 1048576 by omega)]
    cases (U.fitC (l.getD i U.dL).1 && decide (((l.getD i U.dL).1.length : Int) = c)) <;> rfl
  · simp only [b98_0, B98_0, Tr.val, show ¬ ((l.length : Int) < (l.length : Int)) by omega, decide_false, cond_false]
def d98 (a1 : Int) (a2 : List Line) : Tr (Bool) :=
  let v1 : Int := ((↑a2.length : Int))
  let v2 : Int := ((↑a2.length : Int))
  Tr.ite (decide (v2 = v1 ∧ (0 : Int) = (0 : Int)) && U.okl a2)
    (Tr.ite (allN (fun (i : Nat) => !U.misfit a1 (a2.getD i U.dL)) a2.length (0 : Nat))
      (Tr.ite (decide ((1 : Int) ≤ a1)) (Tr.ite (decide (a1 ≤ (80 : Int))) (Tr.ite (decide ((1 : Int) ≤ v2)) (Tr.ret (decide (v2 ≤ (50 : Int)))) (Tr.ret false)) (Tr.ret false)) (Tr.ret false))
      (Tr.ret false))
    Tr.fail
def e98 (r : Bool) : FRes := { rs := Slot.av (AV.one (Leaf.dat Kd.bool r)), upd := [], new := [] }
@[reducible] def a98 : List AK := [AK.d gridk]
@[reducible] def b98 : List BK := []
theorem t98 (a1 : Int) (a2 : List Line) : evFn (E98) Tryd.f98 [PM.data Kd.bool] (akAV a98 ((a1, a2, ()), ())) (bkBs b98 ()) = (d98 a1 a2).map e98 := by kernel_rfl
def s98 (C : akT a98 → Bool) (G : akT a98 → Bool) : FSpec := aspec a98 b98 e98 (fun x _ => C x) (fun x _ => G x)
theorem k98 {C : akT a98 → Bool} {G : akT a98 → Bool} (hd : ∀ (a1 : Int) (a2 : List Line), C ((a1, a2, ()), ()) = true → (d98 a1 a2).val = some (G ((a1, a2, ()), ()))) (IO : ItOK Tryd.prog (E98) := by exact itOK_none rfl) (L : ∀ c, Tryd.f98.body = some c → LsOK (evI 2) ((E98).lend 0) c := by exact fun c _ => LsOK_none rfl c) : SpecOK Tryd.prog E0 98 (s98 C G) :=
  aspec_ok (ak := a98) (bl := b98) (e := e98) (c := fun x _ => C x) (g := fun x _ => G x) (E0 := E0) (E := E98) tab (.cons wk71 .nil) rfl rfl hm Tryd.func98 (by kernel_rfl) [PM.data Kd.bool] (fun X Y H => by obtain ⟨⟨a1, ⟨a2, _⟩⟩, _⟩ := X; exact val_of (t98 a1 a2) (hd a1 a2 H)) IO L
abbrev w98 : FSpec := s98 (fun x => U.okl x.1.2.1) fun x => U.gridR x.1.1 x.1.2.1
theorem wk98 : SpecOK Tryd.prog E0 98 w98 := by
  refine k98 (fun c l H => ?_) (L := ls_ok (lcs := [lc Tryd.f98 0]) (rgs := []) (by kernel_rfl) (by kernel_rfl) L98 trivial)
  have H : U.okl l = true := H
  show _ = some (U.gridR c l)
  have e : allN (fun i => !U.misfit c (l.getD i U.dL)) l.length 0 = !l.any (U.misfit c) := by
    have := allN_list (q := fun y => !U.misfit c y) (d := U.dL) (l := l)
    rw [this, Bool.eq_iff_iff]
    simp
  unfold U.gridR U.inn
  by_cases a1 : 1 ≤ c <;> by_cases a2 : c ≤ 80 <;> by_cases a3 : 1 ≤ (l.length : Int) <;> by_cases a4 : (l.length : Int) ≤ 50 <;> cases a5 : l.any (U.misfit c) <;> rw [a5] at e <;> simp only [d98, Tr.val, H, e, a1, a2, a3, a4, a5, decide_true, decide_false, cond_true, cond_false, Bool.not_true, Bool.not_false, Bool.and_self, Bool.true_and, Bool.false_and, Bool.and_true, Bool.and_false, and_self]
end Go.Proofs.YtmnbcnhpklejcaaDoor
namespace U
theorem putAt_step {α : Type} {h : List α} {lo i : Nat} {b : α} (hi : lo + i < h.length) : (putAt h lo (List.replicate i b)).set (lo + i) b = putAt h lo (List.replicate (i + 1) b) := by
  have e : h.drop (lo + i) = h[lo + i] :: h.drop (lo + i + 1) := List.drop_eq_getElem_cons hi
  unfold putAt
  rw [List.length_replicate, List.length_replicate, e, List.set_append_right _ _ (by rw [List.length_take]; omega), List.set_append_right _ _ (by rw [List.length_take, List.length_replicate]; omega)]
  have : lo + i - (h.take lo).length - (List.replicate i b).length = 0 := by rw [List.length_take, List.length_replicate]; omega
  rw [this, List.set_cons_zero, List.replicate_succ', List.append_assoc]
  rfl
theorem putAt_fold {α : Type} {h : List α} {lo : Nat} {b : α} : ∀ (k i : Nat), lo + (i + k) ≤ h.length → (List.range' i k).foldl (fun s i => s.set (lo + i) b) (putAt h lo (List.replicate i b)) = putAt h lo (List.replicate (i + k) b)
  | 0, i, _ => rfl
  | k + 1, i, hle => by
    rw [List.range'_succ, List.foldl_cons, putAt_step (by omega), putAt_fold k (i + 1) (by omega)]
    congr 2
    omega
theorem putAt_nil {α : Type} (h : List α) (lo : Nat) : putAt h lo [] = h := by simp [putAt]
end U
namespace Go.Proofs.YtmnbcnhpklejcaaDoor
def live96 (key : Nat) : Lv :=
  bif Nat.beq key 2 then { ls := [0, 3, 6, 7] } else bif Nat.beq key 1002 then { ls := [] } else
  { ls := [] }
abbrev M96 (ls : Nat → VS → Option (Tr (Ex × VS))) : Env := (E0.withFns [(88, w88)]).loops live96 ls
@[reducible] def p96_0 : LP := { n := 16, sl := [.v 0 5, .c (Leaf.ptr ( 1) ( 0)), .d (.int .i64), .d (.int .i64)], bl := [(0, .row 48 (celk)), (1, .box [.d (.int .i64), .d (.int .i64), .d (.int .i64)])] }
def B96_0 (x0l : Int) (x0n : Int) (x2 : Int) (x3 : Int) (h0 : List Cell) (h1_0 : Int) (h1_1 : Int) (h1_2 : Int) : Tr (p96_0.T ⊕ (List Cell)) :=
  Tr.ite (decide (x3 < x2))
    (Tr.ite (decide ((0 : Int) ≤ x3 ∧ x3 < x0n))
      (Tr.ret (Sum.inl (((x0l, x0n), x2, IntKind.i64.wrap (x3 + (1 : Int)), ()), h0.set (x0l + x3).toNat (ByteArray.empty, (1 : Int), ((0 : Int), h1_1, (0 : Int), ()), ()), (h1_0, h1_1, h1_2, ()), ())))
      Tr.fail)
    (Tr.ret (Sum.inr h0))
def X96_0 (r : (List Cell)) : Ex × VS := Prod.mk (Ex.exit ( 0)) { n := 16, v := [], h := [( 0, Blk.row ( 48) celk r)] }
def b96_0 : p96_0.T → Tr (p96_0.T ⊕ (List Cell)) := fun ⟨⟨⟨x0l, x0n⟩, ⟨x2, ⟨x3, _⟩⟩⟩, ⟨h0, ⟨⟨h1_0, ⟨h1_1, ⟨h1_2, _⟩⟩⟩, _⟩⟩⟩ => B96_0 x0l x0n x2 x3 h0 h1_0 h1_1 h1_2
theorem h96_0 (ls : Nat → VS → Option (Tr (Ex × VS))) (x : p96_0.T) : (evC (evI 2) (lc Tryd.f96 0) (Env.lend (M96 ls) 1) (unV (live96 2) (p96_0.V x))).map (decL 1 (live96 2) (live96 1002)) = (b96_0 x).map (encR p96_0.V X96_0) := by
  obtain ⟨⟨⟨x0l, x0n⟩, ⟨x2, ⟨x3, _⟩⟩⟩, ⟨h0, ⟨⟨h1_0, ⟨h1_1, ⟨h1_2, _⟩⟩⟩, _⟩⟩⟩ := x; kernel_rfl
theorem c96_0 (x : p96_0.T) : canV 1 (live96 2) (unV (live96 2) (p96_0.V x)) = p96_0.V x := by
  obtain ⟨⟨⟨x0l, x0n⟩, ⟨x2, ⟨x3, _⟩⟩⟩, ⟨h0, ⟨⟨h1_0, ⟨h1_1, ⟨h1_2, _⟩⟩⟩, _⟩⟩⟩ := x; kernel_rfl
theorem l96_0 {T : p96_0.T → Tr (List Cell)} {ls : Nat → VS → Option (Tr (Ex × VS))} (hls : ∀ x, (Env.lend (M96 ls) 1).ls 2 x = p96_0.ls (fun a => (T a).map X96_0) x) (hS : ∀ x r, (T x).val = some r → Rounds b96_0 x r) : LoopOK (evI 2) (Env.lend (M96 ls) 1) (lc Tryd.f96 0) :=
  loopA 2 (live96 2) (live96 1002) p96_0 b96_0 X96_0 T (by kernel_rfl) rfl rfl hls (h96_0 ls) c96_0 hS
def T96 (x : p96_0.T) : Tr (List Cell) :=
  .ite (decide ((x.1.2.2.1 : Int) = 0 ∧ (x.1.2.1 : Int) = x.1.1.2 ∧ 0 ≤ x.1.1.1 ∧ 0 ≤ x.1.1.2 ∧ x.1.1.1.toNat + x.1.1.2.toNat ≤ List.length (α := Cell) x.2.1 ∧ List.length (α := Cell) x.2.1 ≤ 1048576))
    (.ret (putAt (α := Cell) x.2.1 x.1.1.1.toNat (List.replicate x.1.1.2.toNat (U.blank (x.2.2.1.1, x.2.2.1.2.1, x.2.2.1.2.2.1, ()))))) .fail
abbrev E96 : Env := M96 fun key x => bif Nat.beq key 2 then p96_0.ls (fun a => (T96 a).map X96_0) x else none
theorem L96 : LoopOK (evI 2) (E96.lend 1) (lc Tryd.f96 0) := by
  refine l96_0 (T := T96) (fun x => rfl) ?_
  rintro ⟨⟨⟨lo, n⟩, n', i, z⟩, h, ⟨a, b, c, z1⟩, z2⟩ r hh
  obtain ⟨g1, g2⟩ := pre_val hh
  have g1 : (i : Int) = 0 ∧ (n' : Int) = n ∧ 0 ≤ lo ∧ 0 ≤ n ∧ lo.toNat + n.toNat ≤ h.length ∧ h.length ≤ 1048576 := of_decide_eq_true g1
  obtain ⟨rfl, rfl, e3, e4, e5, e6⟩ := g1
  obtain ⟨o, rfl⟩ := Int.eq_ofNat_of_zero_le e3
  obtain ⟨m, rfl⟩ := Int.eq_ofNat_of_zero_le e4
  have e5 : o + m ≤ h.length := by simpa using e5
  cases g2
  have := Rounds.uptoA (B := b96_0) (σ := List Cell) (N := m) (fun i s => ((((o : Int), (m : Int)), (m : Int), (i : Int), ()), s, (a, b, c, ()), ())) (fun i s => s.set (o + i) (U.blank (a, b, c, ()))) (fun s => s) (fun i s => True) (fun i s hi hv => ?_) (fun s hv => ?_) m 0 h (by omega) trivial
  · have e7 := U.putAt_fold (h := h) (lo := o) (b := U.blank (a, b, c, ())) m 0 (by omega)
    rw [List.replicate_zero, U.putAt_nil] at e7
    rw [e7, Nat.zero_add] at this
    exact this
  · have e8 : ((o : Int) + (i : Int)).toNat = o + i := by omega
    refine ⟨?_, trivial⟩
    simp only [b96_0, B96_0, Tr.val, e8, show ((i : Int) < (m : Int)) by omega, show (0 : Int) ≤ (i : Int) by omega, and_self, decide_true, cond_true, wrap64_nat (show i ≤ 1048576 by omega)]
    rfl
  · simp only [b96_0, B96_0, Tr.val, show ¬ ((m : Int) < (m : Int)) by omega, decide_false, cond_false]
def d96 (al : Int) (an : Int) (b1 : Int) (b2 : Int) (b3 : Int) (h0 : List Cell) : Tr (List Cell) :=
  Tr.ite (decide ((0 : Int) = (0 : Int) ∧ an = an ∧ (0 : Int) ≤ al ∧ (0 : Int) ≤ an ∧ al.toNat + an.toNat ≤ h0.length ∧ h0.length ≤ (1048576 : Nat)))
    (Tr.ret (putAt h0 al.toNat (List.replicate an.toNat (U.blank (b1, b2, b3, ()))))) Tr.fail
def e96 (r : List Cell) : FRes := { rs := Slot.tup [], upd := [Blk.row ( 48) celk r], new := [] }
@[reducible] def a96 : List AK := [AK.v (0 : Nat) (5 : Nat), AK.d attk]
@[reducible] def b96 : List BK := [BK.row (48 : TypeId) celk]
theorem t96 (al : Int) (an : Int) (b1 : Int) (b2 : Int) (b3 : Int) (h0 : List Cell) : evFn (E96) Tryd.f96 [] (akAV a96 ((al, an), (b1, b2, b3, ()), ())) (bkBs b96 (h0, ())) = (d96 al an b1 b2 b3 h0).map e96 := by kernel_rfl
def s96 (C : akT a96 → bksT b96 → Bool) (G : akT a96 → bksT b96 → List Cell) : FSpec := aspec a96 b96 e96 (C) (G)
theorem k96 {C : akT a96 → bksT b96 → Bool} {G : akT a96 → bksT b96 → List Cell} (hd : ∀ (al : Int) (an : Int) (b1 : Int) (b2 : Int) (b3 : Int) (h0 : List Cell), C ((al, an), (b1, b2, b3, ()), ()) (h0, ()) = true → (d96 al an b1 b2 b3 h0).val = some (G ((al, an), (b1, b2, b3, ()), ()) (h0, ()))) (IO : ItOK Tryd.prog (E96) := by exact itOK_none rfl) (L : ∀ c, Tryd.f96.body = some c → LsOK (evI 2) ((E96).lend 1) c := by exact fun c _ => LsOK_none rfl c) : SpecOK Tryd.prog E0 96 (s96 C G) :=
  aspec_ok (ak := a96) (bl := b96) (e := e96) (c := C) (g := G) (E0 := E0) (E := E96) tab (.cons wk88 .nil) rfl rfl hm Tryd.func96 (by kernel_rfl) [] (fun X Y H => by obtain ⟨⟨al, an⟩, ⟨⟨b1, ⟨b2, ⟨b3, _⟩⟩⟩, _⟩⟩ := X; obtain ⟨h0, _⟩ := Y; exact val_of (t96 al an b1 b2 b3 h0) (hd al an b1 b2 b3 h0 H)) IO L
abbrev w96 : FSpec := s96 (fun x y => decide (0 ≤ x.1.1 ∧ 0 ≤ x.1.2 ∧ x.1.1.toNat + x.1.2.toNat ≤ List.length (α := Cell) y.1 ∧ List.length (α := Cell) y.1 ≤ 1048576)) fun x y => putAt (α := Cell) y.1 x.1.1.toNat (List.replicate x.1.2.toNat (U.blank x.2.1))
theorem wk96 : SpecOK Tryd.prog E0 96 w96 := by
  refine k96 (fun lo n a b c h H => ?_) (L := ls_ok (lcs := [lc Tryd.f96 0]) (rgs := []) (by kernel_rfl) (by kernel_rfl) L96 trivial)
  have H : 0 ≤ lo ∧ 0 ≤ n ∧ lo.toNat + n.toNat ≤ h.length ∧ h.length ≤ 1048576 := of_decide_eq_true H
  obtain ⟨h1, h2, h3, h4⟩ := H
  simp only [d96, Tr.val, h1, h2, h3, h4, and_self, decide_true, cond_true]
def live95 (key : Nat) : Lv :=
  bif Nat.beq key 8888 then { ls := [8] } else
  { ls := [] }
def d95 (h0 : List Cell) (h1_0 : Int) (h2_0 : Int) (h3_0 : Int) (h3_1 : Int) (h3_2 : Int) : Tr (List Cell × Int × Int × Int × Int × Int) :=
  let v1 : Int := ((↑h0.length : Int))
  let v2 : Int := (vwHi v1 (some h2_0) - vwLo (some h1_0))
  Tr.ite (vwOK v1 (some h1_0) (some h2_0))
    (Tr.ite (decide ((0 : Int) ≤ vwLo (some h1_0) ∧ (0 : Int) ≤ v2 ∧ (vwLo (some h1_0)).toNat + v2.toNat ≤ h0.length ∧ h0.length ≤ (1048576 : Nat)))
      (Tr.ret (putAt h0 (vwLo (some h1_0)).toNat (List.replicate v2.toNat (U.blank (h3_0, h3_1, h3_2, ()))), h1_0, h2_0, h3_0, h3_1, h3_2)) Tr.fail)
    Tr.fail
def e95 (r : List Cell × Int × Int × Int × Int × Int) : FRes := { rs := Slot.tup [], upd := [Blk.row ( 48) celk r.fst, Blk.box [Leaf.dat (.int .i64) r.snd.fst], Blk.box [Leaf.dat (.int .i64) r.snd.snd.fst], Blk.box [Leaf.dat (.int .i64) r.snd.snd.snd.fst, Leaf.dat (.int .i64) r.snd.snd.snd.snd.fst, Leaf.dat (.int .i64) r.snd.snd.snd.snd.snd]], new := [] }
@[reducible] def a95 : List AK := [AK.c (Leaf.row (0 : Nat)), AK.c (Leaf.ptr (1 : Nat) (0 : Nat)), AK.c (Leaf.ptr (2 : Nat) (0 : Nat)), AK.c (Leaf.ptr (3 : Nat) (0 : Nat))]
@[reducible] def b95 : List BK := [BK.row (48 : TypeId) celk, BK.box [SK.d (.int .i64)], BK.box [SK.d (.int .i64)], BK.box [SK.d (.int .i64), SK.d (.int .i64), SK.d (.int .i64)]]
theorem t95 (h0 : List Cell) (h1_0 : Int) (h2_0 : Int) (h3_0 : Int) (h3_1 : Int) (h3_2 : Int) : evFn ((E0.withFns [((96 : Nat), w96)]).loops live95 fun (x : Nat) (x_1 : VS) => none) Tryd.f95 [] (akAV a95 ()) (bkBs b95 (h0, (h1_0, ()), (h2_0, ()), (h3_0, h3_1, h3_2, ()), ())) = (d95 h0 h1_0 h2_0 h3_0 h3_1 h3_2).map e95 := by kernel_rfl
def s95 (C : akT a95 → bksT b95 → Bool) (G : akT a95 → bksT b95 → List Cell × Int × Int × Int × Int × Int) : FSpec := aspec a95 b95 e95 (C) (G)
theorem k95 {C : akT a95 → bksT b95 → Bool} {G : akT a95 → bksT b95 → List Cell × Int × Int × Int × Int × Int} (hd : ∀ (h0 : List Cell) (h1_0 : Int) (h2_0 : Int) (h3_0 : Int) (h3_1 : Int) (h3_2 : Int), C () (h0, (h1_0, ()), (h2_0, ()), (h3_0, h3_1, h3_2, ()), ()) = true → (d95 h0 h1_0 h2_0 h3_0 h3_1 h3_2).val = some (G () (h0, (h1_0, ()), (h2_0, ()), (h3_0, h3_1, h3_2, ()), ()))) (IO : ItOK Tryd.prog ((E0.withFns [((96 : Nat), w96)]).loops live95 fun (x : Nat) (x_1 : VS) => none) := by exact itOK_none rfl) (L : ∀ c, Tryd.f95.body = some c → LsOK (evI 2) (((E0.withFns [((96 : Nat), w96)]).loops live95 fun (x : Nat) (x_1 : VS) => none).lend 4) c := by exact fun c _ => LsOK_none rfl c) : SpecOK Tryd.prog E0 95 (s95 C G) :=
  aspec_ok (ak := a95) (bl := b95) (e := e95) (c := C) (g := G) (E0 := E0) (E := (E0.withFns [((96 : Nat), w96)]).loops live95 fun (x : Nat) (x_1 : VS) => none) tab (.cons wk96 .nil) rfl rfl hm Tryd.func95 (by kernel_rfl) [] (fun X Y H => by obtain ⟨h0, ⟨⟨h1_0, _⟩, ⟨⟨h2_0, _⟩, ⟨⟨h3_0, ⟨h3_1, ⟨h3_2, _⟩⟩⟩, _⟩⟩⟩⟩ := Y; exact val_of (t95 h0 h1_0 h2_0 h3_0 h3_1 h3_2) (hd h0 h1_0 h2_0 h3_0 h3_1 h3_2 H)) IO L
end Go.Proofs.YtmnbcnhpklejcaaDoor
namespace U
def blankC (l : List Cl) (f t : Nat) (a : Int × Int × Int × Unit) : List Cl := putAt l f (List.replicate (t - f) (blank a))
theorem putAt_len {α : Type} {l : List α} {f : Nat} {m : List α} (h : f + m.length ≤ l.length) : (putAt l f m).length = l.length := by
  simp only [putAt, List.length_append, List.length_take, List.length_drop]
  omega
end U
namespace Go.Proofs.YtmnbcnhpklejcaaDoor
abbrev eraseOK (f t : Int) (n : Nat) : Bool := decide (0 ≤ f ∧ f ≤ t ∧ t ≤ (n : Int) ∧ n ≤ 1048576)
abbrev w95 : FSpec := s95 (fun _ y => eraseOK y.2.1.1 y.2.2.1.1 (List.length (α := Cell) y.1)) fun _ y => (U.blankC y.1 y.2.1.1.toNat y.2.2.1.1.toNat (y.2.2.2.1.1, y.2.2.2.1.2.1, y.2.2.2.1.2.2.1, ()), y.2.1.1, y.2.2.1.1, y.2.2.2.1.1, y.2.2.2.1.2.1, y.2.2.2.1.2.2.1)
theorem wk95 : SpecOK Tryd.prog E0 95 w95 := by
  refine k95 fun h f t a b c H => ?_
  have H : 0 ≤ f ∧ f ≤ t ∧ t ≤ (h.length : Int) ∧ h.length ≤ 1048576 := of_decide_eq_true H
  obtain ⟨h1, h2, h3, h4⟩ := H
  obtain ⟨m, rfl⟩ := Int.eq_ofNat_of_zero_le h1
  obtain ⟨n, rfl⟩ := Int.eq_ofNat_of_zero_le (show 0 ≤ t by omega)
  show _ = some (U.blankC h m n (a, b, c, ()), (m : Int), (n : Int), a, b, c)
  have e1 : vwOK (h.length : Int) (some (m : Int)) (some (n : Int)) = true := by
    show decide ((0 : Int) ≤ (m : Int) ∧ (m : Int) ≤ (n : Int) ∧ (n : Int) ≤ (h.length : Int)) = true
    exact decide_eq_true (by omega)
  have e2 : vwHi (h.length : Int) (some (n : Int)) - (m : Int) = ((n - m : Nat) : Int) := by
    show (n : Int) - (m : Int) = _
    omega
  have e3 : vwLo (some (m : Int)) = (m : Int) := rfl
  have e4 : m + (n - m) ≤ h.length := by omega
  simp only [d95, Tr.val, e1, e2, e3, Int.toNat_natCast, e4, h4, Int.natCast_nonneg, and_self, decide_true, cond_true]
  rfl
namespace Er
abbrev G91 : List (Nat × FSpec) := [(97, w97), (86, w86), (95, w95), (30, w30)]
theorem AG91 : AllFn Tryd.prog E0 G91 := .cons wk97 (.cons wk86 (.cons wk95 (.cons wk30 .nil)))
def d91 (a1 : Int) (a2 : List Line) (b : Int) (h0_0 : Int) (h1_0 : Int) (h2_0 : Int) (h2_1 : Int) (h2_2 : Int) : Tr (Int × List Line × Int × Int × Int × Int × Int × Int) :=
  let v1 : List U.Cl := (U.blankC (a2.getD b.toNat link.dflt).fst h0_0.toNat h1_0.toNat (h2_0, h2_1, h2_2, ()))
  Tr.ite (decide (a2.length ≤ (1048576 : Nat)))
    (Tr.ite (inB b a2.length)
      (Tr.ite (decide (List.length (a2.getD b.toNat link.dflt).fst ≤ (1048576 : Nat)))
        (Tr.ite (eraseOK h0_0 h1_0 (List.length (a2.getD b.toNat link.dflt).fst))
          (Tr.ite (decide (v1.length ≤ (1048576 : Nat)))
            (Tr.ite (inB b a2.length) (Tr.ret (a1, a2.set b.toNat (U.mend v1, (a2.getD b.toNat link.dflt).snd), (0 : Int), h0_0, h1_0, h2_0, h2_1, h2_2)) Tr.fail) Tr.fail)
          Tr.fail)
        Tr.fail)
      Tr.fail)
    Tr.fail
def e91 (r : Int × List Line × Int × Int × Int × Int × Int × Int) : FRes := { rs := Slot.tup [AV.agg [Leaf.dat (.int .i64) r.fst, Leaf.dat link.sl r.snd.fst], AV.one (Leaf.dat (.int .i64) r.snd.snd.fst)], upd := [Blk.box [Leaf.dat (.int .i64) r.snd.snd.snd.fst], Blk.box [Leaf.dat (.int .i64) r.snd.snd.snd.snd.fst], Blk.box [Leaf.dat (.int .i64) r.snd.snd.snd.snd.snd.fst, Leaf.dat (.int .i64) r.snd.snd.snd.snd.snd.snd.fst, Leaf.dat (.int .i64) r.snd.snd.snd.snd.snd.snd.snd]], new := [] }
@[reducible] def a91 : List AK := [AK.d gridk, AK.d (.int .i64), AK.c (Leaf.fn (95 : FuncId) [(0 : Nat), (1 : Nat), (2 : Nat)])]
@[reducible] def b91 : List BK := [BK.box [SK.d (.int .i64)], BK.box [SK.d (.int .i64)], BK.box [SK.d (.int .i64), SK.d (.int .i64), SK.d (.int .i64)]]
theorem t91 (a1 : Int) (a2 : List Line) (b : Int) (h0_0 : Int) (h1_0 : Int) (h2_0 : Int) (h2_1 : Int) (h2_2 : Int) : evFn (E0.withFns G91) Tryd.f91 [PM.data gridk, PM.data (.int .i64)] (akAV a91 ((a1, a2, ()), b, ())) (bkBs b91 ((h0_0, ()), (h1_0, ()), (h2_0, h2_1, h2_2, ()), ())) = (d91 a1 a2 b h0_0 h1_0 h2_0 h2_1 h2_2).map e91 := by kernel_rfl
def s91 (C : akT a91 → bksT b91 → Bool) (G : akT a91 → bksT b91 → Int × List Line × Int × Int × Int × Int × Int × Int) : FSpec := aspec a91 b91 e91 (C) (G)
theorem k91 {C : akT a91 → bksT b91 → Bool} {G : akT a91 → bksT b91 → Int × List Line × Int × Int × Int × Int × Int × Int} (hd : ∀ (a1 : Int) (a2 : List Line) (b : Int) (h0_0 : Int) (h1_0 : Int) (h2_0 : Int) (h2_1 : Int) (h2_2 : Int), C ((a1, a2, ()), b, ()) ((h0_0, ()), (h1_0, ()), (h2_0, h2_1, h2_2, ()), ()) = true → (d91 a1 a2 b h0_0 h1_0 h2_0 h2_1 h2_2).val = some (G ((a1, a2, ()), b, ()) ((h0_0, ()), (h1_0, ()), (h2_0, h2_1, h2_2, ()), ()))) (IO : ItOK Tryd.prog (E0.withFns G91) := by exact itOK_none rfl) (L : ∀ c, Tryd.f91.body = some c → LsOK (evI 2) ((E0.withFns G91).lend 3) c := by exact fun c _ => LsOK_none rfl c) : SpecOK Tryd.prog E0 91 (s91 C G) :=
  aspec_ok (ak := a91) (bl := b91) (e := e91) (c := C) (g := G) (E0 := E0) (E := E0.withFns G91) tab AG91 rfl rfl hm Tryd.func91 (by kernel_rfl) [PM.data gridk, PM.data (.int .i64)] (fun X Y H => by obtain ⟨⟨a1, ⟨a2, _⟩⟩, ⟨b, _⟩⟩ := X; obtain ⟨⟨h0_0, _⟩, ⟨⟨h1_0, _⟩, ⟨⟨h2_0, ⟨h2_1, ⟨h2_2, _⟩⟩⟩, _⟩⟩⟩ := Y; exact val_of (t91 a1 a2 b h0_0 h1_0 h2_0 h2_1 h2_2) (hd a1 a2 b h0_0 h1_0 h2_0 h2_1 h2_2 H)) IO L
abbrev w91 : FSpec := s91 (fun x y => decide (0 ≤ (x.2.1 : Int) ∧ (x.2.1 : Int) < (List.length (α := Line) x.1.2.1 : Int) ∧ List.length (α := Line) x.1.2.1 ≤ 1048576) && eraseOK y.1.1 y.2.1.1 (List.length (α := Cell) (List.getD (α := Line) x.1.2.1 x.2.1.toNat U.dL).1))
  fun x y => (x.1.1, U.setL x.1.2.1 x.2.1.toNat fun l => U.blankC l y.1.1.toNat y.2.1.1.toNat (y.2.2.1.1, y.2.2.1.2.1, y.2.2.1.2.2.1, ()), 0, y.1.1, y.2.1.1, y.2.2.1.1, y.2.2.1.2.1, y.2.2.1.2.2.1)
theorem wk91 : SpecOK Tryd.prog E0 91 w91 := by
  refine k91 fun n l row f t a b c H => ?_
  have H : (decide (0 ≤ row ∧ row < (l.length : Int) ∧ l.length ≤ 1048576) && eraseOK f t (l.getD row.toNat U.dL).1.length) = true := H
  rw [Bool.and_eq_true] at H
  obtain ⟨H1, H2⟩ := H
  obtain ⟨h1, h2, h3⟩ := of_decide_eq_true H1
  obtain ⟨r, rfl⟩ := Int.eq_ofNat_of_zero_le h1
  have hr : r < l.length := Int.ofNat_lt.1 h2
  obtain ⟨q1, q2, q3, g4⟩ := of_decide_eq_true H2
  have e0 : l.getD r link.dflt = l.getD r U.dL := rfl
  simp only [Int.toNat_natCast] at q3 g4 H2
  have e1 : ∀ d, (U.blankC (l.getD r U.dL).1 f.toNat t.toNat d).length = (l.getD r U.dL).1.length := fun d => U.putAt_len (by rw [List.length_replicate]; omega)
  simp only [d91, Tr.val, Int.toNat_natCast, inB_nat hr, h3, e0, e1, g4, decide_true, cond_true]
  rw [H2]
  rfl
end Er
end Go.Proofs.YtmnbcnhpklejcaaDoor
namespace U
theorem place_r {c : Int} {l : List Ln} {row col : Int} (h : place c l row col = true) : gridR c l = true := by unfold place at h; rw [Bool.and_eq_true] at h; exact h.1
end U
namespace Go.Proofs.YtmnbcnhpklejcaaDoor
def d36 (a1 : Int) (a2 : List Line) (b : Int) (c : Int) : Tr (Bool) :=
  let v1 : Int := ((↑a2.length : Int))
  Tr.ite (U.okl a2)
    (Tr.ite (U.gridR a1 a2) (Tr.ite (decide ((0 : Int) ≤ b)) (Tr.ite (decide (b < v1)) (Tr.ite (decide ((0 : Int) ≤ c)) (Tr.ret (decide (c < a1))) (Tr.ret false)) (Tr.ret false)) (Tr.ret false))
      (Tr.ret false))
    Tr.fail
def e36 (r : Bool) : FRes := { rs := Slot.av (AV.one (Leaf.dat Kd.bool r)), upd := [], new := [] }
@[reducible] def a36 : List AK := [AK.d gridk, AK.d (.int .i64), AK.d (.int .i64)]
@[reducible] def b36 : List BK := []
theorem t36 (a1 : Int) (a2 : List Line) (b : Int) (c : Int) : evFn (E0.withFns [((98 : Nat), w98)]) Tryd.f36 [PM.data Kd.bool] (akAV a36 ((a1, a2, ()), b, c, ())) (bkBs b36 ()) = (d36 a1 a2 b c).map e36 := by kernel_rfl
def s36 (C : akT a36 → Bool) (G : akT a36 → Bool) : FSpec := aspec a36 b36 e36 (fun x _ => C x) (fun x _ => G x)
theorem k36 {C : akT a36 → Bool} {G : akT a36 → Bool} (hd : ∀ (a1 : Int) (a2 : List Line) (b : Int) (c : Int), C ((a1, a2, ()), b, c, ()) = true → (d36 a1 a2 b c).val = some (G ((a1, a2, ()), b, c, ()))) (IO : ItOK Tryd.prog (E0.withFns [((98 : Nat), w98)]) := by exact itOK_none rfl) (L : ∀ c, Tryd.f36.body = some c → LsOK (evI 2) ((E0.withFns [((98 : Nat), w98)]).lend 0) c := by exact fun c _ => LsOK_none rfl c) : SpecOK Tryd.prog E0 36 (s36 C G) :=
  aspec_ok (ak := a36) (bl := b36) (e := e36) (c := fun x _ => C x) (g := fun x _ => G x) (E0 := E0) (E := E0.withFns [((98 : Nat), w98)]) tab (.cons wk98 .nil) rfl rfl hm Tryd.func36 (by kernel_rfl) [PM.data Kd.bool] (fun X Y H => by obtain ⟨⟨a1, ⟨a2, _⟩⟩, ⟨b, ⟨c, _⟩⟩⟩ := X; exact val_of (t36 a1 a2 b c) (hd a1 a2 b c H)) IO L
def d41 (a1 : Int) (a2 : List Line) (b1 : Int) (b2 : List Line) : Tr (Bool) :=
  Tr.ite (decide (a1 = b1)) (Tr.ite (decide (a2.length ≤ (1048576 : Nat)) && a2.all fun (y : Line) => decide (y.fst.length ≤ (1048576 : Nat))) (Tr.ret (U.eqLs a2 b2)) Tr.fail) (Tr.ret false)
def e41 (r : Bool) : FRes := { rs := Slot.av (AV.one (Leaf.dat Kd.bool r)), upd := [], new := [] }
@[reducible] def a41 : List AK := [AK.d gridk, AK.d gridk]
@[reducible] def b41 : List BK := []
theorem t41 (a1 : Int) (a2 : List Line) (b1 : Int) (b2 : List Line) : evFn (E0.withFns [((26 : Nat), w26)]) Tryd.f41 [PM.data Kd.bool] (akAV a41 ((a1, a2, ()), (b1, b2, ()), ())) (bkBs b41 ()) = (d41 a1 a2 b1 b2).map e41 := by kernel_rfl
def s41 (C : akT a41 → Bool) (G : akT a41 → Bool) : FSpec := aspec a41 b41 e41 (fun x _ => C x) (fun x _ => G x)
theorem k41 {C : akT a41 → Bool} {G : akT a41 → Bool} (hd : ∀ (a1 : Int) (a2 : List Line) (b1 : Int) (b2 : List Line), C ((a1, a2, ()), (b1, b2, ()), ()) = true → (d41 a1 a2 b1 b2).val = some (G ((a1, a2, ()), (b1, b2, ()), ()))) (IO : ItOK Tryd.prog (E0.withFns [((26 : Nat), w26)]) := by exact itOK_none rfl) (L : ∀ c, Tryd.f41.body = some c → LsOK (evI 2) ((E0.withFns [((26 : Nat), w26)]).lend 0) c := by exact fun c _ => LsOK_none rfl c) : SpecOK Tryd.prog E0 41 (s41 C G) :=
  aspec_ok (ak := a41) (bl := b41) (e := e41) (c := fun x _ => C x) (g := fun x _ => G x) (E0 := E0) (E := E0.withFns [((26 : Nat), w26)]) tab (.cons wk26 .nil) rfl rfl hm Tryd.func41 (by kernel_rfl) [PM.data Kd.bool] (fun X Y H => by obtain ⟨⟨a1, ⟨a2, _⟩⟩, ⟨⟨b1, ⟨b2, _⟩⟩, _⟩⟩ := X; exact val_of (t41 a1 a2 b1 b2) (hd a1 a2 b1 b2 H)) IO L
abbrev w36 : FSpec := s36 (fun x => U.okl x.1.2.1) fun x => U.place x.1.1 x.1.2.1 x.2.1 x.2.2.1
theorem wk36 : SpecOK Tryd.prog E0 36 w36 := by
  refine k36 fun c l row col H => ?_
  have H : U.okl l = true := H
  show _ = some (U.place c l row col)
  unfold U.place U.inn
  cases h0 : U.gridR c l with
  | false => simp only [d36, Tr.val, H, h0, cond_true, cond_false, Bool.false_and]
  | true =>
    have e1 : (row < (l.length : Int)) = (row ≤ (l.length : Int) - 1) := propext ⟨fun h => by omega, fun h => by omega⟩
    have e2 : (col < c) = (col ≤ c - 1) := propext ⟨fun h => by omega, fun h => by omega⟩
    by_cases h1 : 0 ≤ row <;> by_cases h2 : row ≤ (l.length : Int) - 1 <;> by_cases h3 : 0 ≤ col <;> simp only [d36, Tr.val, H, h0, e1, e2, h1, h2, h3, decide_true, decide_false, cond_true, cond_false, Bool.true_and, Bool.false_and, Bool.and_false]
abbrev w41 : FSpec := s41 (fun x => okls x.1.2.1) fun x => decide ((x.1.1 : Int) = x.2.1.1) && U.eqLs x.1.2.1 x.2.1.2.1
theorem wk41 : SpecOK Tryd.prog E0 41 w41 := by
  refine k41 fun n l m k H => ?_
  have H : okls l = true := H
  show _ = some (decide (n = m) && U.eqLs l k)
  unfold okls at H
  by_cases h : n = m <;> simp only [d41, Tr.val, H, h, decide_true, decide_false, cond_true, cond_false, Bool.true_and, Bool.false_and]
def d38 (a1 : Int) (a2 : List Line) (b : Int) (c : Bool) (y1 : Int) (y2 : List Line) : Tr (Bool) :=
  Tr.ite (!c) (Tr.ite (decide (b = (1 : Int))) (Tr.ite (okls a2) (Tr.ret (decide (a1 = (0 : Int)) && U.eqLs a2 [])) Tr.fail) (Tr.ret false))
    (Tr.ite (decide (b = (0 : Int))) (Tr.ite (okls a2) (Tr.ret (decide (a1 = y1) && U.eqLs a2 y2)) Tr.fail) (Tr.ret false))
def e38 (r : Bool) : FRes := { rs := Slot.av (AV.one (Leaf.dat Kd.bool r)), upd := [], new := [] }
@[reducible] def a38 : List AK := [AK.d gridk, AK.d (.int .i64), AK.d Kd.bool, AK.d gridk]
@[reducible] def b38 : List BK := []
theorem t38 (a1 : Int) (a2 : List Line) (b : Int) (c : Bool) (y1 : Int) (y2 : List Line) : evFn (E0.withFns [((41 : Nat), w41)]) Tryd.f38 [PM.data Kd.bool] (akAV a38 ((a1, a2, ()), b, c, (y1, y2, ()), ())) (bkBs b38 ()) = (d38 a1 a2 b c y1 y2).map e38 := by kernel_rfl
def s38 (C : akT a38 → Bool) (G : akT a38 → Bool) : FSpec := aspec a38 b38 e38 (fun x _ => C x) (fun x _ => G x)
theorem k38 {C : akT a38 → Bool} {G : akT a38 → Bool} (hd : ∀ (a1 : Int) (a2 : List Line) (b : Int) (c : Bool) (y1 : Int) (y2 : List Line), C ((a1, a2, ()), b, c, (y1, y2, ()), ()) = true → (d38 a1 a2 b c y1 y2).val = some (G ((a1, a2, ()), b, c, (y1, y2, ()), ()))) (IO : ItOK Tryd.prog (E0.withFns [((41 : Nat), w41)]) := by exact itOK_none rfl) (L : ∀ c, Tryd.f38.body = some c → LsOK (evI 2) ((E0.withFns [((41 : Nat), w41)]).lend 0) c := by exact fun c _ => LsOK_none rfl c) : SpecOK Tryd.prog E0 38 (s38 C G) :=
  aspec_ok (ak := a38) (bl := b38) (e := e38) (c := fun x _ => C x) (g := fun x _ => G x) (E0 := E0) (E := E0.withFns [((41 : Nat), w41)]) tab (.cons wk41 .nil) rfl rfl hm Tryd.func38 (by kernel_rfl) [PM.data Kd.bool] (fun X Y H => by obtain ⟨⟨a1, ⟨a2, _⟩⟩, ⟨b, ⟨c, ⟨⟨y1, ⟨y2, _⟩⟩, _⟩⟩⟩⟩ := X; exact val_of (t38 a1 a2 b c y1 y2) (hd a1 a2 b c y1 y2 H)) IO L
end Go.Proofs.YtmnbcnhpklejcaaDoor
namespace U
def setC (l : List Ln) (r : Nat) (m : List Cl) : List Ln := l.set r (mend m, (l.getD r dL).2)
theorem fold_app {α : Type} (f : Nat → α) : ∀ (k i : Nat) (a : List α), (List.range' i k).foldl (fun s i => s ++ [f i]) a = a ++ (List.range' i k).map f
  | 0, _, a => by simp
  | k + 1, i, a => by rw [List.range'_succ, List.foldl_cons, fold_app f k, List.append_assoc, List.map_cons]; rfl
theorem map_ext {α : Type} {f : Nat → α} {d : α} {m : List α} {n : Nat} (hn : m.length = n) (h : ∀ i, i < n → f i = m.getD i d) : (List.range' 0 n).map f = m := by
  apply List.ext_getElem (by simp [hn])
  intro i h1 h2
  simp only [List.getElem_map, List.getElem_range', Nat.zero_add, Nat.one_mul]
  rw [h i (by omega), getD_el h2]
theorem getD_set {α : Type} {l : List α} {d x : α} {r i : Nat} (hi : i < l.length) : (l.set r x).getD i d = if r = i then x else l.getD i d := by
  rw [List.getD_eq_getElem?_getD, List.getD_eq_getElem?_getD, List.getElem?_set]
  by_cases h : r = i
  · subst h; simp [hi]
  · simp [h]
end U
namespace Go.Proofs.YtmnbcnhpklejcaaDoor
def live101 (key : Nat) : Lv :=
  bif Nat.beq key 3 then { ls := [1, 2, 6, 7, 14, 15, 16], wd := [⟨7, some 1, .row 34 link⟩] } else bif Nat.beq key 1003 then { ls := [6, 7] } else
  { ls := [] }
abbrev M101 (ls : Nat → VS → Option (Tr (Ex × VS))) : Env := (E0.withFns [(142, w142)]).loops live101 ls
@[reducible] def p101_0 : LP := { n := 37, sl := [.d (.int .i64), .d (celk.sl), .c (Leaf.ptr ( 0) ( 0)), .c (Leaf.ptr ( 1) ( 0)), .d (link.sl), .d (.int .i64), .d (.int .i64)], bl := [(0, .box [.d (.int .i64), .c (Leaf.nils)]), (1, .box [.d (.int .i64), .c (Leaf.row ( 2))]), (2, .row 34 (link))] }
def B101_0 (x0 : Int) (x1 : List Cell) (x4 : List Line) (x5 : Int) (x6 : Int) (h0_0 : Int) (h1_0 : Int) (h2 : List Line) : Tr (p101_0.T ⊕ (Int × Int × List Line)) :=
  let v1 : Int := (x6 + (1 : Int))
  Tr.ite (decide (x6 < x5))
    (Tr.ite (inB x6 x4.length)
      (Tr.ite (decide (x6 = x0))
        (Tr.ite (decide (x1.length ≤ (1048576 : Nat)))
          (Tr.ite (decide ((h2.length + (1 : Nat)) * (32 : Nat) ≤ (140737488355328 : Nat)))
            (Tr.ret (Sum.inl ((x0, x1, x4, x5, IntKind.i64.wrap v1, ()), (h0_0, ()), (h1_0, ()), h2 ++ [(U.mend x1, (rget link x4 x6).snd)], ()))) Tr.fail)
          Tr.fail)
        (Tr.ite (decide ((h2.length + (1 : Nat)) * (32 : Nat) ≤ (140737488355328 : Nat)))
          (Tr.ret (Sum.inl ((x0, x1, x4, x5, IntKind.i64.wrap v1, ()), (h0_0, ()), (h1_0, ()), h2 ++ [rget link x4 x6], ()))) Tr.fail))
      Tr.fail)
    (Tr.ret (Sum.inr (h0_0, h1_0, h2)))
def X101_0 (r : (Int × Int × List Line)) : Ex × VS := Prod.mk (Ex.exit ( 0)) { n := 37, v := [Slot.av (AV.one (Leaf.ptr ( 0) ( 0))), Slot.av (AV.one (Leaf.ptr ( 1) ( 0)))], h := [( 0, Blk.box [Leaf.dat (.int .i64) r.fst, Leaf.nils]), ( 1, Blk.box [Leaf.dat (.int .i64) r.snd.fst, Leaf.row ( 2)]), ( 2, Blk.row ( 34) link r.snd.snd)] }
def b101_0 : p101_0.T → Tr (p101_0.T ⊕ (Int × Int × List Line)) := fun ⟨⟨x0, ⟨x1, ⟨x4, ⟨x5, ⟨x6, _⟩⟩⟩⟩⟩, ⟨⟨h0_0, _⟩, ⟨⟨h1_0, _⟩, ⟨h2, _⟩⟩⟩⟩ => B101_0 x0 x1 x4 x5 x6 h0_0 h1_0 h2
theorem h101_0 (ls : Nat → VS → Option (Tr (Ex × VS))) (x : p101_0.T) : (evC (evI 2) (lc Tryd.f101 0) (Env.lend (M101 ls) 0) (unV (live101 3) (p101_0.V x))).map (decL 0 (live101 3) (live101 1003)) = (b101_0 x).map (encR p101_0.V X101_0) := by
  obtain ⟨⟨x0, ⟨x1, ⟨x4, ⟨x5, ⟨x6, _⟩⟩⟩⟩⟩, ⟨⟨h0_0, _⟩, ⟨⟨h1_0, _⟩, ⟨h2, _⟩⟩⟩⟩ := x; kernel_rfl
theorem c101_0 (x : p101_0.T) : canV 0 (live101 3) (unV (live101 3) (p101_0.V x)) = p101_0.V x := by
  obtain ⟨⟨x0, ⟨x1, ⟨x4, ⟨x5, ⟨x6, _⟩⟩⟩⟩⟩, ⟨⟨h0_0, _⟩, ⟨⟨h1_0, _⟩, ⟨h2, _⟩⟩⟩⟩ := x; kernel_rfl
theorem l101_0 {T : p101_0.T → Tr (Int × Int × List Line)} {ls : Nat → VS → Option (Tr (Ex × VS))} (hls : ∀ x, (Env.lend (M101 ls) 0).ls 3 x = p101_0.ls (fun a => (T a).map X101_0) x) (hS : ∀ x r, (T x).val = some r → Rounds b101_0 x r) : LoopOK (evI 2) (Env.lend (M101 ls) 0) (lc Tryd.f101 0) :=
  loopA 3 (live101 3) (live101 1003) p101_0 b101_0 X101_0 T (by kernel_rfl) rfl rfl hls (h101_0 ls) c101_0 hS
def T101 (x : p101_0.T) : Tr (Int × Int × List Line) :=
  .ite (decide ((x.1.2.2.2.1 : Int) = (List.length (α := Line) x.1.2.2.1 : Int) ∧ (x.1.2.2.2.2.1 : Int) = 0 ∧ 0 ≤ (x.1.1 : Int) ∧ List.length (α := Line) x.1.2.2.1 ≤ 1048576 ∧ List.length (α := Cell) x.1.2.1 ≤ 1048576 ∧ List.length (α := Line) x.2.2.2.1 = 0))
    (.ret (x.2.1.1, x.2.2.1.1, U.setC x.1.2.2.1 x.1.1.toNat x.1.2.1)) .fail
abbrev E101 : Env := M101 fun key x => bif Nat.beq key 3 then p101_0.ls (fun a => (T101 a).map X101_0) x else none
theorem L101 : LoopOK (evI 2) (E101.lend 0) (lc Tryd.f101 0) := by
  refine l101_0 (T := T101) (fun x => rfl) ?_
  rintro ⟨⟨row, m, l, n, i, z⟩, ⟨h0, z0⟩, ⟨h1, z1⟩, o, z2⟩ r h
  obtain ⟨g1, g2⟩ := pre_val h
  have g1 : (n : Int) = (l.length : Int) ∧ (i : Int) = 0 ∧ 0 ≤ (row : Int) ∧ l.length ≤ 1048576 ∧ m.length ≤ 1048576 ∧ o.length = 0 := of_decide_eq_true g1
  obtain ⟨rfl, rfl, e3, e4, e5, e6⟩ := g1
  have e6 : o = [] := List.eq_nil_of_length_eq_zero e6
  subst e6
  obtain ⟨k, rfl⟩ := Int.eq_ofNat_of_zero_le (a := row) e3
  cases g2
  have := Rounds.uptoA (B := b101_0) (σ := List Line) (N := l.length) (fun i s => (((k : Int), m, l, (l.length : Int), (i : Int), ()), (h0, ()), (h1, ()), s, ())) (fun i s => s ++ [if i = k then (U.mend m, (l.getD i U.dL).2) else l.getD i U.dL]) (fun s => (h0, h1, s)) (fun i s => s.length = i) (fun i s hi hv => ?_) (fun s hv => ?_) l.length 0 [] (by omega) rfl
  · rw [U.fold_app, List.nil_append, U.map_ext (m := U.setC l k m) (d := U.dL) (by unfold U.setC; simp) (fun i hi => ?_)] at this
    · exact this
    · unfold U.setC
      rw [U.getD_set hi]
      by_cases h : i = k
      · subst h; simp
      · rw [if_neg h, if_neg (fun e => h e.symm)]
  · have e8 : (s.length + 1) * 32 ≤ 140737488355328 := by omega
    refine ⟨?_, by simp only [List.length_append, List.length_singleton]; omega⟩
    by_cases h : i = k
    · subst h
      simp only [b101_0, B101_0, Tr.val, inB_nat hi, e5, e8, rgetL, show ((i : Int) < (l.length : Int)) by omega, decide_true, cond_true, if_true, wrap64_nat (show i ≤ 1048576 by omega)]
    · simp only [b101_0, B101_0, Tr.val, inB_nat hi, e5, e8, rgetL, h, show ((i : Int) < (l.length : Int)) by omega, show ¬ ((i : Int) = (k : Int)) by omega, decide_true, decide_false, cond_true, cond_false, if_false, wrap64_nat (show i ≤ 1048576 by omega)]
  · simp only [b101_0, B101_0, Tr.val, show ¬ ((l.length : Int) < (l.length : Int)) by omega, decide_false, cond_false]
def d101 (a1 : Int) (a2 : List Line) (b : Int) (c : List Cell) : Tr (Int × List U.Ln) :=
  let v1 : Int := ((↑a2.length : Int))
  let v2 : Int := ((↑a2.length : Int))
  Tr.ite (decide (v2 = v1 ∧ (0 : Int) = (0 : Int) ∧ (0 : Int) ≤ b ∧ a2.length ≤ (1048576 : Nat) ∧ c.length ≤ (1048576 : Nat) ∧ (0 : Nat) = (0 : Nat))) (Tr.ret (a1, U.setC a2 b.toNat c)) Tr.fail
def e101 (r : Int × List U.Ln) : FRes := { rs := Slot.av (AV.agg [Leaf.dat (.int .i64) r.fst, Leaf.dat link.sl r.snd]), upd := [], new := [] }
@[reducible] def a101 : List AK := [AK.d gridk, AK.d (.int .i64), AK.d celk.sl]
@[reducible] def b101 : List BK := []
theorem t101 (a1 : Int) (a2 : List Line) (b : Int) (c : List Cell) : evFn (E101) Tryd.f101 [PM.data gridk] (akAV a101 ((a1, a2, ()), b, c, ())) (bkBs b101 ()) = (d101 a1 a2 b c).map e101 := by kernel_rfl
def s101 (C : akT a101 → Bool) (G : akT a101 → Int × List U.Ln) : FSpec := aspec a101 b101 e101 (fun x _ => C x) (fun x _ => G x)
theorem k101 {C : akT a101 → Bool} {G : akT a101 → Int × List U.Ln} (hd : ∀ (a1 : Int) (a2 : List Line) (b : Int) (c : List Cell), C ((a1, a2, ()), b, c, ()) = true → (d101 a1 a2 b c).val = some (G ((a1, a2, ()), b, c, ()))) (IO : ItOK Tryd.prog (E101) := by exact itOK_none rfl) (L : ∀ c, Tryd.f101.body = some c → LsOK (evI 2) ((E101).lend 0) c := by exact fun c _ => LsOK_none rfl c) : SpecOK Tryd.prog E0 101 (s101 C G) :=
  aspec_ok (ak := a101) (bl := b101) (e := e101) (c := fun x _ => C x) (g := fun x _ => G x) (E0 := E0) (E := E101) tab (.cons wk142 .nil) rfl rfl hm Tryd.func101 (by kernel_rfl) [PM.data gridk] (fun X Y H => by obtain ⟨⟨a1, ⟨a2, _⟩⟩, ⟨b, ⟨c, _⟩⟩⟩ := X; exact val_of (t101 a1 a2 b c) (hd a1 a2 b c H)) IO L
abbrev w101 : FSpec := s101 (fun x => decide (0 ≤ (x.2.1 : Int) ∧ List.length (α := Line) x.1.2.1 ≤ 1048576 ∧ List.length (α := Cell) x.2.2.1 ≤ 1048576)) fun x => (x.1.1, U.setC x.1.2.1 x.2.1.toNat x.2.2.1)
theorem wk101 : SpecOK Tryd.prog E0 101 w101 := by
  refine k101 (fun c l row m H => ?_) (L := ls_ok (lcs := [lc Tryd.f101 0]) (rgs := []) (by kernel_rfl) (by kernel_rfl) L101 trivial)
  have H : (0 : Int) ≤ row ∧ l.length ≤ 1048576 ∧ m.length ≤ 1048576 := of_decide_eq_true H
  obtain ⟨h1, h2, h3⟩ := H
  simp only [d101, Tr.val, h1, h2, h3, and_self, decide_true, cond_true]
abbrev w38 : FSpec := s38 (fun x => okls x.1.2.1) fun x => bif x.2.2.1 then decide ((x.2.1 : Int) = 0) && (decide ((x.1.1 : Int) = x.2.2.2.1.1) && U.eqLs x.1.2.1 x.2.2.2.1.2.1) else decide ((x.2.1 : Int) = 1) && (decide ((x.1.1 : Int) = 0) && U.eqLs x.1.2.1 [])
theorem wk38 : SpecOK Tryd.prog E0 38 w38 := by
  refine k38 fun c l e m n k H => ?_
  have H : okls l = true := H
  show _ = some (bif m then decide (e = 0) && (decide (c = n) && U.eqLs l k) else decide (e = 1) && (decide (c = 0) && U.eqLs l []))
  cases m <;> cases h0 : decide (e = 0) <;> cases h1 : decide (e = 1) <;> simp only [d38, Tr.val, H, h0, h1, cond_true, cond_false, Bool.not_true, Bool.not_false, Bool.true_and, Bool.false_and]
end Go.Proofs.YtmnbcnhpklejcaaDoor
namespace U
end U
namespace Go.Proofs.YtmnbcnhpklejcaaDoor
end Go.Proofs.YtmnbcnhpklejcaaDoor
namespace U
end U
namespace Go.Proofs.YtmnbcnhpklejcaaDoor
end Go.Proofs.YtmnbcnhpklejcaaDoor

end
section
set_option linter.unusedVariables false
set_option linter.unusedSimpArgs false
set_option maxRecDepth 20000
set_option maxHeartbeats 8000000
open Go Go.Ev
namespace Go.Proofs.YtmnbcnhpklejcaaDoor
open Go.RowKit
def e6 (r : Bool) : FRes := { rs := Slot.av (AV.one (Leaf.dat Kd.bool r)), upd := [], new := [] }
theorem eqLs_refl (l : List U.Ln) : U.eqLs l l = true := U.eqLs_iff.2 rfl
end Go.Proofs.YtmnbcnhpklejcaaDoor

end
section
set_option linter.unusedVariables false
set_option linter.unusedSimpArgs false
set_option maxRecDepth 20000
set_option maxHeartbeats 4000000
open Go Go.Ev
namespace U
def insC (l : List Cl) (n k : Nat) (a : Int × Int × Int × Unit) : List Cl := l.take k ++ (List.replicate (min n (l.length - k)) (blank a) ++ (l.drop k).take (l.length - k - min n (l.length - k)))
def delC (l : List Cl) (n k : Nat) (a : Int × Int × Int × Unit) : List Cl := l.take k ++ (l.drop (k + min n (l.length - k)) ++ List.replicate (min n (l.length - k)) (blank a))
theorem putAt_end {α : Type} {l y : List α} {k : Nat} (hk : k + y.length = l.length) : putAt l k y = l.take k ++ y := by
  unfold putAt
  rw [List.drop_of_length_le (by omega), List.append_nil]
theorem putAt_mid {α : Type} {a r b y : List α} {k : Nat} (hk : a.length = k) (hr : r.length = y.length) : putAt (a ++ (r ++ b)) k y = a ++ (y ++ b) := by
  unfold putAt
  subst hk
  rw [List.take_left, ← List.drop_drop, List.drop_left, ← hr, List.drop_left]
theorem insC_put {l : List Cl} {n k m : Nat} {a : Int × Int × Int × Unit} (hk : k ≤ l.length) (hm : m = min n (l.length - k)) :
    putAt (putAt l (k + m) (((l.take l.length).drop k).take (l.length - (k + m)))) k (List.replicate m (blank a)) = insC l n k a := by
  have h1 : (((l.take l.length).drop k).take (l.length - (k + m))).length = l.length - (k + m) := by
    rw [List.length_take, List.length_drop, List.length_take]; omega
  rw [List.take_length] at h1 ⊢
  have e0 : putAt l (k + m) ((l.drop k).take (l.length - (k + m))) = l.take k ++ ((l.drop k).take m ++ (l.drop k).take (l.length - (k + m))) := by
    rw [putAt_end (by rw [h1]; omega), List.take_add, List.append_assoc]
  rw [e0, putAt_mid (by rw [List.length_take]; omega) (by rw [List.length_take, List.length_drop, List.length_replicate]; omega)]
  unfold insC
  subst hm
  congr 3
  omega
theorem delC_put {l : List Cl} {n k m : Nat} {a : Int × Int × Int × Unit} (hk : k ≤ l.length) (hm : m = min n (l.length - k)) :
    putAt (putAt l k ((((l.take l.length).drop (k + m))).take (l.length - k))) (l.length - m) (List.replicate m (blank a)) = delC l n k a := by
  rw [List.take_length, List.take_of_length_le (l := l.drop (k + m)) (by rw [List.length_drop]; omega)]
  unfold putAt delC
  rw [List.length_drop, List.length_replicate, ← hm]
  have e : k + (l.length - (k + m)) = l.length - m := by omega
  rw [e]
  have h1 : (l.take k ++ l.drop (k + m)).length = l.length - m := by rw [List.length_append, List.length_take, List.length_drop]; omega
  have e2 : l.take k ++ (l.drop (k + m) ++ l.drop (l.length - m)) = (l.take k ++ l.drop (k + m)) ++ l.drop (l.length - m) := (List.append_assoc _ _ _).symm
  rw [e2, List.take_left' h1, show l.length - m + m = l.length by omega, List.drop_of_length_le (l := (l.take k ++ l.drop (k + m)) ++ l.drop (l.length - m)) (by rw [List.length_append, h1, List.length_drop]; omega)]
  rw [List.append_nil, List.append_assoc]
theorem insC_len (l : List Cl) (n k : Nat) (a : Int × Int × Int × Unit) (hk : k ≤ l.length) : (insC l n k a).length = l.length := by
  unfold insC
  simp only [List.length_append, List.length_take, List.length_replicate, List.length_drop]
  omega
theorem delC_len (l : List Cl) (n k : Nat) (a : Int × Int × Int × Unit) (hk : k ≤ l.length) : (delC l n k a).length = l.length := by
  unfold delC
  simp only [List.length_append, List.length_take, List.length_replicate, List.length_drop]
  omega
end U
namespace Go.Proofs.YtmnbcnhpklejcaaDoor
open Go.RowKit
def live118 (key : Nat) : Lv :=
  bif Nat.beq key 8888 then { ls := [16, 19, 26] } else
  { ls := [] }
def d118 (h0 : List Cell) (h1_0 : Int) (h2_0 : Int) (h3_0 : Int) (h3_1 : Int) (h3_2 : Int) : Tr (List Cell × Int × Int × Int × Int × Int) :=
  let v1 : Int := ((↑(List.length h0) : Int))
  let v2 : Int := (vwHi v1 none)
  let v3 : Int := (vwLo (some (IntKind.wrap IntKind.i64 (h2_0 + minI h1_0 (IntKind.wrap IntKind.i64 (v1 - h2_0))))))
  let v4 : List Cell := (putAt h0 (Int.toNat v3) (List.take (Int.toNat (v2 - v3)) (sub h0 (Int.toNat (vwLo (some h2_0))) (Int.toNat (vwLo (some h2_0)) + Int.toNat (v2 - vwLo (some h2_0))))))
  let v5 : Int := ((↑(List.length v4) : Int))
  let v6 : Int := (vwHi v5 (some (IntKind.wrap IntKind.i64 (h2_0 + minI h1_0 (IntKind.wrap IntKind.i64 (v1 - h2_0))))) - vwLo (some h2_0))
  Tr.ite (vwOK v1 (some (IntKind.wrap IntKind.i64 (h2_0 + minI h1_0 (IntKind.wrap IntKind.i64 (v1 - h2_0))))) none)
    (Tr.ite (vwOK v1 (some h2_0) none)
      (Tr.ite (vwOK v5 (some h2_0) (some (IntKind.wrap IntKind.i64 (h2_0 + minI h1_0 (IntKind.wrap IntKind.i64 (v1 - h2_0))))))
        (Tr.ite (decide ((0 : Int) ≤ vwLo (some h2_0) ∧ (0 : Int) ≤ v6 ∧ Int.toNat (vwLo (some h2_0)) + Int.toNat v6 ≤ List.length v4 ∧ List.length v4 ≤ (1048576 : Nat)))
          (Tr.ret (putAt v4 (Int.toNat (vwLo (some h2_0))) (List.replicate (Int.toNat v6) (U.blank (h3_0, h3_1, h3_2, ()))), h1_0, h2_0, h3_0, h3_1, h3_2)) Tr.fail)
        Tr.fail)
      Tr.fail)
    Tr.fail
def e118 (r : List Cell × Int × Int × Int × Int × Int) : FRes := { rs := Slot.tup [], upd := [Blk.row ( 48) celk r.fst, Blk.box [Leaf.dat (.int .i64) r.snd.fst], Blk.box [Leaf.dat (.int .i64) r.snd.snd.fst], Blk.box [Leaf.dat (.int .i64) r.snd.snd.snd.fst, Leaf.dat (.int .i64) r.snd.snd.snd.snd.fst, Leaf.dat (.int .i64) r.snd.snd.snd.snd.snd]], new := [] }
@[reducible] def a118 : List AK := [AK.c (Leaf.row (0 : Nat)), AK.c (Leaf.ptr (1 : Nat) (0 : Nat)), AK.c (Leaf.ptr (2 : Nat) (0 : Nat)), AK.c (Leaf.ptr (3 : Nat) (0 : Nat))]
@[reducible] def b118 : List BK := [BK.row (48 : TypeId) celk, BK.box [SK.d (.int .i64)], BK.box [SK.d (.int .i64)], BK.box [SK.d (.int .i64), SK.d (.int .i64), SK.d (.int .i64)]]
theorem t118 (h0 : List Cell) (h1_0 : Int) (h2_0 : Int) (h3_0 : Int) (h3_1 : Int) (h3_2 : Int) : evFn (Env.loops (Env.withFns E0 [((96 : Nat), w96)]) live118 fun (x : Nat) (x_1 : VS) => none) Tryd.f118 [] (akAV a118 ()) (bkBs b118 (h0, (h1_0, ()), (h2_0, ()), (h3_0, h3_1, h3_2, ()), ())) = (d118 h0 h1_0 h2_0 h3_0 h3_1 h3_2).map e118 := by kernel_rfl
def s118 (C : akT a118 → bksT b118 → Bool) (G : akT a118 → bksT b118 → List Cell × Int × Int × Int × Int × Int) : FSpec := aspec a118 b118 e118 (C) (G)
theorem k118 {C : akT a118 → bksT b118 → Bool} {G : akT a118 → bksT b118 → List Cell × Int × Int × Int × Int × Int} (hd : ∀ (h0 : List Cell) (h1_0 : Int) (h2_0 : Int) (h3_0 : Int) (h3_1 : Int) (h3_2 : Int), C () (h0, (h1_0, ()), (h2_0, ()), (h3_0, h3_1, h3_2, ()), ()) = true → (d118 h0 h1_0 h2_0 h3_0 h3_1 h3_2).val = some (G () (h0, (h1_0, ()), (h2_0, ()), (h3_0, h3_1, h3_2, ()), ()))) (IO : ItOK Tryd.prog (Env.loops (Env.withFns E0 [((96 : Nat), w96)]) live118 fun (x : Nat) (x_1 : VS) => none) := by exact itOK_none rfl) (L : ∀ c, Tryd.f118.body = some c → LsOK (evI 2) ((Env.loops (Env.withFns E0 [((96 : Nat), w96)]) live118 fun (x : Nat) (x_1 : VS) => none).lend 4) c := by exact fun c _ => LsOK_none rfl c) : SpecOK Tryd.prog E0 118 (s118 C G) :=
  aspec_ok (ak := a118) (bl := b118) (e := e118) (c := C) (g := G) (E0 := E0) (E := Env.loops (Env.withFns E0 [((96 : Nat), w96)]) live118 fun (x : Nat) (x_1 : VS) => none) tab (.cons wk96 .nil) rfl rfl hm Tryd.func118 (by kernel_rfl) [] (fun X Y H => by obtain ⟨h0, ⟨⟨h1_0, _⟩, ⟨⟨h2_0, _⟩, ⟨⟨h3_0, ⟨h3_1, ⟨h3_2, _⟩⟩⟩, _⟩⟩⟩⟩ := Y; exact val_of (t118 h0 h1_0 h2_0 h3_0 h3_1 h3_2) (hd h0 h1_0 h2_0 h3_0 h3_1 h3_2 H)) IO L
def live119 (key : Nat) : Lv :=
  bif Nat.beq key 8888 then { ls := [14, 19, 26] } else
  { ls := [] }
def d119 (h0 : List Cell) (h1_0 : Int) (h2_0 : Int) (h3_0 : Int) (h3_1 : Int) (h3_2 : Int) : Tr (List Cell × Int × Int × Int × Int × Int) :=
  let v1 : Int := ((↑(List.length h0) : Int))
  let v2 : Int := (vwHi v1 none)
  let v3 : Int := (minI h1_0 (IntKind.wrap IntKind.i64 (v1 - h2_0)))
  let v4 : Int := (vwLo (some (IntKind.wrap IntKind.i64 (h2_0 + v3))))
  let v5 : List Cell := (putAt h0 (Int.toNat (vwLo (some h2_0))) (List.take (Int.toNat (v2 - vwLo (some h2_0))) (sub h0 (Int.toNat v4) (Int.toNat v4 + Int.toNat (v2 - v4)))))
  let v6 : Int := ((↑(List.length v5) : Int))
  let v7 : Int := (vwLo (some (IntKind.wrap IntKind.i64 (v6 - v3))))
  let v8 : Int := (vwHi v6 none - v7)
  Tr.ite (vwOK v1 (some h2_0) none)
    (Tr.ite (vwOK v1 (some (IntKind.wrap IntKind.i64 (h2_0 + v3))) none)
      (Tr.ite (vwOK v6 (some (IntKind.wrap IntKind.i64 (v6 - v3))) none)
        (Tr.ite (decide ((0 : Int) ≤ v7 ∧ (0 : Int) ≤ v8 ∧ Int.toNat v7 + Int.toNat v8 ≤ List.length v5 ∧ List.length v5 ≤ (1048576 : Nat)))
          (Tr.ret (putAt v5 (Int.toNat v7) (List.replicate (Int.toNat v8) (U.blank (h3_0, h3_1, h3_2, ()))), h1_0, h2_0, h3_0, h3_1, h3_2)) Tr.fail)
        Tr.fail)
      Tr.fail)
    Tr.fail
def e119 (r : List Cell × Int × Int × Int × Int × Int) : FRes := { rs := Slot.tup [], upd := [Blk.row ( 48) celk r.fst, Blk.box [Leaf.dat (.int .i64) r.snd.fst], Blk.box [Leaf.dat (.int .i64) r.snd.snd.fst], Blk.box [Leaf.dat (.int .i64) r.snd.snd.snd.fst, Leaf.dat (.int .i64) r.snd.snd.snd.snd.fst, Leaf.dat (.int .i64) r.snd.snd.snd.snd.snd]], new := [] }
@[reducible] def a119 : List AK := [AK.c (Leaf.row (0 : Nat)), AK.c (Leaf.ptr (1 : Nat) (0 : Nat)), AK.c (Leaf.ptr (2 : Nat) (0 : Nat)), AK.c (Leaf.ptr (3 : Nat) (0 : Nat))]
@[reducible] def b119 : List BK := [BK.row (48 : TypeId) celk, BK.box [SK.d (.int .i64)], BK.box [SK.d (.int .i64)], BK.box [SK.d (.int .i64), SK.d (.int .i64), SK.d (.int .i64)]]
theorem t119 (h0 : List Cell) (h1_0 : Int) (h2_0 : Int) (h3_0 : Int) (h3_1 : Int) (h3_2 : Int) : evFn (Env.loops (Env.withFns E0 [((96 : Nat), w96)]) live119 fun (x : Nat) (x_1 : VS) => none) Tryd.f119 [] (akAV a119 ()) (bkBs b119 (h0, (h1_0, ()), (h2_0, ()), (h3_0, h3_1, h3_2, ()), ())) = (d119 h0 h1_0 h2_0 h3_0 h3_1 h3_2).map e119 := by kernel_rfl
def s119 (C : akT a119 → bksT b119 → Bool) (G : akT a119 → bksT b119 → List Cell × Int × Int × Int × Int × Int) : FSpec := aspec a119 b119 e119 (C) (G)
theorem k119 {C : akT a119 → bksT b119 → Bool} {G : akT a119 → bksT b119 → List Cell × Int × Int × Int × Int × Int} (hd : ∀ (h0 : List Cell) (h1_0 : Int) (h2_0 : Int) (h3_0 : Int) (h3_1 : Int) (h3_2 : Int), C () (h0, (h1_0, ()), (h2_0, ()), (h3_0, h3_1, h3_2, ()), ()) = true → (d119 h0 h1_0 h2_0 h3_0 h3_1 h3_2).val = some (G () (h0, (h1_0, ()), (h2_0, ()), (h3_0, h3_1, h3_2, ()), ()))) (IO : ItOK Tryd.prog (Env.loops (Env.withFns E0 [((96 : Nat), w96)]) live119 fun (x : Nat) (x_1 : VS) => none) := by exact itOK_none rfl) (L : ∀ c, Tryd.f119.body = some c → LsOK (evI 2) ((Env.loops (Env.withFns E0 [((96 : Nat), w96)]) live119 fun (x : Nat) (x_1 : VS) => none).lend 4) c := by exact fun c _ => LsOK_none rfl c) : SpecOK Tryd.prog E0 119 (s119 C G) :=
  aspec_ok (ak := a119) (bl := b119) (e := e119) (c := C) (g := G) (E0 := E0) (E := Env.loops (Env.withFns E0 [((96 : Nat), w96)]) live119 fun (x : Nat) (x_1 : VS) => none) tab (.cons wk96 .nil) rfl rfl hm Tryd.func119 (by kernel_rfl) [] (fun X Y H => by obtain ⟨h0, ⟨⟨h1_0, _⟩, ⟨⟨h2_0, _⟩, ⟨⟨h3_0, ⟨h3_1, ⟨h3_2, _⟩⟩⟩, _⟩⟩⟩⟩ := Y; exact val_of (t119 h0 h1_0 h2_0 h3_0 h3_1 h3_2) (hd h0 h1_0 h2_0 h3_0 h3_1 h3_2 H)) IO L
abbrev insOK (n k : Int) (N : Nat) : Bool := decide (0 ≤ n ∧ 0 ≤ k ∧ k ≤ (N : Int) ∧ N ≤ 1048576)
abbrev w118 : FSpec := s118 (fun _ y => insOK y.2.1.1 y.2.2.1.1 (List.length (α := Cell) y.1)) fun _ y => (U.insC y.1 y.2.1.1.toNat y.2.2.1.1.toNat (y.2.2.2.1.1, y.2.2.2.1.2.1, y.2.2.2.1.2.2.1, ()), y.2.1.1, y.2.2.1.1, y.2.2.2.1.1, y.2.2.2.1.2.1, y.2.2.2.1.2.2.1)
abbrev w119 : FSpec := s119 (fun _ y => insOK y.2.1.1 y.2.2.1.1 (List.length (α := Cell) y.1)) fun _ y => (U.delC y.1 y.2.1.1.toNat y.2.2.1.1.toNat (y.2.2.2.1.1, y.2.2.2.1.2.1, y.2.2.2.1.2.2.1, ()), y.2.1.1, y.2.2.1.1, y.2.2.2.1.1, y.2.2.2.1.2.1, y.2.2.2.1.2.2.1)
theorem vwok (n : Nat) (a : Nat) (h : a ≤ n) : vwOK (n : Int) (some (a : Int)) none = true := by
  show decide ((0 : Int) ≤ (a : Int) ∧ (a : Int) ≤ (n : Int) ∧ (n : Int) ≤ (n : Int)) = true
  exact decide_eq_true (by omega)
theorem vwok2 (n : Nat) (a b : Nat) (h : a ≤ b) (h2 : b ≤ n) : vwOK (n : Int) (some (a : Int)) (some (b : Int)) = true := by
  show decide ((0 : Int) ≤ (a : Int) ∧ (a : Int) ≤ (b : Int) ∧ (b : Int) ≤ (n : Int)) = true
  exact decide_eq_true (by omega)
theorem vlo (x : Int) : vwLo (some x) = x := rfl
theorem vhi (n x : Int) : vwHi n (some x) = x := rfl
theorem vhi0 (n : Int) : vwHi n none = n := rfl
theorem wk118 : SpecOK Tryd.prog E0 118 w118 := by
  refine k118 fun h n k a b c H => ?_
  have H : 0 ≤ n ∧ 0 ≤ k ∧ k ≤ (h.length : Int) ∧ h.length ≤ 1048576 := of_decide_eq_true H
  obtain ⟨h1, h2, h3, h4⟩ := H
  obtain ⟨n, rfl⟩ := Int.eq_ofNat_of_zero_le h1
  obtain ⟨k, rfl⟩ := Int.eq_ofNat_of_zero_le h2
  show _ = some (U.insC h n k (a, b, c, ()), (n : Int), (k : Int), a, b, c)
  have h3 : k ≤ h.length := by omega
  have e1 : IntKind.wrap IntKind.i64 ((h.length : Int) - (k : Int)) = ((h.length - k : Nat) : Int) := by rw [w64 (by omega) (by omega)]; omega
  have e2 := minI_nat n (h.length - k)
  generalize hm : min n (h.length - k) = m at e2
  have e3 : IntKind.wrap IntKind.i64 ((k : Int) + (m : Int)) = ((k + m : Nat) : Int) := by rw [w64 (by omega) (by omega)]; omega
  have e4 : ((h.length : Int) - ((k + m : Nat) : Int)).toNat = h.length - (k + m) := by omega
  have e5 : (((k + m : Nat) : Int) - (k : Int)) = ((m : Nat) : Int) := by omega
  have e6 : k + ((h.length : Int) - (k : Int)).toNat = h.length := by omega
  have hl : (putAt h (k + m) ((sub h k h.length).take (h.length - (k + m)))).length = h.length := by
    rw [U.putAt_len]
    rw [List.length_take]
    unfold sub
    rw [List.length_drop, List.length_take]
    omega
  have e7 : k + m ≤ h.length := by omega
  simp only [d118, Tr.val, vlo, vhi, vhi0, e1, e2, e3, e4, e5, e6, hl, e7, h4, vwok _ _ h3, vwok _ _ e7, vwok2 _ _ _ (Nat.le_add_right k m) e7, Int.toNat_natCast, Int.natCast_nonneg, and_self, decide_true, cond_true]
  rw [show sub h k h.length = (h.take h.length).drop k from rfl, U.insC_put h3 hm.symm]
theorem wk119 : SpecOK Tryd.prog E0 119 w119 := by
  refine k119 fun h n k a b c H => ?_
  have H : 0 ≤ n ∧ 0 ≤ k ∧ k ≤ (h.length : Int) ∧ h.length ≤ 1048576 := of_decide_eq_true H
  obtain ⟨h1, h2, h3, h4⟩ := H
  obtain ⟨n, rfl⟩ := Int.eq_ofNat_of_zero_le h1
  obtain ⟨k, rfl⟩ := Int.eq_ofNat_of_zero_le h2
  show _ = some (U.delC h n k (a, b, c, ()), (n : Int), (k : Int), a, b, c)
  have h3 : k ≤ h.length := by omega
  have e1 : IntKind.wrap IntKind.i64 ((h.length : Int) - (k : Int)) = ((h.length - k : Nat) : Int) := by rw [w64 (by omega) (by omega)]; omega
  have e2 := minI_nat n (h.length - k)
  generalize hm : min n (h.length - k) = m at e2
  have e3 : IntKind.wrap IntKind.i64 ((k : Int) + (m : Int)) = ((k + m : Nat) : Int) := by rw [w64 (by omega) (by omega)]; omega
  have e4 : ((h.length : Int) - (k : Int)).toNat = h.length - k := by omega
  have e6 : (k + m) + ((h.length : Int) - ((k + m : Nat) : Int)).toNat = h.length := by omega
  have hl : (putAt h k ((sub h (k + m) h.length).take (h.length - k))).length = h.length := by
    rw [U.putAt_len]
    rw [List.length_take]
    unfold sub
    rw [List.length_drop, List.length_take]
    omega
  have e5 : IntKind.wrap IntKind.i64 ((h.length : Int) - (m : Int)) = ((h.length - m : Nat) : Int) := by rw [w64 (by omega) (by omega)]; omega
  have e7 : k + m ≤ h.length := by omega
  have e8 : (h.length : Int) - ((h.length - m : Nat) : Int) = (m : Int) := by omega
  have e9 : h.length - m + m ≤ h.length := by omega
  simp only [d119, Tr.val, vlo, vhi, vhi0, e1, e2, e3, e4, e5, e6, e8, e9, hl, h4, vwok _ _ h3, vwok _ _ e7, vwok _ _ (Nat.sub_le h.length m), Int.toNat_natCast, Int.natCast_nonneg, and_self, decide_true, cond_true]
  rw [show sub h (k + m) h.length = (h.take h.length).drop (k + m) from rfl, U.delC_put h3 hm.symm]
namespace In
abbrev G91 : List (Nat × FSpec) := [(97, w97), (86, w86), (118, w118), (30, w30)]
theorem AG91 : AllFn Tryd.prog E0 G91 := .cons wk97 (.cons wk86 (.cons wk118 (.cons wk30 .nil)))
def d91 (a1 : Int) (a2 : List Line) (b : Int) (h0_0 : Int) (h1_0 : Int) (h2_0 : Int) (h2_1 : Int) (h2_2 : Int) : Tr (Int × List Line × Int × Int × Int × Int × Int × Int) :=
  let v1 : Bool := (inB b (List.length a2))
  let v2 : List U.Cl := (U.insC (List.getD a2 (Int.toNat b) (Kd.dflt link)).fst (Int.toNat h0_0) (Int.toNat h1_0) (h2_0, h2_1, h2_2, ()))
  Tr.ite (decide (List.length a2 ≤ (1048576 : Nat)))
    (Tr.ite v1
      (Tr.ite (decide (List.length (List.getD a2 (Int.toNat b) (Kd.dflt link)).fst ≤ (1048576 : Nat)))
        (Tr.ite (insOK h0_0 h1_0 (List.length (List.getD a2 (Int.toNat b) (Kd.dflt link)).fst))
          (Tr.ite (decide (List.length v2 ≤ (1048576 : Nat)))
            (Tr.ite v1 (Tr.ret (a1, List.set a2 (Int.toNat b) (U.mend v2, (List.getD a2 (Int.toNat b) (Kd.dflt link)).snd), (0 : Int), h0_0, h1_0, h2_0, h2_1, h2_2)) Tr.fail) Tr.fail)
          Tr.fail)
        Tr.fail)
      Tr.fail)
    Tr.fail
def e91 (r : Int × List Line × Int × Int × Int × Int × Int × Int) : FRes := { rs := Slot.tup [AV.agg [Leaf.dat (.int .i64) r.fst, Leaf.dat (Kd.sl link) r.snd.fst], AV.one (Leaf.dat (.int .i64) r.snd.snd.fst)], upd := [Blk.box [Leaf.dat (.int .i64) r.snd.snd.snd.fst], Blk.box [Leaf.dat (.int .i64) r.snd.snd.snd.snd.fst], Blk.box [Leaf.dat (.int .i64) r.snd.snd.snd.snd.snd.fst, Leaf.dat (.int .i64) r.snd.snd.snd.snd.snd.snd.fst, Leaf.dat (.int .i64) r.snd.snd.snd.snd.snd.snd.snd]], new := [] }
@[reducible] def a91 : List AK := [AK.d gridk, AK.d (.int .i64), AK.c (Leaf.fn (118 : FuncId) [(0 : Nat), (1 : Nat), (2 : Nat)])]
@[reducible] def b91 : List BK := [BK.box [SK.d (.int .i64)], BK.box [SK.d (.int .i64)], BK.box [SK.d (.int .i64), SK.d (.int .i64), SK.d (.int .i64)]]
theorem t91 (a1 : Int) (a2 : List Line) (b : Int) (h0_0 : Int) (h1_0 : Int) (h2_0 : Int) (h2_1 : Int) (h2_2 : Int) : evFn (Env.withFns E0 G91) Tryd.f91 [PM.data gridk, PM.data (.int .i64)] (akAV a91 ((a1, a2, ()), b, ())) (bkBs b91 ((h0_0, ()), (h1_0, ()), (h2_0, h2_1, h2_2, ()), ())) = (d91 a1 a2 b h0_0 h1_0 h2_0 h2_1 h2_2).map e91 := by kernel_rfl
def s91 (C : akT a91 → bksT b91 → Bool) (G : akT a91 → bksT b91 → Int × List Line × Int × Int × Int × Int × Int × Int) : FSpec := aspec a91 b91 e91 (C) (G)
theorem k91 {C : akT a91 → bksT b91 → Bool} {G : akT a91 → bksT b91 → Int × List Line × Int × Int × Int × Int × Int × Int} (hd : ∀ (a1 : Int) (a2 : List Line) (b : Int) (h0_0 : Int) (h1_0 : Int) (h2_0 : Int) (h2_1 : Int) (h2_2 : Int), C ((a1, a2, ()), b, ()) ((h0_0, ()), (h1_0, ()), (h2_0, h2_1, h2_2, ()), ()) = true → (d91 a1 a2 b h0_0 h1_0 h2_0 h2_1 h2_2).val = some (G ((a1, a2, ()), b, ()) ((h0_0, ()), (h1_0, ()), (h2_0, h2_1, h2_2, ()), ()))) (IO : ItOK Tryd.prog (Env.withFns E0 G91) := by exact itOK_none rfl) (L : ∀ c, Tryd.f91.body = some c → LsOK (evI 2) ((Env.withFns E0 G91).lend 3) c := by exact fun c _ => LsOK_none rfl c) : SpecOK Tryd.prog E0 91 (s91 C G) :=
  aspec_ok (ak := a91) (bl := b91) (e := e91) (c := C) (g := G) (E0 := E0) (E := Env.withFns E0 G91) tab AG91 rfl rfl hm Tryd.func91 (by kernel_rfl) [PM.data gridk, PM.data (.int .i64)] (fun X Y H => by obtain ⟨⟨a1, ⟨a2, _⟩⟩, ⟨b, _⟩⟩ := X; obtain ⟨⟨h0_0, _⟩, ⟨⟨h1_0, _⟩, ⟨⟨h2_0, ⟨h2_1, ⟨h2_2, _⟩⟩⟩, _⟩⟩⟩ := Y; exact val_of (t91 a1 a2 b h0_0 h1_0 h2_0 h2_1 h2_2) (hd a1 a2 b h0_0 h1_0 h2_0 h2_1 h2_2 H)) IO L
abbrev w91 : FSpec := s91 (fun x y => decide (0 ≤ (x.2.1 : Int) ∧ (x.2.1 : Int) < (List.length (α := Line) x.1.2.1 : Int) ∧ List.length (α := Line) x.1.2.1 ≤ 1048576) && insOK y.1.1 y.2.1.1 (List.length (α := Cell) (List.getD (α := Line) x.1.2.1 x.2.1.toNat U.dL).1))
  fun x y => (x.1.1, U.setL x.1.2.1 x.2.1.toNat fun l => U.insC l y.1.1.toNat y.2.1.1.toNat (y.2.2.1.1, y.2.2.1.2.1, y.2.2.1.2.2.1, ()), 0, y.1.1, y.2.1.1, y.2.2.1.1, y.2.2.1.2.1, y.2.2.1.2.2.1)
theorem wk91 : SpecOK Tryd.prog E0 91 w91 := by
  refine k91 fun n l row f t a b c H => ?_
  have H : (decide (0 ≤ row ∧ row < (l.length : Int) ∧ l.length ≤ 1048576) && insOK f t (l.getD row.toNat U.dL).1.length) = true := H
  rw [Bool.and_eq_true] at H
  obtain ⟨H1, H2⟩ := H
  obtain ⟨h1, h2, h3⟩ := of_decide_eq_true H1
  obtain ⟨r, rfl⟩ := Int.eq_ofNat_of_zero_le h1
  have hr : r < l.length := Int.ofNat_lt.1 h2
  obtain ⟨q1, q2, q3, g4⟩ := of_decide_eq_true H2
  have e0 : l.getD r link.dflt = l.getD r U.dL := rfl
  simp only [Int.toNat_natCast] at q3 g4 H2
  have e1 : ∀ d, (U.insC (l.getD r U.dL).1 f.toNat t.toNat d).length = (l.getD r U.dL).1.length := fun d => U.insC_len _ _ _ _ (by omega)
  simp only [d91, Tr.val, Int.toNat_natCast, inB_nat hr, h3, e0, e1, g4, decide_true, cond_true]
  rw [H2]
  rfl
end In
namespace De
abbrev G91 : List (Nat × FSpec) := [(97, w97), (86, w86), (119, w119), (30, w30)]
theorem AG91 : AllFn Tryd.prog E0 G91 := .cons wk97 (.cons wk86 (.cons wk119 (.cons wk30 .nil)))
def d91 (a1 : Int) (a2 : List Line) (b : Int) (h0_0 : Int) (h1_0 : Int) (h2_0 : Int) (h2_1 : Int) (h2_2 : Int) : Tr (Int × List Line × Int × Int × Int × Int × Int × Int) :=
  let v1 : Bool := (inB b (List.length a2))
  let v2 : List U.Cl := (U.delC (List.getD a2 (Int.toNat b) (Kd.dflt link)).fst (Int.toNat h0_0) (Int.toNat h1_0) (h2_0, h2_1, h2_2, ()))
  Tr.ite (decide (List.length a2 ≤ (1048576 : Nat)))
    (Tr.ite v1
      (Tr.ite (decide (List.length (List.getD a2 (Int.toNat b) (Kd.dflt link)).fst ≤ (1048576 : Nat)))
        (Tr.ite (insOK h0_0 h1_0 (List.length (List.getD a2 (Int.toNat b) (Kd.dflt link)).fst))
          (Tr.ite (decide (List.length v2 ≤ (1048576 : Nat)))
            (Tr.ite v1 (Tr.ret (a1, List.set a2 (Int.toNat b) (U.mend v2, (List.getD a2 (Int.toNat b) (Kd.dflt link)).snd), (0 : Int), h0_0, h1_0, h2_0, h2_1, h2_2)) Tr.fail) Tr.fail)
          Tr.fail)
        Tr.fail)
      Tr.fail)
    Tr.fail
def e91 (r : Int × List Line × Int × Int × Int × Int × Int × Int) : FRes := { rs := Slot.tup [AV.agg [Leaf.dat (.int .i64) r.fst, Leaf.dat (Kd.sl link) r.snd.fst], AV.one (Leaf.dat (.int .i64) r.snd.snd.fst)], upd := [Blk.box [Leaf.dat (.int .i64) r.snd.snd.snd.fst], Blk.box [Leaf.dat (.int .i64) r.snd.snd.snd.snd.fst], Blk.box [Leaf.dat (.int .i64) r.snd.snd.snd.snd.snd.fst, Leaf.dat (.int .i64) r.snd.snd.snd.snd.snd.snd.fst, Leaf.dat (.int .i64) r.snd.snd.snd.snd.snd.snd.snd]], new := [] }
@[reducible] def a91 : List AK := [AK.d gridk, AK.d (.int .i64), AK.c (Leaf.fn (119 : FuncId) [(0 : Nat), (1 : Nat), (2 : Nat)])]
@[reducible] def b91 : List BK := [BK.box [SK.d (.int .i64)], BK.box [SK.d (.int .i64)], BK.box [SK.d (.int .i64), SK.d (.int .i64), SK.d (.int .i64)]]
theorem t91 (a1 : Int) (a2 : List Line) (b : Int) (h0_0 : Int) (h1_0 : Int) (h2_0 : Int) (h2_1 : Int) (h2_2 : Int) : evFn (Env.withFns E0 G91) Tryd.f91 [PM.data gridk, PM.data (.int .i64)] (akAV a91 ((a1, a2, ()), b, ())) (bkBs b91 ((h0_0, ()), (h1_0, ()), (h2_0, h2_1, h2_2, ()), ())) = (d91 a1 a2 b h0_0 h1_0 h2_0 h2_1 h2_2).map e91 := by kernel_rfl
def s91 (C : akT a91 → bksT b91 → Bool) (G : akT a91 → bksT b91 → Int × List Line × Int × Int × Int × Int × Int × Int) : FSpec := aspec a91 b91 e91 (C) (G)
theorem k91 {C : akT a91 → bksT b91 → Bool} {G : akT a91 → bksT b91 → Int × List Line × Int × Int × Int × Int × Int × Int} (hd : ∀ (a1 : Int) (a2 : List Line) (b : Int) (h0_0 : Int) (h1_0 : Int) (h2_0 : Int) (h2_1 : Int) (h2_2 : Int), C ((a1, a2, ()), b, ()) ((h0_0, ()), (h1_0, ()), (h2_0, h2_1, h2_2, ()), ()) = true → (d91 a1 a2 b h0_0 h1_0 h2_0 h2_1 h2_2).val = some (G ((a1, a2, ()), b, ()) ((h0_0, ()), (h1_0, ()), (h2_0, h2_1, h2_2, ()), ()))) (IO : ItOK Tryd.prog (Env.withFns E0 G91) := by exact itOK_none rfl) (L : ∀ c, Tryd.f91.body = some c → LsOK (evI 2) ((Env.withFns E0 G91).lend 3) c := by exact fun c _ => LsOK_none rfl c) : SpecOK Tryd.prog E0 91 (s91 C G) :=
  aspec_ok (ak := a91) (bl := b91) (e := e91) (c := C) (g := G) (E0 := E0) (E := Env.withFns E0 G91) tab AG91 rfl rfl hm Tryd.func91 (by kernel_rfl) [PM.data gridk, PM.data (.int .i64)] (fun X Y H => by obtain ⟨⟨a1, ⟨a2, _⟩⟩, ⟨b, _⟩⟩ := X; obtain ⟨⟨h0_0, _⟩, ⟨⟨h1_0, _⟩, ⟨⟨h2_0, ⟨h2_1, ⟨h2_2, _⟩⟩⟩, _⟩⟩⟩ := Y; exact val_of (t91 a1 a2 b h0_0 h1_0 h2_0 h2_1 h2_2) (hd a1 a2 b h0_0 h1_0 h2_0 h2_1 h2_2 H)) IO L
abbrev w91 : FSpec := s91 (fun x y => decide (0 ≤ (x.2.1 : Int) ∧ (x.2.1 : Int) < (List.length (α := Line) x.1.2.1 : Int) ∧ List.length (α := Line) x.1.2.1 ≤ 1048576) && insOK y.1.1 y.2.1.1 (List.length (α := Cell) (List.getD (α := Line) x.1.2.1 x.2.1.toNat U.dL).1))
  fun x y => (x.1.1, U.setL x.1.2.1 x.2.1.toNat fun l => U.delC l y.1.1.toNat y.2.1.1.toNat (y.2.2.1.1, y.2.2.1.2.1, y.2.2.1.2.2.1, ()), 0, y.1.1, y.2.1.1, y.2.2.1.1, y.2.2.1.2.1, y.2.2.1.2.2.1)
theorem wk91 : SpecOK Tryd.prog E0 91 w91 := by
  refine k91 fun n l row f t a b c H => ?_
  have H : (decide (0 ≤ row ∧ row < (l.length : Int) ∧ l.length ≤ 1048576) && insOK f t (l.getD row.toNat U.dL).1.length) = true := H
  rw [Bool.and_eq_true] at H
  obtain ⟨H1, H2⟩ := H
  obtain ⟨h1, h2, h3⟩ := of_decide_eq_true H1
  obtain ⟨r, rfl⟩ := Int.eq_ofNat_of_zero_le h1
  have hr : r < l.length := Int.ofNat_lt.1 h2
  obtain ⟨q1, q2, q3, g4⟩ := of_decide_eq_true H2
  have e0 : l.getD r link.dflt = l.getD r U.dL := rfl
  simp only [Int.toNat_natCast] at q3 g4 H2
  have e1 : ∀ d, (U.delC (l.getD r U.dL).1 f.toNat t.toNat d).length = (l.getD r U.dL).1.length := fun d => U.delC_len _ _ _ _ (by omega)
  simp only [d91, Tr.val, Int.toNat_natCast, inB_nat hr, h3, e0, e1, g4, decide_true, cond_true]
  rw [H2]
  rfl
end De
def live60 (key : Nat) : Lv :=
  bif Nat.beq key 20025 then { ls := [9999, 1, 5, 7, 8, 9, 10] } else bif Nat.beq key 40025 then { ls := [11, 26] } else
  bif Nat.beq key 25001 then { ls := [9999, 1, 5, 7, 8, 9, 10, 25] } else bif Nat.beq key 45001 then { ls := [12, 13, 14, 15, 16, 17, 18, 19, 20, 21, 22, 23, 24, 25] } else
  { ls := [] }
def d60 (a1 : Int) (a2 : List Line) (b : Int) (c : Int) (y : Int) (f1 : Int) (f2 : Int) (f3 : Int) : Tr (Int × List Line × Int) :=
  let v1 : Bool := (!U.place a1 a2 b c)
  let v2 : Int := ((↑(List.length a2) : Int))
  let v3 : Bool := (Kd.eqb (.int .i64) b b && (Kd.eqb (.int .i64) a1 a1 && Kd.eqb (Kd.sl link) a2 a2 && (Kd.eqb (.int .i64) c c && (Kd.eqb (.int .i64) y y && (Kd.eqb (.int .i64) f1 f1 && (Kd.eqb (.int .i64) f2 f2 && Kd.eqb (.int .i64) f3 f3) && true)))))
  Tr.ite (U.okl a2)
    (Tr.ite ((bif v1 then true else v3) && v3)
      (Tr.ite (bif v1 then true else bif decide (y < (0 : Int)) then true else !U.look (f1, f2, f3, ())) (Tr.ret ((0 : Int), [], (1 : Int)))
        (Tr.ite (decide ((0 : Int) ≤ b ∧ b < v2 ∧ List.length a2 ≤ (1048576 : Nat)) && insOK y c (List.length (List.getD a2 (Int.toNat b) U.dL).fst))
          (Tr.ret (a1, U.setL a2 (Int.toNat b) fun (l : List U.Cl) => U.insC l (Int.toNat y) (Int.toNat c) (f1, f2, f3, ()), (0 : Int))) Tr.fail))
      Tr.fail)
    Tr.fail
def e60 (r : Int × List Line × Int) : FRes := { rs := Slot.tup [AV.agg [Leaf.dat (.int .i64) r.fst, Leaf.dat (Kd.sl link) r.snd.fst], AV.one (Leaf.dat (.int .i64) r.snd.snd)], upd := [], new := [] }
@[reducible] def a60 : List AK := [AK.d gridk, AK.d (.int .i64), AK.d (.int .i64), AK.d (.int .i64), AK.d attk]
@[reducible] def b60 : List BK := []
theorem t60 (a1 : Int) (a2 : List Line) (b : Int) (c : Int) (y : Int) (f1 : Int) (f2 : Int) (f3 : Int) : evFn (Env.loops (Env.withFns E0 [((90 : Nat), w90), ((94 : Nat), w94), ((91 : Nat), In.w91)]) live60 fun (x : Nat) (x_1 : VS) => none) Tryd.f60 [PM.data gridk, PM.data (.int .i64)] (akAV a60 ((a1, a2, ()), b, c, y, (f1, f2, f3, ()), ())) (bkBs b60 ()) = (d60 a1 a2 b c y f1 f2 f3).map e60 := by kernel_rfl
def s60 (C : akT a60 → Bool) (G : akT a60 → Int × List Line × Int) : FSpec := aspec a60 b60 e60 (fun x _ => C x) (fun x _ => G x)
theorem k60 {C : akT a60 → Bool} {G : akT a60 → Int × List Line × Int} (hd : ∀ (a1 : Int) (a2 : List Line) (b : Int) (c : Int) (y : Int) (f1 : Int) (f2 : Int) (f3 : Int), C ((a1, a2, ()), b, c, y, (f1, f2, f3, ()), ()) = true → (d60 a1 a2 b c y f1 f2 f3).val = some (G ((a1, a2, ()), b, c, y, (f1, f2, f3, ()), ()))) (IO : ItOK Tryd.prog (Env.loops (Env.withFns E0 [((90 : Nat), w90), ((94 : Nat), w94), ((91 : Nat), In.w91)]) live60 fun (x : Nat) (x_1 : VS) => none) := by exact itOK_none rfl) (L : ∀ c, Tryd.f60.body = some c → LsOK (evI 2) ((Env.loops (Env.withFns E0 [((90 : Nat), w90), ((94 : Nat), w94), ((91 : Nat), In.w91)]) live60 fun (x : Nat) (x_1 : VS) => none).lend 0) c := by exact fun c _ => LsOK_none rfl c) : SpecOK Tryd.prog E0 60 (s60 C G) :=
  aspec_ok (ak := a60) (bl := b60) (e := e60) (c := fun x _ => C x) (g := fun x _ => G x) (E0 := E0) (E := Env.loops (Env.withFns E0 [((90 : Nat), w90), ((94 : Nat), w94), ((91 : Nat), In.w91)]) live60 fun (x : Nat) (x_1 : VS) => none) tab (.cons wk90 (.cons wk94 (.cons In.wk91 .nil))) rfl rfl hm Tryd.func60 (by kernel_rfl) [PM.data gridk, PM.data (.int .i64)] (fun X Y H => by obtain ⟨⟨a1, ⟨a2, _⟩⟩, ⟨b, ⟨c, ⟨y, ⟨⟨f1, ⟨f2, ⟨f3, _⟩⟩⟩, _⟩⟩⟩⟩⟩ := X; exact val_of (t60 a1 a2 b c y f1 f2 f3) (hd a1 a2 b c y f1 f2 f3 H)) IO L
def live61 (key : Nat) : Lv :=
  bif Nat.beq key 20025 then { ls := [9999, 1, 5, 7, 8, 9, 10] } else bif Nat.beq key 40025 then { ls := [11, 26] } else
  bif Nat.beq key 25001 then { ls := [9999, 1, 5, 7, 8, 9, 10, 25] } else bif Nat.beq key 45001 then { ls := [12, 13, 14, 15, 16, 17, 18, 19, 20, 21, 22, 23, 24, 25] } else
  { ls := [] }
def d61 (a1 : Int) (a2 : List Line) (b : Int) (c : Int) (y : Int) (f1 : Int) (f2 : Int) (f3 : Int) : Tr (Int × List Line × Int) :=
  let v1 : Bool := (!U.place a1 a2 b c)
  let v2 : Int := ((↑(List.length a2) : Int))
  let v3 : Bool := (Kd.eqb (.int .i64) b b && (Kd.eqb (.int .i64) a1 a1 && Kd.eqb (Kd.sl link) a2 a2 && (Kd.eqb (.int .i64) c c && (Kd.eqb (.int .i64) y y && (Kd.eqb (.int .i64) f1 f1 && (Kd.eqb (.int .i64) f2 f2 && Kd.eqb (.int .i64) f3 f3) && true)))))
  Tr.ite (U.okl a2)
    (Tr.ite ((bif v1 then true else v3) && v3)
      (Tr.ite (bif v1 then true else bif decide (y < (0 : Int)) then true else !U.look (f1, f2, f3, ())) (Tr.ret ((0 : Int), [], (1 : Int)))
        (Tr.ite (decide ((0 : Int) ≤ b ∧ b < v2 ∧ List.length a2 ≤ (1048576 : Nat)) && insOK y c (List.length (List.getD a2 (Int.toNat b) U.dL).fst))
          (Tr.ret (a1, U.setL a2 (Int.toNat b) fun (l : List U.Cl) => U.delC l (Int.toNat y) (Int.toNat c) (f1, f2, f3, ()), (0 : Int))) Tr.fail))
      Tr.fail)
    Tr.fail
def e61 (r : Int × List Line × Int) : FRes := { rs := Slot.tup [AV.agg [Leaf.dat (.int .i64) r.fst, Leaf.dat (Kd.sl link) r.snd.fst], AV.one (Leaf.dat (.int .i64) r.snd.snd)], upd := [], new := [] }
@[reducible] def a61 : List AK := [AK.d gridk, AK.d (.int .i64), AK.d (.int .i64), AK.d (.int .i64), AK.d attk]
@[reducible] def b61 : List BK := []
theorem t61 (a1 : Int) (a2 : List Line) (b : Int) (c : Int) (y : Int) (f1 : Int) (f2 : Int) (f3 : Int) : evFn (Env.loops (Env.withFns E0 [((90 : Nat), w90), ((94 : Nat), w94), ((91 : Nat), De.w91)]) live61 fun (x : Nat) (x_1 : VS) => none) Tryd.f61 [PM.data gridk, PM.data (.int .i64)] (akAV a61 ((a1, a2, ()), b, c, y, (f1, f2, f3, ()), ())) (bkBs b61 ()) = (d61 a1 a2 b c y f1 f2 f3).map e61 := by kernel_rfl
def s61 (C : akT a61 → Bool) (G : akT a61 → Int × List Line × Int) : FSpec := aspec a61 b61 e61 (fun x _ => C x) (fun x _ => G x)
theorem k61 {C : akT a61 → Bool} {G : akT a61 → Int × List Line × Int} (hd : ∀ (a1 : Int) (a2 : List Line) (b : Int) (c : Int) (y : Int) (f1 : Int) (f2 : Int) (f3 : Int), C ((a1, a2, ()), b, c, y, (f1, f2, f3, ()), ()) = true → (d61 a1 a2 b c y f1 f2 f3).val = some (G ((a1, a2, ()), b, c, y, (f1, f2, f3, ()), ()))) (IO : ItOK Tryd.prog (Env.loops (Env.withFns E0 [((90 : Nat), w90), ((94 : Nat), w94), ((91 : Nat), De.w91)]) live61 fun (x : Nat) (x_1 : VS) => none) := by exact itOK_none rfl) (L : ∀ c, Tryd.f61.body = some c → LsOK (evI 2) ((Env.loops (Env.withFns E0 [((90 : Nat), w90), ((94 : Nat), w94), ((91 : Nat), De.w91)]) live61 fun (x : Nat) (x_1 : VS) => none).lend 0) c := by exact fun c _ => LsOK_none rfl c) : SpecOK Tryd.prog E0 61 (s61 C G) :=
  aspec_ok (ak := a61) (bl := b61) (e := e61) (c := fun x _ => C x) (g := fun x _ => G x) (E0 := E0) (E := Env.loops (Env.withFns E0 [((90 : Nat), w90), ((94 : Nat), w94), ((91 : Nat), De.w91)]) live61 fun (x : Nat) (x_1 : VS) => none) tab (.cons wk90 (.cons wk94 (.cons De.wk91 .nil))) rfl rfl hm Tryd.func61 (by kernel_rfl) [PM.data gridk, PM.data (.int .i64)] (fun X Y H => by obtain ⟨⟨a1, ⟨a2, _⟩⟩, ⟨b, ⟨c, ⟨y, ⟨⟨f1, ⟨f2, ⟨f3, _⟩⟩⟩, _⟩⟩⟩⟩⟩ := X; exact val_of (t61 a1 a2 b c y f1 f2 f3) (hd a1 a2 b c y f1 f2 f3 H)) IO L
end Go.Proofs.YtmnbcnhpklejcaaDoor
namespace U
def rawIns (c : Int) (l : List Ln) (row col n : Int) (a : Int × Int × Int × Unit) : Int × List Ln × Int := bif place c l row col && (decide (0 ≤ n) && look a) then (c, setC l row.toNat (insC (l.getD row.toNat dL).1 n.toNat col.toNat a), 0) else (0, [], 1)
def rawDel (c : Int) (l : List Ln) (row col n : Int) (a : Int × Int × Int × Unit) : Int × List Ln × Int := bif place c l row col && (decide (0 ≤ n) && look a) then (c, setC l row.toNat (delC (l.getD row.toNat dL).1 n.toNat col.toNat a), 0) else (0, [], 1)
def region (c : Int) (l : List Ln) (t b n : Int) (a : Int × Int × Int × Unit) : Bool := place c l t 0 && (place c l b 0 && (decide (t ≤ b) && (decide (0 ≤ n) && look a)))
def upL (l : List Ln) (t b m : Nat) (x : Ln) : List Ln := l.take t ++ ((l.take (b + 1)).drop (t + m) ++ (List.replicate m x ++ l.drop (b + 1)))
def downL (l : List Ln) (t b m : Nat) (x : Ln) : List Ln := l.take t ++ (List.replicate m x ++ ((l.take (b + 1 - m)).drop t ++ l.drop (b + 1)))
def bareL (c : Int) (a : Int × Int × Int × Unit) : Ln := (List.replicate c.toNat (blank a), false, ())
def cnt (t b n : Int) : Nat := min n.toNat (b.toNat + 1 - t.toNat)
def rawUp (c : Int) (l : List Ln) (t b n : Int) (a : Int × Int × Int × Unit) : Int × List Ln × List Ln × Int := bif region c l t b n a then (c, upL l t.toNat b.toNat (cnt t b n) (bareL c a), (l.take (t.toNat + cnt t b n)).drop t.toNat, 0) else (0, [], [], 1)
def rawDown (c : Int) (l : List Ln) (t b n : Int) (a : Int × Int × Int × Unit) : Int × List Ln × Int := bif region c l t b n a then (c, downL l t.toNat b.toNat (cnt t b n) (bareL c a), 0) else (0, [], 1)
theorem region_at {c : Int} {l : List Ln} {t b n : Int} {a : Int × Int × Int × Unit} (h : region c l t b n a = true) : ∃ t' b' n' : Nat, t = t' ∧ b = b' ∧ n = n' ∧ t' ≤ b' ∧ b' < l.length ∧ 1 ≤ c ∧ c ≤ 80 ∧ l.length ≤ 50 ∧ ∀ y ∈ l, fitC y.1 = true ∧ (y.1.length : Int) = c := by
  unfold region at h
  simp only [Bool.and_eq_true, decide_eq_true_eq] at h
  obtain ⟨h1, h2, h3, h4, _⟩ := h
  obtain ⟨p1, p2, p3, p4, p5⟩ := place_at h1
  obtain ⟨q1, q2, _, _, _⟩ := place_at h2
  obtain ⟨r1, r2, r3, r4⟩ := gridR_cols (place_r h1)
  exact ⟨t.toNat, b.toNat, n.toNat, by omega, by omega, by omega, by omega, by omega, r1, r2, r4, p5⟩
theorem upL_len {l : List Ln} {t b m : Nat} {x : Ln} (h : t ≤ b) (hb : b < l.length) (hm : m ≤ b + 1 - t) : (upL l t b m x).length = l.length := by
  unfold upL
  simp only [List.length_append, List.length_take, List.length_drop, List.length_replicate]
  omega
theorem downL_len {l : List Ln} {t b m : Nat} {x : Ln} (h : t ≤ b) (hb : b < l.length) (hm : m ≤ b + 1 - t) : (downL l t b m x).length = l.length := by
  unfold downL
  simp only [List.length_append, List.length_take, List.length_drop, List.length_replicate]
  omega
end U
namespace Go.Proofs.YtmnbcnhpklejcaaDoor
theorem neg_le {n : Int} : decide (n < 0) = !decide (0 ≤ n) := by
  rw [Bool.eq_iff_iff]; simp
abbrev w60 : FSpec := s60 (fun x => U.okl x.1.2.1) fun x => U.rawIns x.1.1 x.1.2.1 x.2.1 x.2.2.1 x.2.2.2.1 x.2.2.2.2.1
theorem wk60 : SpecOK Tryd.prog E0 60 w60 := by
  refine k60 fun c l row col n a b d H => ?_
  have H : U.okl l = true := H
  show _ = some (U.rawIns c l row col n (a, b, d, ()))
  unfold U.rawIns
  have hk : U.place c l row col = true → (decide ((0 : Int) ≤ row ∧ row < (l.length : Int) ∧ l.length ≤ 1048576) && insOK n col (l.getD row.toNat U.dL).1.length) = decide (0 ≤ n) := fun h => by
    obtain ⟨p1, p2, p3, p4, p5⟩ := U.place_at h
    have := p5 _ (U.getD_mem (show row.toNat < l.length by omega))
    have := U.okl_len H
    obtain ⟨_, q2, _, _⟩ := U.gridR_cols (U.place_r h)
    rw [Bool.eq_iff_iff]
    simp only [Bool.and_eq_true, decide_eq_true_eq]
    omega
  simp only [d60, Tr.val, eqb_self, H, neg_le, cond_true, Bool.and_self, Bool.and_true, Bool.cond_self]
  cases hp : U.place c l row col with
  | false => rfl
  | true =>
    rw [hk hp]
    cases decide (0 ≤ n) <;> cases U.look (a, b, d, ()) <;> rfl
abbrev w61 : FSpec := s61 (fun x => U.okl x.1.2.1) fun x => U.rawDel x.1.1 x.1.2.1 x.2.1 x.2.2.1 x.2.2.2.1 x.2.2.2.2.1
theorem wk61 : SpecOK Tryd.prog E0 61 w61 := by
  refine k61 fun c l row col n a b d H => ?_
  have H : U.okl l = true := H
  show _ = some (U.rawDel c l row col n (a, b, d, ()))
  unfold U.rawDel
  have hk : U.place c l row col = true → (decide ((0 : Int) ≤ row ∧ row < (l.length : Int) ∧ l.length ≤ 1048576) && insOK n col (l.getD row.toNat U.dL).1.length) = decide (0 ≤ n) := fun h => by
    obtain ⟨p1, p2, p3, p4, p5⟩ := U.place_at h
    have := p5 _ (U.getD_mem (show row.toNat < l.length by omega))
    have := U.okl_len H
    obtain ⟨_, q2, _, _⟩ := U.gridR_cols (U.place_r h)
    rw [Bool.eq_iff_iff]
    simp only [Bool.and_eq_true, decide_eq_true_eq]
    omega
  simp only [d61, Tr.val, eqb_self, H, neg_le, cond_true, Bool.and_self, Bool.and_true, Bool.cond_self]
  cases hp : U.place c l row col with
  | false => rfl
  | true =>
    rw [hk hp]
    cases decide (0 ≤ n) <;> cases U.look (a, b, d, ()) <;> rfl
def live116 (key : Nat) : Lv :=
  bif Nat.beq key 25001 then { ls := [9999, 10] } else bif Nat.beq key 45001 then { ls := [10, 11, 12, 13, 14, 15, 16, 17, 18, 19, 20, 21, 22, 23, 24, 25, 26, 27, 28, 29, 30, 31] } else
  { ls := [] }
def d116 (a1 : Int) (a2 : List Line) (b : Int) (c : Int) (y : Int) (f1 : Int) (f2 : Int) (f3 : Int) : Tr (Bool) :=
  let v1 : Bool := (U.place a1 a2 b (0 : Int))
  Tr.ite (U.okl a2)
    (Tr.ite (bif v1 then U.okl a2 else true)
      (Tr.ret (bif v1 then bif U.place a1 a2 c (0 : Int) then bif decide (b ≤ c) then bif decide ((0 : Int) ≤ y) then U.look (f1, f2, f3, ()) else false else false else false else false)) Tr.fail)
    Tr.fail
def e116 (r : Bool) : FRes := { rs := Slot.av (AV.one (Leaf.dat Kd.bool r)), upd := [], new := [] }
@[reducible] def a116 : List AK := [AK.d gridk, AK.d (.int .i64), AK.d (.int .i64), AK.d (.int .i64), AK.d attk]
@[reducible] def b116 : List BK := []
theorem t116 (a1 : Int) (a2 : List Line) (b : Int) (c : Int) (y : Int) (f1 : Int) (f2 : Int) (f3 : Int) : evFn (Env.loops (Env.withFns E0 [((90 : Nat), w90), ((94 : Nat), w94)]) live116 fun (x : Nat) (x_1 : VS) => none) Tryd.f116 [PM.data Kd.bool] (akAV a116 ((a1, a2, ()), b, c, y, (f1, f2, f3, ()), ())) (bkBs b116 ()) = (d116 a1 a2 b c y f1 f2 f3).map e116 := by kernel_rfl
def s116 (C : akT a116 → Bool) (G : akT a116 → Bool) : FSpec := aspec a116 b116 e116 (fun x _ => C x) (fun x _ => G x)
theorem k116 {C : akT a116 → Bool} {G : akT a116 → Bool} (hd : ∀ (a1 : Int) (a2 : List Line) (b : Int) (c : Int) (y : Int) (f1 : Int) (f2 : Int) (f3 : Int), C ((a1, a2, ()), b, c, y, (f1, f2, f3, ()), ()) = true → (d116 a1 a2 b c y f1 f2 f3).val = some (G ((a1, a2, ()), b, c, y, (f1, f2, f3, ()), ()))) (IO : ItOK Tryd.prog (Env.loops (Env.withFns E0 [((90 : Nat), w90), ((94 : Nat), w94)]) live116 fun (x : Nat) (x_1 : VS) => none) := by exact itOK_none rfl) (L : ∀ c, Tryd.f116.body = some c → LsOK (evI 2) ((Env.loops (Env.withFns E0 [((90 : Nat), w90), ((94 : Nat), w94)]) live116 fun (x : Nat) (x_1 : VS) => none).lend 0) c := by exact fun c _ => LsOK_none rfl c) : SpecOK Tryd.prog E0 116 (s116 C G) :=
  aspec_ok (ak := a116) (bl := b116) (e := e116) (c := fun x _ => C x) (g := fun x _ => G x) (E0 := E0) (E := Env.loops (Env.withFns E0 [((90 : Nat), w90), ((94 : Nat), w94)]) live116 fun (x : Nat) (x_1 : VS) => none) tab (.cons wk90 (.cons wk94 .nil)) rfl rfl hm Tryd.func116 (by kernel_rfl) [PM.data Kd.bool] (fun X Y H => by obtain ⟨⟨a1, ⟨a2, _⟩⟩, ⟨b, ⟨c, ⟨y, ⟨⟨f1, ⟨f2, ⟨f3, _⟩⟩⟩, _⟩⟩⟩⟩⟩ := X; exact val_of (t116 a1 a2 b c y f1 f2 f3) (hd a1 a2 b c y f1 f2 f3 H)) IO L
def live62 (key : Nat) : Lv :=
  bif Nat.beq key 25001 then { ls := [9999, 10] } else bif Nat.beq key 45001 then { ls := [10, 11, 12, 13, 14, 15, 16, 17, 18, 19, 20, 21, 22, 23, 24, 25, 26, 27, 28, 29, 30, 31] } else
  { ls := [] }
def d62 (a1 : Int) (a2 : List Line) (b : Int) (c : Int) (y : Int) (f1 : Int) (f2 : Int) (f3 : Int) : Tr (Bool) :=
  let v1 : Bool := (U.place a1 a2 b (0 : Int))
  Tr.ite (U.okl a2)
    (Tr.ite (bif v1 then U.okl a2 else true)
      (Tr.ret (bif v1 then bif U.place a1 a2 c (0 : Int) then bif decide (b ≤ c) then bif decide ((0 : Int) ≤ y) then U.look (f1, f2, f3, ()) else false else false else false else false)) Tr.fail)
    Tr.fail
def e62 (r : Bool) : FRes := { rs := Slot.av (AV.one (Leaf.dat Kd.bool r)), upd := [], new := [] }
@[reducible] def a62 : List AK := [AK.d gridk, AK.d (.int .i64), AK.d (.int .i64), AK.d (.int .i64), AK.d attk]
@[reducible] def b62 : List BK := []
theorem t62 (a1 : Int) (a2 : List Line) (b : Int) (c : Int) (y : Int) (f1 : Int) (f2 : Int) (f3 : Int) : evFn (Env.loops (Env.withFns E0 [((36 : Nat), w36), ((37 : Nat), w37)]) live62 fun (x : Nat) (x_1 : VS) => none) Tryd.f62 [PM.data Kd.bool] (akAV a62 ((a1, a2, ()), b, c, y, (f1, f2, f3, ()), ())) (bkBs b62 ()) = (d62 a1 a2 b c y f1 f2 f3).map e62 := by kernel_rfl
def s62 (C : akT a62 → Bool) (G : akT a62 → Bool) : FSpec := aspec a62 b62 e62 (fun x _ => C x) (fun x _ => G x)
theorem k62 {C : akT a62 → Bool} {G : akT a62 → Bool} (hd : ∀ (a1 : Int) (a2 : List Line) (b : Int) (c : Int) (y : Int) (f1 : Int) (f2 : Int) (f3 : Int), C ((a1, a2, ()), b, c, y, (f1, f2, f3, ()), ()) = true → (d62 a1 a2 b c y f1 f2 f3).val = some (G ((a1, a2, ()), b, c, y, (f1, f2, f3, ()), ()))) (IO : ItOK Tryd.prog (Env.loops (Env.withFns E0 [((36 : Nat), w36), ((37 : Nat), w37)]) live62 fun (x : Nat) (x_1 : VS) => none) := by exact itOK_none rfl) (L : ∀ c, Tryd.f62.body = some c → LsOK (evI 2) ((Env.loops (Env.withFns E0 [((36 : Nat), w36), ((37 : Nat), w37)]) live62 fun (x : Nat) (x_1 : VS) => none).lend 0) c := by exact fun c _ => LsOK_none rfl c) : SpecOK Tryd.prog E0 62 (s62 C G) :=
  aspec_ok (ak := a62) (bl := b62) (e := e62) (c := fun x _ => C x) (g := fun x _ => G x) (E0 := E0) (E := Env.loops (Env.withFns E0 [((36 : Nat), w36), ((37 : Nat), w37)]) live62 fun (x : Nat) (x_1 : VS) => none) tab (.cons wk36 (.cons wk37 .nil)) rfl rfl hm Tryd.func62 (by kernel_rfl) [PM.data Kd.bool] (fun X Y H => by obtain ⟨⟨a1, ⟨a2, _⟩⟩, ⟨b, ⟨c, ⟨y, ⟨⟨f1, ⟨f2, ⟨f3, _⟩⟩⟩, _⟩⟩⟩⟩⟩ := X; exact val_of (t62 a1 a2 b c y f1 f2 f3) (hd a1 a2 b c y f1 f2 f3 H)) IO L
theorem bifs (a b c d e : Bool) : (bif a then bif b then bif c then bif d then e else false else false else false else false) = (a && (b && (c && (d && e)))) := by cases a <;> cases b <;> cases c <;> cases d <;> rfl
abbrev w116 : FSpec := s116 (fun x => U.okl x.1.2.1) fun x => U.region x.1.1 x.1.2.1 x.2.1 x.2.2.1 x.2.2.2.1 x.2.2.2.2.1
theorem wk116 : SpecOK Tryd.prog E0 116 w116 := by
  refine k116 fun c l t b n a e d H => ?_
  have H : U.okl l = true := H
  show _ = some (U.region c l t b n (a, e, d, ()))
  unfold U.region
  simp only [d116, Tr.val, H, bifs, cond_true, Bool.cond_self]
abbrev w62 : FSpec := s62 (fun x => U.okl x.1.2.1) fun x => U.region x.1.1 x.1.2.1 x.2.1 x.2.2.1 x.2.2.2.1 x.2.2.2.2.1
theorem wk62 : SpecOK Tryd.prog E0 62 w62 := by
  refine k62 fun c l t b n a e d H => ?_
  have H : U.okl l = true := H
  show _ = some (U.region c l t b n (a, e, d, ()))
  unfold U.region
  simp only [d62, Tr.val, H, bifs, cond_true, Bool.cond_self]
def live58 (key : Nat) : Lv :=
  bif Nat.beq key 20020 then { ls := [9999, 1, 2, 3, 5, 9, 10] } else bif Nat.beq key 40020 then { ls := [11, 12, 21] } else
  { ls := [] }
def d58 (a1 : Int) (a2 : List Line) (b : Int) (c : Int) (y : Int) (f1 : Int) (f2 : Int) (f3 : Int) : Tr (Int × List Line × List Line × Int) :=
  let v1 : Int := ((↑(List.length a2) : Int))
  let v2 : Int := (IntKind.wrap IntKind.i64 (c + (1 : Int)))
  let v3 : Int := (minI y (IntKind.wrap IntKind.i64 (v2 - b)))
  let v4 : Int := (IntKind.wrap IntKind.i64 (b + v3))
  let v5 : List Line := (List.flatten [sub a2 (0 : Nat) (Int.toNat b), sub a2 (Int.toNat v4) (Int.toNat v2), List.replicate (Int.toNat v3) (List.replicate (Int.toNat a1) (U.blank (f1, f2, f3, ())), false, ()), sub a2 (Int.toNat v2) (List.length a2)])
  Tr.ite (U.okl a2)
    (Tr.ite (!U.region a1 a2 b c y (f1, f2, f3, ())) (Tr.ret ((0 : Int), [], [], (1 : Int)))
      (Tr.ite (decide ((0 : Int) ≤ b ∧ b ≤ v1) && decide (b = b))
        (Tr.ite (decide ((0 : Int) ≤ v4 ∧ v4 ≤ v2 ∧ v2 ≤ v1))
          (Tr.ite (decide ((1 : Int) ≤ a1 ∧ a1 < (128 : Int) ∧ (0 : Int) ≤ v3 ∧ v3 ≤ (1000 : Int)))
            (Tr.ite (decide ((0 : Int) ≤ v2 ∧ v2 ≤ v1))
              (Tr.ite (decide ((4 : Nat) ≤ (1048576 : Nat) ∧ List.length v5 ≤ (1048576 : Nat)))
                (Tr.ite (decide ((0 : Int) ≤ b ∧ b ≤ v4 ∧ v4 ≤ v1) && decide (v4 = v4)) (Tr.ret (a1, v5, sub a2 (Int.toNat b) (Int.toNat v4), (0 : Int))) Tr.fail) Tr.fail)
              Tr.fail)
            Tr.fail)
          Tr.fail)
        Tr.fail))
    Tr.fail
def e58 (r : Int × List Line × List Line × Int) : FRes := { rs := Slot.tup [AV.agg [Leaf.dat (.int .i64) r.fst, Leaf.dat (Kd.sl link) r.snd.fst], AV.one (Leaf.dat (Kd.sl link) r.snd.snd.fst), AV.one (Leaf.dat (.int .i64) r.snd.snd.snd)], upd := [], new := [] }
@[reducible] def a58 : List AK := [AK.d gridk, AK.d (.int .i64), AK.d (.int .i64), AK.d (.int .i64), AK.d attk]
@[reducible] def b58 : List BK := []
theorem t58 (a1 : Int) (a2 : List Line) (b : Int) (c : Int) (y : Int) (f1 : Int) (f2 : Int) (f3 : Int) : evFn (Env.loops (Env.withFns E0 [((116 : Nat), w116), ((117 : Nat), w117), ((81 : Nat), w81)]) live58 fun (x : Nat) (x_1 : VS) => none) Tryd.f58 [PM.data gridk, PM.data (Kd.sl link), PM.data (.int .i64)] (akAV a58 ((a1, a2, ()), b, c, y, (f1, f2, f3, ()), ())) (bkBs b58 ()) = (d58 a1 a2 b c y f1 f2 f3).map e58 := by kernel_rfl
def s58 (C : akT a58 → Bool) (G : akT a58 → Int × List Line × List Line × Int) : FSpec := aspec a58 b58 e58 (fun x _ => C x) (fun x _ => G x)
theorem k58 {C : akT a58 → Bool} {G : akT a58 → Int × List Line × List Line × Int} (hd : ∀ (a1 : Int) (a2 : List Line) (b : Int) (c : Int) (y : Int) (f1 : Int) (f2 : Int) (f3 : Int), C ((a1, a2, ()), b, c, y, (f1, f2, f3, ()), ()) = true → (d58 a1 a2 b c y f1 f2 f3).val = some (G ((a1, a2, ()), b, c, y, (f1, f2, f3, ()), ()))) (IO : ItOK Tryd.prog (Env.loops (Env.withFns E0 [((116 : Nat), w116), ((117 : Nat), w117), ((81 : Nat), w81)]) live58 fun (x : Nat) (x_1 : VS) => none) := by exact itOK_none rfl) (L : ∀ c, Tryd.f58.body = some c → LsOK (evI 2) ((Env.loops (Env.withFns E0 [((116 : Nat), w116), ((117 : Nat), w117), ((81 : Nat), w81)]) live58 fun (x : Nat) (x_1 : VS) => none).lend 0) c := by exact fun c _ => LsOK_none rfl c) : SpecOK Tryd.prog E0 58 (s58 C G) :=
  aspec_ok (ak := a58) (bl := b58) (e := e58) (c := fun x _ => C x) (g := fun x _ => G x) (E0 := E0) (E := Env.loops (Env.withFns E0 [((116 : Nat), w116), ((117 : Nat), w117), ((81 : Nat), w81)]) live58 fun (x : Nat) (x_1 : VS) => none) tab (.cons wk116 (.cons wk117 (.cons wk81 .nil))) rfl rfl hm Tryd.func58 (by kernel_rfl) [PM.data gridk, PM.data (Kd.sl link), PM.data (.int .i64)] (fun X Y H => by obtain ⟨⟨a1, ⟨a2, _⟩⟩, ⟨b, ⟨c, ⟨y, ⟨⟨f1, ⟨f2, ⟨f3, _⟩⟩⟩, _⟩⟩⟩⟩⟩ := X; exact val_of (t58 a1 a2 b c y f1 f2 f3) (hd a1 a2 b c y f1 f2 f3 H)) IO L
def live59 (key : Nat) : Lv :=
  bif Nat.beq key 20019 then { ls := [9999, 1, 2, 3, 5, 9, 10] } else bif Nat.beq key 40019 then { ls := [11, 20] } else
  { ls := [] }
def d59 (a1 : Int) (a2 : List Line) (b : Int) (c : Int) (y : Int) (f1 : Int) (f2 : Int) (f3 : Int) : Tr (Int × List Line × Int) :=
  let v1 : Int := ((↑(List.length a2) : Int))
  let v2 : Int := (IntKind.wrap IntKind.i64 (c + (1 : Int)))
  let v3 : Int := (minI y (IntKind.wrap IntKind.i64 (v2 - b)))
  let v4 : Int := (IntKind.wrap IntKind.i64 (v2 - v3))
  let v5 : List Line := (List.flatten [sub a2 (0 : Nat) (Int.toNat b), List.replicate (Int.toNat v3) (List.replicate (Int.toNat a1) (U.blank (f1, f2, f3, ())), false, ()), sub a2 (Int.toNat b) (Int.toNat v4), sub a2 (Int.toNat v2) (List.length a2)])
  Tr.ite (U.okl a2)
    (Tr.ite (!U.region a1 a2 b c y (f1, f2, f3, ())) (Tr.ret ((0 : Int), [], (1 : Int)))
      (Tr.ite (decide ((0 : Int) ≤ b ∧ b ≤ v1))
        (Tr.ite (decide ((1 : Int) ≤ a1 ∧ a1 < (128 : Int) ∧ (0 : Int) ≤ v3 ∧ v3 ≤ (1000 : Int)))
          (Tr.ite (decide ((0 : Int) ≤ b ∧ b ≤ v4 ∧ v4 ≤ v1))
            (Tr.ite (decide ((0 : Int) ≤ v2 ∧ v2 ≤ v1)) (Tr.ite (decide ((4 : Nat) ≤ (1048576 : Nat) ∧ List.length v5 ≤ (1048576 : Nat))) (Tr.ret (a1, v5, (0 : Int))) Tr.fail) Tr.fail) Tr.fail)
          Tr.fail)
        Tr.fail))
    Tr.fail
def e59 (r : Int × List Line × Int) : FRes := { rs := Slot.tup [AV.agg [Leaf.dat (.int .i64) r.fst, Leaf.dat (Kd.sl link) r.snd.fst], AV.one (Leaf.dat (.int .i64) r.snd.snd)], upd := [], new := [] }
@[reducible] def a59 : List AK := [AK.d gridk, AK.d (.int .i64), AK.d (.int .i64), AK.d (.int .i64), AK.d attk]
@[reducible] def b59 : List BK := []
theorem t59 (a1 : Int) (a2 : List Line) (b : Int) (c : Int) (y : Int) (f1 : Int) (f2 : Int) (f3 : Int) : evFn (Env.loops (Env.withFns E0 [((116 : Nat), w116), ((117 : Nat), w117), ((81 : Nat), w81)]) live59 fun (x : Nat) (x_1 : VS) => none) Tryd.f59 [PM.data gridk, PM.data (.int .i64)] (akAV a59 ((a1, a2, ()), b, c, y, (f1, f2, f3, ()), ())) (bkBs b59 ()) = (d59 a1 a2 b c y f1 f2 f3).map e59 := by kernel_rfl
def s59 (C : akT a59 → Bool) (G : akT a59 → Int × List Line × Int) : FSpec := aspec a59 b59 e59 (fun x _ => C x) (fun x _ => G x)
theorem k59 {C : akT a59 → Bool} {G : akT a59 → Int × List Line × Int} (hd : ∀ (a1 : Int) (a2 : List Line) (b : Int) (c : Int) (y : Int) (f1 : Int) (f2 : Int) (f3 : Int), C ((a1, a2, ()), b, c, y, (f1, f2, f3, ()), ()) = true → (d59 a1 a2 b c y f1 f2 f3).val = some (G ((a1, a2, ()), b, c, y, (f1, f2, f3, ()), ()))) (IO : ItOK Tryd.prog (Env.loops (Env.withFns E0 [((116 : Nat), w116), ((117 : Nat), w117), ((81 : Nat), w81)]) live59 fun (x : Nat) (x_1 : VS) => none) := by exact itOK_none rfl) (L : ∀ c, Tryd.f59.body = some c → LsOK (evI 2) ((Env.loops (Env.withFns E0 [((116 : Nat), w116), ((117 : Nat), w117), ((81 : Nat), w81)]) live59 fun (x : Nat) (x_1 : VS) => none).lend 0) c := by exact fun c _ => LsOK_none rfl c) : SpecOK Tryd.prog E0 59 (s59 C G) :=
  aspec_ok (ak := a59) (bl := b59) (e := e59) (c := fun x _ => C x) (g := fun x _ => G x) (E0 := E0) (E := Env.loops (Env.withFns E0 [((116 : Nat), w116), ((117 : Nat), w117), ((81 : Nat), w81)]) live59 fun (x : Nat) (x_1 : VS) => none) tab (.cons wk116 (.cons wk117 (.cons wk81 .nil))) rfl rfl hm Tryd.func59 (by kernel_rfl) [PM.data gridk, PM.data (.int .i64)] (fun X Y H => by obtain ⟨⟨a1, ⟨a2, _⟩⟩, ⟨b, ⟨c, ⟨y, ⟨⟨f1, ⟨f2, ⟨f3, _⟩⟩⟩, _⟩⟩⟩⟩⟩ := X; exact val_of (t59 a1 a2 b c y f1 f2 f3) (hd a1 a2 b c y f1 f2 f3 H)) IO L
abbrev w58 : FSpec := s58 (fun x => U.okl x.1.2.1) fun x => U.rawUp x.1.1 x.1.2.1 x.2.1 x.2.2.1 x.2.2.2.1 x.2.2.2.2.1
theorem wk58 : SpecOK Tryd.prog E0 58 w58 := by
  refine k58 fun c l t b n a e d H => ?_
  have H : U.okl l = true := H
  show _ = some (U.rawUp c l t b n (a, e, d, ()))
  unfold U.rawUp
  cases hR : U.region c l t b n (a, e, d, ()) with
  | false => simp only [d58, Tr.val, H, hR, cond_true, cond_false, Bool.not_false]
  | true =>
    obtain ⟨t, b, n, rfl, rfl, rfl, h1, h2, h3, h4, h5, _⟩ := U.region_at hR
    have e1 : IntKind.wrap IntKind.i64 ((b : Int) + 1) = ((b + 1 : Nat) : Int) := by rw [w64 (by omega) (by omega)]; omega
    have e2 : IntKind.wrap IntKind.i64 (((b + 1 : Nat) : Int) - (t : Int)) = ((b + 1 - t : Nat) : Int) := by rw [w64 (by omega) (by omega)]; omega
    have e3 := minI_nat n (b + 1 - t)
    have ec : U.cnt (t : Int) (b : Int) (n : Int) = min n (b + 1 - t) := rfl
    generalize min n (b + 1 - t) = m at e3 ec
    have hm : m ≤ b + 1 - t := by
      rw [← ec]; unfold U.cnt; omega
    have e4 : IntKind.wrap IntKind.i64 ((t : Int) + (m : Int)) = ((t + m : Nat) : Int) := by rw [w64 (by omega) (by omega)]; omega
    have ev : List.flatten [sub l 0 t, sub l (t + m) (b + 1), List.replicate m (List.replicate c.toNat (U.blank (a, e, d, ())), false, ()), sub l (b + 1) l.length] = U.upL l t b m (U.bareL c (a, e, d, ())) := by
      simp only [List.flatten_cons, List.flatten_nil, List.append_nil, sub, List.drop_zero, List.take_length]
      rfl
    have el : (U.upL l t b m (U.bareL c (a, e, d, ()))).length ≤ 1048576 := by rw [U.upL_len h1 h2 hm]; omega
    have g1 : (0 : Int) ≤ (t : Int) ∧ (t : Int) ≤ (l.length : Int) := by omega
    have g2 : (0 : Int) ≤ ((t + m : Nat) : Int) ∧ ((t + m : Nat) : Int) ≤ ((b + 1 : Nat) : Int) ∧ ((b + 1 : Nat) : Int) ≤ (l.length : Int) := by omega
    have g3 : (1 : Int) ≤ c ∧ c < 128 ∧ (0 : Int) ≤ (m : Int) ∧ (m : Int) ≤ 1000 := by omega
    have g4 : (0 : Int) ≤ ((b + 1 : Nat) : Int) ∧ ((b + 1 : Nat) : Int) ≤ (l.length : Int) := by omega
    have g5 : (4 : Nat) ≤ 1048576 := by omega
    have g6 : (0 : Int) ≤ (t : Int) ∧ (t : Int) ≤ ((t + m : Nat) : Int) ∧ ((t + m : Nat) : Int) ≤ (l.length : Int) := by omega
    simp only [d58, Tr.val, H, hR, e1, e2, e3, e4, Int.toNat_natCast, ev, el, decide_eq_true g1, decide_eq_true g2, decide_eq_true g3, decide_eq_true g4, decide_eq_true g6, g5, and_self, decide_true, Bool.and_self, cond_true, cond_false, Bool.not_true, ec]
    rfl
abbrev w59 : FSpec := s59 (fun x => U.okl x.1.2.1) fun x => U.rawDown x.1.1 x.1.2.1 x.2.1 x.2.2.1 x.2.2.2.1 x.2.2.2.2.1
theorem wk59 : SpecOK Tryd.prog E0 59 w59 := by
  refine k59 fun c l t b n a e d H => ?_
  have H : U.okl l = true := H
  show _ = some (U.rawDown c l t b n (a, e, d, ()))
  unfold U.rawDown
  cases hR : U.region c l t b n (a, e, d, ()) with
  | false => simp only [d59, Tr.val, H, hR, cond_true, cond_false, Bool.not_false]
  | true =>
    obtain ⟨t, b, n, rfl, rfl, rfl, h1, h2, h3, h4, h5, _⟩ := U.region_at hR
    have e1 : IntKind.wrap IntKind.i64 ((b : Int) + 1) = ((b + 1 : Nat) : Int) := by rw [w64 (by omega) (by omega)]; omega
    have e2 : IntKind.wrap IntKind.i64 (((b + 1 : Nat) : Int) - (t : Int)) = ((b + 1 - t : Nat) : Int) := by rw [w64 (by omega) (by omega)]; omega
    have e3 := minI_nat n (b + 1 - t)
    have ec : U.cnt (t : Int) (b : Int) (n : Int) = min n (b + 1 - t) := rfl
    generalize min n (b + 1 - t) = m at e3 ec
    have hm : m ≤ b + 1 - t := by
      rw [← ec]; unfold U.cnt; omega
    have e4 : IntKind.wrap IntKind.i64 (((b + 1 : Nat) : Int) - (m : Int)) = ((b + 1 - m : Nat) : Int) := by rw [w64 (by omega) (by omega)]; omega
    have ev : List.flatten [sub l 0 t, List.replicate m (List.replicate c.toNat (U.blank (a, e, d, ())), false, ()), sub l t (b + 1 - m), sub l (b + 1) l.length] = U.downL l t b m (U.bareL c (a, e, d, ())) := by
      simp only [List.flatten_cons, List.flatten_nil, List.append_nil, sub, List.drop_zero, List.take_length]
      rfl
    have el : (U.downL l t b m (U.bareL c (a, e, d, ()))).length ≤ 1048576 := by rw [U.downL_len h1 h2 hm]; omega
    have g1 : (0 : Int) ≤ (t : Int) ∧ (t : Int) ≤ (l.length : Int) := by omega
    have g2 : (0 : Int) ≤ (t : Int) ∧ (t : Int) ≤ ((b + 1 - m : Nat) : Int) ∧ ((b + 1 - m : Nat) : Int) ≤ (l.length : Int) := by omega
    have g3 : (1 : Int) ≤ c ∧ c < 128 ∧ (0 : Int) ≤ (m : Int) ∧ (m : Int) ≤ 1000 := by omega
    have g4 : (0 : Int) ≤ ((b + 1 : Nat) : Int) ∧ ((b + 1 : Nat) : Int) ≤ (l.length : Int) := by omega
    have g5 : (4 : Nat) ≤ 1048576 := by omega
    simp only [d59, Tr.val, H, hR, e1, e2, e3, e4, Int.toNat_natCast, ev, el, decide_eq_true g1, decide_eq_true g2, decide_eq_true g3, decide_eq_true g4, g5, and_self, decide_true, Bool.and_self, cond_true, cond_false, Bool.not_true, ec]
end Go.Proofs.YtmnbcnhpklejcaaDoor

end
