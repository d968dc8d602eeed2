/- Letters: trees. -/
import Derived.Test.YtmnbcnhpklejcaaDoorZEvUtf1
set_option linter.unusedVariables false
set_option maxRecDepth 20000
namespace Go.Proofs.YtmnbcnhpklejcaaDoor
open Go.Ev Go.RowKit

theorem t154 (s : ByteArray) {v1 : Int} {v2 : Int} {v3 : Int} {v4 : Int} {v5 : Int}
    (h1 : (bt s (2 : Int)) = v1)
    (h2 : (bt s (1 : Int)) = v2)
    (h3 : (bt s (0 : Int)) = v3)
    (h4 : (Int.fdiv (rget (Kd.int IntKind.u8) U.firstL v3) (16 : Int)) = v4)
    (h5 : ((↑(BitVec.ofInt (8 : Nat) (rget (Kd.int IntKind.u8) U.firstL v3) &&& BitVec.ofInt (8 : Nat) (7 : Int)).toNat : Int)) = v5)
    : evFn (E0.withFns []) Tryd.f154 [PM.data Kd.bool] (toAVs [Kd.str] (s, ())) [] =
Tr.ite (decide ((↑s.size : Int) = (0 : Int))) (Tr.ret { rs := Slot.av (AV.one (Leaf.dat Kd.bool false)), upd := [], new := [] })
  (Tr.ite (inB (0 : Int) s.size)
    (Tr.ite (inB v3 (256 : Nat))
      (Tr.ite (decide (IntKind.i64.wrap (IntKind.u8.wrap v5) ≤ (↑s.size : Int))) (Tr.ret { rs := Slot.av (AV.one (Leaf.dat Kd.bool true)), upd := [], new := [] })
        (Tr.ite true
          (Tr.ite (inB v4 (16 : Nat))
            (Tr.ite (decide ((1 : Int) < (↑s.size : Int)))
              (Tr.ite (inB (1 : Int) s.size)
                (Tr.ite (decide (v2 < (rget acck U.accL v4).fst)) (Tr.ret { rs := Slot.av (AV.one (Leaf.dat Kd.bool true)), upd := [], new := [] })
                  (Tr.ite (inB (1 : Int) s.size)
                    (Tr.ite (decide ((rget acck U.accL v4).snd.fst < v2)) (Tr.ret { rs := Slot.av (AV.one (Leaf.dat Kd.bool true)), upd := [], new := [] })
                      (Tr.ite (decide ((2 : Int) < (↑s.size : Int)))
                        (Tr.ite (inB (2 : Int) s.size)
                          (Tr.ite (decide (v1 < (128 : Int))) (Tr.ret { rs := Slot.av (AV.one (Leaf.dat Kd.bool true)), upd := [], new := [] })
                            (Tr.ite (inB (2 : Int) s.size)
                              (Tr.ite (decide ((191 : Int) < v1)) (Tr.ret { rs := Slot.av (AV.one (Leaf.dat Kd.bool true)), upd := [], new := [] })
                                (Tr.ret { rs := Slot.av (AV.one (Leaf.dat Kd.bool false)), upd := [], new := [] }))
                              Tr.fail))
                          Tr.fail)
                        (Tr.ret { rs := Slot.av (AV.one (Leaf.dat Kd.bool false)), upd := [], new := [] })))
                    Tr.fail))
                Tr.fail)
              (Tr.ite (decide ((2 : Int) < (↑s.size : Int)))
                (Tr.ite (inB (2 : Int) s.size)
                  (Tr.ite (decide (v1 < (128 : Int))) (Tr.ret { rs := Slot.av (AV.one (Leaf.dat Kd.bool true)), upd := [], new := [] })
                    (Tr.ite (inB (2 : Int) s.size)
                      (Tr.ite (decide ((191 : Int) < v1)) (Tr.ret { rs := Slot.av (AV.one (Leaf.dat Kd.bool true)), upd := [], new := [] })
                        (Tr.ret { rs := Slot.av (AV.one (Leaf.dat Kd.bool false)), upd := [], new := [] }))
                      Tr.fail))
                  Tr.fail)
                (Tr.ret { rs := Slot.av (AV.one (Leaf.dat Kd.bool false)), upd := [], new := [] })))
            Tr.fail)
          Tr.fail))
      Tr.fail)
    Tr.fail) := by
  subst h1; subst h2; subst h3; subst h4; subst h5; kernel_rfl

theorem t169 (s : ByteArray) {v1 : Int} {v2 : Int} {v3 : Int} {v4 : Int} {v5 : Int} {v6 : Int} {v7 : Int} {v8 : Int} {v9 : Int} {v10 : Int} {v11 : Int}
    (h1 : (bt s (2 : Int)) = v1)
    (h2 : (bt s (3 : Int)) = v2)
    (h3 : (bt s (0 : Int)) = v3)
    (h4 : (bt s (1 : Int)) = v4)
    (h5 : (IntKind.i32.wrap (rget (Kd.int IntKind.u8) U.firstL v3)) = v5)
    (h6 : (Int.fdiv (rget (Kd.int IntKind.u8) U.firstL v3) (16 : Int)) = v6)
    (h7 : (v5 * (2147483648 : Int)) = v7)
    (h8 : ((IntKind.i32.wrap v7).fdiv (2147483648 : Int)) = v8)
    (h9 : ((↑(BitVec.ofInt (8 : Nat) v1 &&& BitVec.ofInt (8 : Nat) (63 : Int)).toNat : Int)) = v9)
    (h10 : ((↑(BitVec.ofInt (8 : Nat) v4 &&& BitVec.ofInt (8 : Nat) (63 : Int)).toNat : Int)) = v10)
    (h11 : ((↑(BitVec.ofInt (8 : Nat) (rget (Kd.int IntKind.u8) U.firstL v3) &&& BitVec.ofInt (8 : Nat) (7 : Int)).toNat : Int)) = v11)
    : evFn (E0.withFns []) Tryd.f169 [PM.data (Kd.int IntKind.i32), PM.data (Kd.int IntKind.i64)] (toAVs [Kd.str] (s, ())) [] =
Tr.ite (decide ((↑s.size : Int) < (1 : Int))) (Tr.ret { rs := Slot.tup [AV.one (Leaf.dat (Kd.int IntKind.i32) (65533 : Int)), AV.one (Leaf.dat (Kd.int IntKind.i64) (0 : Int))], upd := [], new := [] })
  (Tr.ite (inB (0 : Int) s.size)
    (Tr.ite (inB v3 (256 : Nat))
      (Tr.ite (decide ((240 : Int) ≤ rget (Kd.int IntKind.u8) U.firstL v3))
        (Tr.ite true
          (Tr.ite true
            (Tr.ite (inB (0 : Int) s.size)
              (Tr.ret
                {
                  rs :=
                    Slot.tup
                      [AV.one
                          (Leaf.dat (Kd.int IntKind.i32)
                            (IntKind.i32.wrap
                              (↑(BitVec.ofInt (32 : Nat) (IntKind.i32.wrap (↑(BitVec.ofInt (32 : Nat) (IntKind.i32.wrap v3) &&& ~~~BitVec.ofInt (32 : Nat) v8).toNat : Int)) |||
                                      BitVec.ofInt (32 : Nat) (IntKind.i32.wrap (↑(BitVec.ofInt (32 : Nat) (65533 : Int) &&& BitVec.ofInt (32 : Nat) v8).toNat : Int))).toNat :
                                Int))),
                        AV.one (Leaf.dat (Kd.int IntKind.i64) (1 : Int))],
                  upd := [], new := [] })
              Tr.fail)
            Tr.fail)
          Tr.fail)
        (Tr.ite true
          (Tr.ite (inB v6 (16 : Nat))
            (Tr.ite (decide ((↑s.size : Int) < IntKind.i64.wrap (IntKind.u8.wrap v11)))
              (Tr.ret { rs := Slot.tup [AV.one (Leaf.dat (Kd.int IntKind.i32) (65533 : Int)), AV.one (Leaf.dat (Kd.int IntKind.i64) (1 : Int))], upd := [], new := [] })
              (Tr.ite (inB (1 : Int) s.size)
                (Tr.ite (decide (v4 < (rget acck U.accL v6).fst))
                  (Tr.ret { rs := Slot.tup [AV.one (Leaf.dat (Kd.int IntKind.i32) (65533 : Int)), AV.one (Leaf.dat (Kd.int IntKind.i64) (1 : Int))], upd := [], new := [] })
                  (Tr.ite (decide ((rget acck U.accL v6).snd.fst < v4))
                    (Tr.ret { rs := Slot.tup [AV.one (Leaf.dat (Kd.int IntKind.i32) (65533 : Int)), AV.one (Leaf.dat (Kd.int IntKind.i64) (1 : Int))], upd := [], new := [] })
                    (Tr.ite (decide (IntKind.i64.wrap (IntKind.u8.wrap v11) ≤ (2 : Int)))
                      (Tr.ite true
                        (Tr.ret
                          {
                            rs :=
                              Slot.tup
                                [AV.one
                                    (Leaf.dat (Kd.int IntKind.i32)
                                      (IntKind.i32.wrap
                                        (↑(BitVec.ofInt (32 : Nat)
                                                  (IntKind.i32.wrap
                                                    (IntKind.i32.wrap (IntKind.u8.wrap (↑(BitVec.ofInt (8 : Nat) v3 &&& BitVec.ofInt (8 : Nat) (31 : Int)).toNat : Int)) * (64 : Int))) |||
                                                BitVec.ofInt (32 : Nat) (IntKind.i32.wrap (IntKind.u8.wrap v10))).toNat :
                                          Int))),
                                  AV.one (Leaf.dat (Kd.int IntKind.i64) (2 : Int))],
                            upd := [], new := [] })
                        Tr.fail)
                      (Tr.ite (inB (2 : Int) s.size)
                        (Tr.ite (decide (v1 < (128 : Int)))
                          (Tr.ret { rs := Slot.tup [AV.one (Leaf.dat (Kd.int IntKind.i32) (65533 : Int)), AV.one (Leaf.dat (Kd.int IntKind.i64) (1 : Int))], upd := [], new := [] })
                          (Tr.ite (decide ((191 : Int) < v1))
                            (Tr.ret { rs := Slot.tup [AV.one (Leaf.dat (Kd.int IntKind.i32) (65533 : Int)), AV.one (Leaf.dat (Kd.int IntKind.i64) (1 : Int))], upd := [], new := [] })
                            (Tr.ite (decide (IntKind.i64.wrap (IntKind.u8.wrap v11) ≤ (3 : Int)))
                              (Tr.ite true
                                (Tr.ite true
                                  (Tr.ret
                                    {
                                      rs :=
                                        Slot.tup
                                          [AV.one
                                              (Leaf.dat (Kd.int IntKind.i32)
                                                (IntKind.i32.wrap
                                                  (↑(BitVec.ofInt (32 : Nat)
                                                            (IntKind.i32.wrap
                                                              (↑(BitVec.ofInt (32 : Nat)
                                                                        (IntKind.i32.wrap
                                                                          (IntKind.i32.wrap (IntKind.u8.wrap (↑(BitVec.ofInt (8 : Nat) v3 &&& BitVec.ofInt (8 : Nat) (15 : Int)).toNat : Int)) *
                                                                            (4096 : Int))) |||
                                                                      BitVec.ofInt (32 : Nat) (IntKind.i32.wrap (IntKind.i32.wrap (IntKind.u8.wrap v10) * (64 : Int)))).toNat :
                                                                Int)) |||
                                                          BitVec.ofInt (32 : Nat) (IntKind.i32.wrap (IntKind.u8.wrap v9))).toNat :
                                                    Int))),
                                            AV.one (Leaf.dat (Kd.int IntKind.i64) (3 : Int))],
                                      upd := [], new := [] })
                                  Tr.fail)
                                Tr.fail)
                              (Tr.ite (inB (3 : Int) s.size)
                                (Tr.ite (decide (v2 < (128 : Int)))
                                  (Tr.ret { rs := Slot.tup [AV.one (Leaf.dat (Kd.int IntKind.i32) (65533 : Int)), AV.one (Leaf.dat (Kd.int IntKind.i64) (1 : Int))], upd := [], new := [] })
                                  (Tr.ite (decide ((191 : Int) < v2))
                                    (Tr.ret { rs := Slot.tup [AV.one (Leaf.dat (Kd.int IntKind.i32) (65533 : Int)), AV.one (Leaf.dat (Kd.int IntKind.i64) (1 : Int))], upd := [], new := [] })
                                    (Tr.ite true
                                      (Tr.ite true
                                        (Tr.ite true
                                          (Tr.ret
                                            {
                                              rs :=
                                                Slot.tup
                                                  [AV.one
                                                      (Leaf.dat (Kd.int IntKind.i32)
                                                        (IntKind.i32.wrap
                                                          (↑(BitVec.ofInt (32 : Nat)
                                                                    (IntKind.i32.wrap
                                                                      (↑(BitVec.ofInt (32 : Nat)
                                                                                (IntKind.i32.wrap
                                                                                  (↑(BitVec.ofInt (32 : Nat)
                                                                                            (IntKind.i32.wrap
                                                                                              (IntKind.i32.wrap
                                                                                                  (IntKind.u8.wrap (↑(BitVec.ofInt (8 : Nat) v3 &&& BitVec.ofInt (8 : Nat) (7 : Int)).toNat : Int)) *
                                                                                                (262144 : Int))) |||
                                                                                          BitVec.ofInt (32 : Nat) (IntKind.i32.wrap (IntKind.i32.wrap (IntKind.u8.wrap v10) * (4096 : Int)))).toNat :
                                                                                    Int)) |||
                                                                              BitVec.ofInt (32 : Nat) (IntKind.i32.wrap (IntKind.i32.wrap (IntKind.u8.wrap v9) * (64 : Int)))).toNat :
                                                                        Int)) |||
                                                                  BitVec.ofInt (32 : Nat)
                                                                    (IntKind.i32.wrap (IntKind.u8.wrap (↑(BitVec.ofInt (8 : Nat) v2 &&& BitVec.ofInt (8 : Nat) (63 : Int)).toNat : Int)))).toNat :
                                                            Int))),
                                                    AV.one (Leaf.dat (Kd.int IntKind.i64) (4 : Int))],
                                              upd := [], new := [] })
                                          Tr.fail)
                                        Tr.fail)
                                      Tr.fail)))
                                Tr.fail))))
                        Tr.fail))))
                Tr.fail))
            Tr.fail)
          Tr.fail))
      Tr.fail)
    Tr.fail) := by
  subst h1; subst h2; subst h3; subst h4; subst h5; subst h6; subst h7; subst h8; subst h9; subst h10; subst h11; kernel_rfl

theorem t156 (n : Int)
    : evFn (E0.withFns []) Tryd.f156 [PM.data Kd.bool] (toAVs [Kd.int IntKind.i32] (n, ())) [] =
Tr.ite (decide ((0 : Int) ≤ n))
  (Tr.ite (decide (n < (55296 : Int))) (Tr.ret { rs := Slot.av (AV.one (Leaf.dat Kd.bool true)), upd := [], new := [] })
    (Tr.ite (decide ((57343 : Int) < n))
      (Tr.ite (decide (n ≤ (1114111 : Int))) (Tr.ret { rs := Slot.av (AV.one (Leaf.dat Kd.bool true)), upd := [], new := [] })
        (Tr.ret { rs := Slot.av (AV.one (Leaf.dat Kd.bool false)), upd := [], new := [] }))
      (Tr.ret { rs := Slot.av (AV.one (Leaf.dat Kd.bool false)), upd := [], new := [] })))
  (Tr.ite (decide ((57343 : Int) < n))
    (Tr.ite (decide (n ≤ (1114111 : Int))) (Tr.ret { rs := Slot.av (AV.one (Leaf.dat Kd.bool true)), upd := [], new := [] })
      (Tr.ret { rs := Slot.av (AV.one (Leaf.dat Kd.bool false)), upd := [], new := [] }))
    (Tr.ret { rs := Slot.av (AV.one (Leaf.dat Kd.bool false)), upd := [], new := [] })) := by
  kernel_rfl

theorem t158
    : evFn (E0.withFns []) Tryd.f158 [PM.data ((Kd.int IntKind.i32).pr ((Kd.int IntKind.i32).pr Kd.un)).sl] (toAVs [] ()) [] =
Tr.ret
  {
    rs :=
      Slot.av
        (AV.one
          (Leaf.dat ((Kd.int IntKind.i32).pr ((Kd.int IntKind.i32).pr Kd.un)).sl
            (setNth
              (setNth (setNth (replicateK ((Kd.int IntKind.i32).pr ((Kd.int IntKind.i32).pr Kd.un)) ((0 : Int), (0 : Int), ()) (3 : Nat)) (0 : Nat) ((768 : Int), (879 : Int), ())) (1 : Nat)
                ((8203 : Int), (8205 : Int), ()))
              (2 : Nat) ((65024 : Int), (65039 : Int), ())))),
    upd := [], new := [] } := by
  kernel_rfl

theorem t159
    : evFn (E0.withFns []) Tryd.f159 [PM.data ((Kd.int IntKind.i32).pr ((Kd.int IntKind.i32).pr Kd.un)).sl] (toAVs [] ()) [] =
Tr.ret
  {
    rs :=
      Slot.av
        (AV.one
          (Leaf.dat ((Kd.int IntKind.i32).pr ((Kd.int IntKind.i32).pr Kd.un)).sl
            (setNth
              (setNth
                (setNth
                  (setNth
                    (setNth
                      (setNth
                        (setNth (setNth (replicateK ((Kd.int IntKind.i32).pr ((Kd.int IntKind.i32).pr Kd.un)) ((0 : Int), (0 : Int), ()) (8 : Nat)) (0 : Nat) ((4352 : Int), (4447 : Int), ()))
                          (1 : Nat) ((12353 : Int), (19903 : Int), ()))
                        (2 : Nat) ((19968 : Int), (40959 : Int), ()))
                      (3 : Nat) ((44032 : Int), (55203 : Int), ()))
                    (4 : Nat) ((63744 : Int), (64255 : Int), ()))
                  (5 : Nat) ((65281 : Int), (65376 : Int), ()))
                (6 : Nat) ((127744 : Int), (129791 : Int), ()))
              (7 : Nat) ((131072 : Int), (262141 : Int), ())))),
    upd := [], new := [] } := by
  kernel_rfl

theorem t138 (a : Int) (b : Int) (c : Int)
    : evFn (E0.withFns []) Tryd.f138 [PM.data Kd.bool] (toAVs [Kd.int IntKind.i64, Kd.int IntKind.i64, Kd.int IntKind.i64] (a, b, c, ())) [] =
Tr.ite (decide (b ≤ a)) (Tr.ret { rs := Slot.av (AV.one (Leaf.dat Kd.bool (decide (a ≤ c)))), upd := [], new := [] }) (Tr.ret { rs := Slot.av (AV.one (Leaf.dat Kd.bool false)), upd := [], new := [] }) := by
  kernel_rfl

theorem t171 (a : Int) (b : Int) (r : Int)
    : evFn (E0.withFns []) Tryd.f171 [PM.data Kd.bool] [AV.agg [Leaf.dat (Kd.int IntKind.i32) a, Leaf.dat (Kd.int IntKind.i32) b], AV.one (Leaf.ptr (0 : Nat) (0 : Nat))] [Blk.box [Leaf.dat (Kd.int IntKind.i32) r]] =
Tr.ite (decide (a ≤ r)) (Tr.ret { rs := Slot.av (AV.one (Leaf.dat Kd.bool (decide (r ≤ b)))), upd := [Blk.box [Leaf.dat (Kd.int IntKind.i32) r]], new := [] })
  (Tr.ret { rs := Slot.av (AV.one (Leaf.dat Kd.bool false)), upd := [Blk.box [Leaf.dat (Kd.int IntKind.i32) r]], new := [] }) := by
  kernel_rfl

end Go.Proofs.YtmnbcnhpklejcaaDoor
