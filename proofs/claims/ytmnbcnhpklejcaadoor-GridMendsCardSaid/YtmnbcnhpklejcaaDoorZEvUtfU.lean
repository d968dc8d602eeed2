/- Letters: trees. -/
import Derived.Test.YtmnbcnhpklejcaaDoorZEvUtf4
set_option linter.unusedVariables false
set_option maxRecDepth 20000
namespace Go.Proofs.YtmnbcnhpklejcaaDoor
open Go.Ev Go.RowKit

theorem t140 (r : Int)
    : evFn (E0.withFns F5) Tryd.f140 [PM.data (Kd.int IntKind.i64)] (toAVs [Kd.int IntKind.i32] (r, ())) [] =
Tr.ite (!U.valid r) (Tr.ret { rs := Slot.av (AV.one (Leaf.dat (Kd.int IntKind.i64) (-1 : Int))), upd := [], new := [] })
  (Tr.ite (decide (r < (32 : Int))) (Tr.ret { rs := Slot.av (AV.one (Leaf.dat (Kd.int IntKind.i64) (-1 : Int))), upd := [], new := [] })
    (Tr.ite (decide ((127 : Int) ≤ r))
      (Tr.ite (decide (r < (160 : Int))) (Tr.ret { rs := Slot.av (AV.one (Leaf.dat (Kd.int IntKind.i64) (-1 : Int))), upd := [], new := [] })
        (Tr.ite true
          (Tr.ite (U.within U.zero r) (Tr.ret { rs := Slot.av (AV.one (Leaf.dat (Kd.int IntKind.i64) (0 : Int))), upd := [], new := [] })
            (Tr.ite true
              (Tr.ite (U.within U.wide r) (Tr.ret { rs := Slot.av (AV.one (Leaf.dat (Kd.int IntKind.i64) (2 : Int))), upd := [], new := [] })
                (Tr.ret { rs := Slot.av (AV.one (Leaf.dat (Kd.int IntKind.i64) (1 : Int))), upd := [], new := [] }))
              Tr.fail))
          Tr.fail))
      (Tr.ite true
        (Tr.ite (U.within U.zero r) (Tr.ret { rs := Slot.av (AV.one (Leaf.dat (Kd.int IntKind.i64) (0 : Int))), upd := [], new := [] })
          (Tr.ite true
            (Tr.ite (U.within U.wide r) (Tr.ret { rs := Slot.av (AV.one (Leaf.dat (Kd.int IntKind.i64) (2 : Int))), upd := [], new := [] })
              (Tr.ret { rs := Slot.av (AV.one (Leaf.dat (Kd.int IntKind.i64) (1 : Int))), upd := [], new := [] }))
            Tr.fail))
        Tr.fail))) := by
  kernel_rfl

theorem t139 (s : ByteArray) {v1 : Int} {v2 : Int} {v3 : Int} {v4 : Int}
    (h1 : ((U.dec s).snd + (1 : Int)) = v1)
    (h2 : (IntKind.i64.wrap v1 + (1 : Int)) = v2)
    (h3 : (IntKind.i64.wrap v2 + (1 : Int)) = v3)
    (h4 : (IntKind.i64.wrap v3 + (1 : Int)) = v4)
    : evFn E139 Tryd.f139 [PM.data (Kd.int IntKind.i32), PM.data (Kd.int IntKind.i64), PM.data (Kd.int IntKind.i64)] (toAVs [Kd.str] (s, ())) [] =
Tr.ite (!U.full s)
  (Tr.ret
    { rs := Slot.tup [AV.one (Leaf.dat (Kd.int IntKind.i32) (0 : Int)), AV.one (Leaf.dat (Kd.int IntKind.i64) (0 : Int)), AV.one (Leaf.dat (Kd.int IntKind.i64) (2 : Int))], upd := [], new := [] })
  (Tr.ite (!decide ((U.dec s).fst = (65533 : Int)))
    (Tr.ret
      { rs := Slot.tup [AV.one (Leaf.dat (Kd.int IntKind.i32) (U.dec s).fst), AV.one (Leaf.dat (Kd.int IntKind.i64) (U.dec s).snd), AV.one (Leaf.dat (Kd.int IntKind.i64) (0 : Int))], upd := [],
        new := [] })
    (Tr.ite (decide ((1 : Int) < (U.dec s).snd))
      (Tr.ret
        { rs := Slot.tup [AV.one (Leaf.dat (Kd.int IntKind.i32) (U.dec s).fst), AV.one (Leaf.dat (Kd.int IntKind.i64) (U.dec s).snd), AV.one (Leaf.dat (Kd.int IntKind.i64) (0 : Int))], upd := [],
          new := [] })
      (Tr.ite (decide ((U.dec s).snd < (↑s.size : Int)))
        (Tr.ite (decide ((0 : Int) ≤ IntKind.i64.wrap v1 ∧ IntKind.i64.wrap v1 ≤ (↑s.size : Int)))
          (Tr.ite (!U.full (s.extract (0 : Nat) (IntKind.i64.wrap v1).toNat))
            (Tr.ite (decide (IntKind.i64.wrap v1 < (↑s.size : Int)))
              (Tr.ite (decide ((0 : Int) ≤ IntKind.i64.wrap v2 ∧ IntKind.i64.wrap v2 ≤ (↑s.size : Int)))
                (Tr.ite (!U.full (s.extract (0 : Nat) (IntKind.i64.wrap v2).toNat))
                  (Tr.ite (decide (IntKind.i64.wrap v2 < (↑s.size : Int)))
                    (Tr.ite (decide ((0 : Int) ≤ IntKind.i64.wrap v3 ∧ IntKind.i64.wrap v3 ≤ (↑s.size : Int)))
                      (Tr.ite (!U.full (s.extract (0 : Nat) (IntKind.i64.wrap v3).toNat))
                        (Tr.ite (decide (IntKind.i64.wrap v3 < (↑s.size : Int)))
                          (Tr.ite (decide ((0 : Int) ≤ IntKind.i64.wrap v4 ∧ IntKind.i64.wrap v4 ≤ (↑s.size : Int)))
                            (Tr.ite (!U.full (s.extract (0 : Nat) (IntKind.i64.wrap v4).toNat)) Tr.fail
                              (Tr.ret
                                {
                                  rs :=
                                    Slot.tup
                                      [AV.one (Leaf.dat (Kd.int IntKind.i32) (0 : Int)), AV.one (Leaf.dat (Kd.int IntKind.i64) (IntKind.i64.wrap v3)),
                                        AV.one (Leaf.dat (Kd.int IntKind.i64) (4 : Int))],
                                  upd := [], new := [] }))
                            Tr.fail)
                          (Tr.ret
                            {
                              rs :=
                                Slot.tup
                                  [AV.one (Leaf.dat (Kd.int IntKind.i32) (0 : Int)), AV.one (Leaf.dat (Kd.int IntKind.i64) (IntKind.i64.wrap v3)), AV.one (Leaf.dat (Kd.int IntKind.i64) (4 : Int))],
                              upd := [], new := [] }))
                        (Tr.ret
                          {
                            rs :=
                              Slot.tup
                                [AV.one (Leaf.dat (Kd.int IntKind.i32) (0 : Int)), AV.one (Leaf.dat (Kd.int IntKind.i64) (IntKind.i64.wrap v2)), AV.one (Leaf.dat (Kd.int IntKind.i64) (4 : Int))],
                            upd := [], new := [] }))
                      Tr.fail)
                    (Tr.ret
                      {
                        rs :=
                          Slot.tup [AV.one (Leaf.dat (Kd.int IntKind.i32) (0 : Int)), AV.one (Leaf.dat (Kd.int IntKind.i64) (IntKind.i64.wrap v2)), AV.one (Leaf.dat (Kd.int IntKind.i64) (4 : Int))],
                        upd := [], new := [] }))
                  (Tr.ret
                    { rs := Slot.tup [AV.one (Leaf.dat (Kd.int IntKind.i32) (0 : Int)), AV.one (Leaf.dat (Kd.int IntKind.i64) (IntKind.i64.wrap v1)), AV.one (Leaf.dat (Kd.int IntKind.i64) (4 : Int))],
                      upd := [], new := [] }))
                Tr.fail)
              (Tr.ret
                { rs := Slot.tup [AV.one (Leaf.dat (Kd.int IntKind.i32) (0 : Int)), AV.one (Leaf.dat (Kd.int IntKind.i64) (IntKind.i64.wrap v1)), AV.one (Leaf.dat (Kd.int IntKind.i64) (4 : Int))],
                  upd := [], new := [] }))
            (Tr.ret
              { rs := Slot.tup [AV.one (Leaf.dat (Kd.int IntKind.i32) (0 : Int)), AV.one (Leaf.dat (Kd.int IntKind.i64) (U.dec s).snd), AV.one (Leaf.dat (Kd.int IntKind.i64) (4 : Int))], upd := [],
                new := [] }))
          Tr.fail)
        (Tr.ret
          { rs := Slot.tup [AV.one (Leaf.dat (Kd.int IntKind.i32) (0 : Int)), AV.one (Leaf.dat (Kd.int IntKind.i64) (U.dec s).snd), AV.one (Leaf.dat (Kd.int IntKind.i64) (4 : Int))], upd := [],
            new := [] })))) := by
  subst h1; subst h2; subst h3; subst h4; kernel_rfl

theorem t155 (s : ByteArray) {v1 : Int}
    (h1 : (bt s (0 : Int)) = v1)
    : evFn (E0.withFns F1) Tryd.f155 [PM.data (Kd.int IntKind.i32), PM.data (Kd.int IntKind.i64)] (toAVs [Kd.str] (s, ())) [] =
Tr.ite (!decide (s = { data := #[] }))
  (Tr.ite (inB (0 : Int) s.size)
    (Tr.ite (decide (v1 < (128 : Int)))
      (Tr.ite (inB (0 : Int) s.size) (Tr.ret { rs := Slot.tup [AV.one (Leaf.dat (Kd.int IntKind.i32) (IntKind.i32.wrap v1)), AV.one (Leaf.dat (Kd.int IntKind.i64) (1 : Int))], upd := [], new := [] })
        Tr.fail)
      (Tr.ret { rs := Slot.tup [AV.one (Leaf.dat (Kd.int IntKind.i32) (U.dec s).fst), AV.one (Leaf.dat (Kd.int IntKind.i64) (U.dec s).snd)], upd := [], new := [] }))
    Tr.fail)
  (Tr.ret { rs := Slot.tup [AV.one (Leaf.dat (Kd.int IntKind.i32) (U.dec s).fst), AV.one (Leaf.dat (Kd.int IntKind.i64) (U.dec s).snd)], upd := [], new := [] }) := by
  subst h1; kernel_rfl

theorem t94 (a : Int) (b : Int) (c : Int)
    : evFn (E0.withFns F7) Tryd.f94 [PM.data Kd.bool] (toAVs [attk] ((a, b, c, ()), ())) [] =
Tr.ite (U.inn a (0 : Int) (256 : Int))
  (Tr.ite (U.inn b (0 : Int) (256 : Int)) (Tr.ret { rs := Slot.av (AV.one (Leaf.dat Kd.bool (U.inn c (0 : Int) (255 : Int)))), upd := [], new := [] })
    (Tr.ret { rs := Slot.av (AV.one (Leaf.dat Kd.bool false)), upd := [], new := [] }))
  (Tr.ret { rs := Slot.av (AV.one (Leaf.dat Kd.bool false)), upd := [], new := [] }) := by
  kernel_rfl

end Go.Proofs.YtmnbcnhpklejcaaDoor
