/- Trees of the wire's functions: printed by program, checked by the kernel. -/
import Derived.Test.YtiongkbkjfgimaaZEvWire3
set_option linter.unusedVariables false
set_option maxRecDepth 20000
namespace Go.Proofs.Ytiongkbkjfgimaa
open Go.Ev Go.RowKit

theorem t21 (b : ByteArray) (d : Bool) (s : ByteArray) {v1 : ByteArray} {v2 : ByteArray} {v3 : List W.Fr}
    (h1 : b ++ s = v1)
    (h2 : (W.frames v1).snd = v2)
    (h3 : (W.frames v1).fst = v3)
    : evFn E21 Try.f21 [PM.data dk, PM.data fk.sl, PM.data (Kd.int IntKind.i64)] (toAVs [dk, Kd.str] ((b, d, ()), s, ())) [] =
Tr.ite (small b)
  (Tr.ite (!W.right (b, d, ()))
    (Tr.ret
      {
        rs :=
          Slot.tup
            [AV.agg [Leaf.dat Kd.str ByteArray.empty, Leaf.dat Kd.bool false], AV.one (Leaf.dat ((Kd.int IntKind.i64).pr (Kd.str.pr Kd.un)).sl []), AV.one (Leaf.dat (Kd.int IntKind.i64) (1 : Int))],
        upd := [], new := [] })
    (Tr.ite d
      (Tr.ret
        {
          rs :=
            Slot.tup
              [AV.agg [Leaf.dat Kd.str ByteArray.empty, Leaf.dat Kd.bool false], AV.one (Leaf.dat ((Kd.int IntKind.i64).pr (Kd.str.pr Kd.un)).sl []), AV.one (Leaf.dat (Kd.int IntKind.i64) (8 : Int))],
          upd := [], new := [] })
      (Tr.ite (decide (b.size + s.size ≤ (9223372036854775807 : Nat)))
        (Tr.ite (small v1 && decide (v1 = v1))
          (Tr.ite v3.isEmpty
            (Tr.ite (small v2)
              (Tr.ite (decide (W.first v2 < (0 : Int)))
                (Tr.ret
                  {
                    rs :=
                      Slot.tup
                        [AV.agg [Leaf.dat Kd.str ByteArray.empty, Leaf.dat Kd.bool true], AV.one (Leaf.dat ((Kd.int IntKind.i64).pr (Kd.str.pr Kd.un)).sl []),
                          AV.one (Leaf.dat (Kd.int IntKind.i64) (4 : Int))],
                    upd := [], new := [] })
                (Tr.ret
                  {
                    rs :=
                      Slot.tup
                        [AV.agg [Leaf.dat Kd.str v2, Leaf.dat Kd.bool false], AV.one (Leaf.dat ((Kd.int IntKind.i64).pr (Kd.str.pr Kd.un)).sl []), AV.one (Leaf.dat (Kd.int IntKind.i64) (0 : Int))],
                    upd := [], new := [] }))
              Tr.fail)
            (Tr.ite (small v2)
              (Tr.ite (decide (W.first v2 < (0 : Int)))
                (Tr.ret
                  {
                    rs :=
                      Slot.tup
                        [AV.agg [Leaf.dat Kd.str ByteArray.empty, Leaf.dat Kd.bool true], AV.one (Leaf.dat ((Kd.int IntKind.i64).pr (Kd.str.pr Kd.un)).sl v3),
                          AV.one (Leaf.dat (Kd.int IntKind.i64) (4 : Int))],
                    upd := [], new := [] })
                (Tr.ret
                  {
                    rs :=
                      Slot.tup
                        [AV.agg [Leaf.dat Kd.str v2, Leaf.dat Kd.bool false], AV.one (Leaf.dat ((Kd.int IntKind.i64).pr (Kd.str.pr Kd.un)).sl v3), AV.one (Leaf.dat (Kd.int IntKind.i64) (0 : Int))],
                    upd := [], new := [] }))
              Tr.fail))
          Tr.fail)
        Tr.fail)))
  Tr.fail := by
  subst h1; subst h2; subst h3; kernel_rfl

theorem t38 (s : ByteArray)
    : evFn (E0.withFns []) Try.f38 [PM.data (Kd.int IntKind.i64)] (toAVs [Kd.str] (s, ())) [] =
Tr.ite (decide ((↑s.size : Int) < (3 : Int))) (Tr.ret { rs := Slot.av (AV.one (Leaf.dat (Kd.int IntKind.i64) (0 : Int))), upd := [], new := [] })
  (Tr.ite (inB (1 : Int) s.size)
    (Tr.ite (inB (2 : Int) s.size)
      (Tr.ret
        {
          rs :=
            Slot.av
              (AV.one
                (Leaf.dat (Kd.int IntKind.i64)
                  (IntKind.i64.wrap (IntKind.i64.wrap (IntKind.i64.wrap ((256 : Int) * IntKind.i64.wrap (bt s (1 : Int))) + IntKind.i64.wrap (bt s (2 : Int))) + (4 : Int))))),
          upd := [], new := [] })
      Tr.fail)
    Tr.fail) := by
  kernel_rfl

theorem t39 (s : ByteArray) {v1 : Int} {v2 : Int} {v3 : ByteArray}
    (h1 : bt s (0 : Int) = v1)
    (h2 : W.asks s - (1 : Int) = v2)
    (h3 : s.extract (0 : Nat) (IntKind.i64.wrap v2).toNat = v3)
    : evFn (E0.withFns M5) Try.f39 [PM.data Kd.bool] (toAVs [Kd.str] (s, ())) [] =
Tr.ite (decide ((↑s.size : Int) = (0 : Int))) (Tr.ret { rs := Slot.av (AV.one (Leaf.dat Kd.bool false)), upd := [], new := [] })
  (Tr.ite (inB (0 : Int) s.size)
    (Tr.ite (decide (v1 = (0 : Int))) (Tr.ret { rs := Slot.av (AV.one (Leaf.dat Kd.bool true)), upd := [], new := [] })
      (Tr.ite (inB (0 : Int) s.size)
        (Tr.ite (decide ((12 : Int) < v1)) (Tr.ret { rs := Slot.av (AV.one (Leaf.dat Kd.bool true)), upd := [], new := [] })
          (Tr.ite (small s)
            (Tr.ite (decide (W.asks s = (0 : Int))) (Tr.ret { rs := Slot.av (AV.one (Leaf.dat Kd.bool false)), upd := [], new := [] })
              (Tr.ite (decide ((516 : Int) < W.asks s)) (Tr.ret { rs := Slot.av (AV.one (Leaf.dat Kd.bool true)), upd := [], new := [] })
                (Tr.ite (decide (W.asks s ≤ (↑s.size : Int)))
                  (Tr.ite (decide ((0 : Int) ≤ IntKind.i64.wrap v2 ∧ IntKind.i64.wrap v2 ≤ (↑s.size : Int)))
                    (Tr.ite (small v3)
                      (Tr.ite (inB (IntKind.i64.wrap v2) s.size) (Tr.ret { rs := Slot.av (AV.one (Leaf.dat Kd.bool !decide (W.sum v3 = bt s (IntKind.i64.wrap v2)))), upd := [], new := [] }) Tr.fail)
                      Tr.fail)
                    Tr.fail)
                  (Tr.ret { rs := Slot.av (AV.one (Leaf.dat Kd.bool false)), upd := [], new := [] }))))
            Tr.fail))
        Tr.fail))
    Tr.fail) := by
  subst h1; subst h2; subst h3; kernel_rfl

theorem t37 (s : ByteArray)
    : evFn (E0.withFns M6) Try.f37 [PM.data Kd.bool] (toAVs [Kd.str] (s, ())) [] =
Tr.ite (small s)
  (Tr.ite (!decide (W.first s < (0 : Int)))
    (Tr.ite (small s)
      (Tr.ite (decide ((0 : Int) < W.asks s)) (Tr.ite (small s) (Tr.ret { rs := Slot.av (AV.one (Leaf.dat Kd.bool (decide (W.asks s ≤ (↑s.size : Int))))), upd := [], new := [] }) Tr.fail)
        (Tr.ret { rs := Slot.av (AV.one (Leaf.dat Kd.bool false)), upd := [], new := [] }))
      Tr.fail)
    (Tr.ret { rs := Slot.av (AV.one (Leaf.dat Kd.bool false)), upd := [], new := [] }))
  Tr.fail := by
  kernel_rfl

theorem t24 (s : ByteArray) (b : Bool)
    : evFn (E0.withFns M7) Try.f24 [PM.data Kd.bool] (toAVs [dk] ((s, b, ()), ())) [] =
Tr.ite b (Tr.ret { rs := Slot.av (AV.one (Leaf.dat Kd.bool (decide (s = { data := #[] })))), upd := [], new := [] })
  (Tr.ite (small s)
    (Tr.ite (!decide (W.first s < (0 : Int))) (Tr.ite (small s) (Tr.ret { rs := Slot.av (AV.one (Leaf.dat Kd.bool !decide ((0 : Int) < W.first s))), upd := [], new := [] }) Tr.fail)
      (Tr.ret { rs := Slot.av (AV.one (Leaf.dat Kd.bool false)), upd := [], new := [] }))
    Tr.fail) := by
  kernel_rfl

theorem t27 (n : Int) (s : ByteArray)
    : evFn (E0.withFns []) Try.f27 [PM.data Kd.bool] (toAVs [fk] ((n, s, ()), ())) [] =
Tr.ite (decide ((1 : Int) ≤ n))
  (Tr.ite (decide (n ≤ (12 : Int))) (Tr.ret { rs := Slot.av (AV.one (Leaf.dat Kd.bool (decide ((↑s.size : Int) ≤ (512 : Int))))), upd := [], new := [] })
    (Tr.ret { rs := Slot.av (AV.one (Leaf.dat Kd.bool false)), upd := [], new := [] }))
  (Tr.ret { rs := Slot.av (AV.one (Leaf.dat Kd.bool false)), upd := [], new := [] }) := by
  kernel_rfl

theorem t28 (n : Int) (s : ByteArray) {v1 : Int} {v2 : Int} {v3 : List (Kd.int IntKind.u8).T} {v4 : List (Kd.int IntKind.u8).T} {v5 : List (Kd.int IntKind.u8).T} {v6 : List (Kd.int IntKind.u8).T} {v7 : List (Kd.int IntKind.u8).T} {v8 : ByteArray} {v9 : List (Kd.int IntKind.u8).T}
    (h1 : (↑s.size : Int).tmod (256 : Int) = v1)
    (h2 : (↑s.size : Int).tdiv (256 : Int) = v2)
    (h3 : replicateK (Kd.int IntKind.u8) (0 : Int) (3 : Nat) = v3)
    (h4 : setNth v3 (0 : Nat) (IntKind.u8.wrap n) = v4)
    (h5 : replicateK (Kd.int IntKind.u8) (0 : Int) (1 : Nat) = v5)
    (h6 : setNth v4 (1 : Nat) (IntKind.u8.wrap (IntKind.i64.wrap v2)) = v6)
    (h7 : setNth v6 (2 : Nat) (IntKind.u8.wrap v1) = v7)
    (h8 : strOf v7 ++ s = v8)
    (h9 : setNth v5 (0 : Nat) (W.sum v8) = v9)
    : evFn (E0.withFns M8) Try.f28 [PM.data Kd.str] (toAVs [fk] ((n, s, ()), ())) [] =
Tr.ite true
  (Tr.ite true
    (Tr.ite (decide ((strOf v7).size + s.size ≤ (9223372036854775807 : Nat)))
      (Tr.ite (small v8)
        (Tr.ite (decide (v8.size + (strOf v9).size ≤ (9223372036854775807 : Nat))) (Tr.ret { rs := Slot.av (AV.one (Leaf.dat Kd.str (v8 ++ strOf v9))), upd := [], new := [] }) Tr.fail) Tr.fail)
      Tr.fail)
    Tr.fail)
  Tr.fail := by
  subst h1; subst h2; subst h3; subst h4; subst h5; subst h6; subst h7; subst h8; subst h9; kernel_rfl

theorem t20 (n : Int) (s : ByteArray) {v1 : Int} {v2 : Int} {v3 : List (Kd.int IntKind.u8).T} {v4 : List (Kd.int IntKind.u8).T} {v5 : List (Kd.int IntKind.u8).T} {v6 : List (Kd.int IntKind.u8).T} {v7 : List (Kd.int IntKind.u8).T} {v8 : ByteArray} {v9 : List (Kd.int IntKind.u8).T}
    (h1 : IntKind.u8.wrap (↑s.size : Int) = v1)
    (h2 : (↑s.size : Int).fdiv (256 : Int) = v2)
    (h3 : replicateK (Kd.int IntKind.u8) (0 : Int) (1 : Nat) = v3)
    (h4 : replicateK (Kd.int IntKind.u8) (0 : Int) (3 : Nat) = v4)
    (h5 : setNth v4 (0 : Nat) (IntKind.u8.wrap n) = v5)
    (h6 : setNth v5 (1 : Nat) (IntKind.u8.wrap v2) = v6)
    (h7 : setNth v6 (2 : Nat) v1 = v7)
    (h8 : strOf v7 ++ s = v8)
    (h9 : setNth v3 (0 : Nat) (W.sum v8) = v9)
    : evFn (E0.withFns M4) Try.f20 [PM.data Kd.str, PM.data (Kd.int IntKind.i64)] (toAVs [fk] ((n, s, ()), ())) [] =
Tr.ite (decide (n < (1 : Int))) (Tr.ret { rs := Slot.tup [AV.one (Leaf.dat Kd.str { data := #[] }), AV.one (Leaf.dat (Kd.int IntKind.i64) (1 : Int))], upd := [], new := [] })
  (Tr.ite (decide ((12 : Int) < n)) (Tr.ret { rs := Slot.tup [AV.one (Leaf.dat Kd.str { data := #[] }), AV.one (Leaf.dat (Kd.int IntKind.i64) (1 : Int))], upd := [], new := [] })
    (Tr.ite (decide ((512 : Int) < (↑s.size : Int))) (Tr.ret { rs := Slot.tup [AV.one (Leaf.dat Kd.str { data := #[] }), AV.one (Leaf.dat (Kd.int IntKind.i64) (1 : Int))], upd := [], new := [] })
      (Tr.ite true
        (Tr.ite (decide ((strOf v7).size + s.size ≤ (9223372036854775807 : Nat)))
          (Tr.ite (small v8)
            (Tr.ite (decide (v8.size + (strOf v9).size ≤ (9223372036854775807 : Nat)))
              (Tr.ret { rs := Slot.tup [AV.one (Leaf.dat Kd.str (v8 ++ strOf v9)), AV.one (Leaf.dat (Kd.int IntKind.i64) (0 : Int))], upd := [], new := [] }) Tr.fail)
            Tr.fail)
          Tr.fail)
        Tr.fail))) := by
  subst h1; subst h2; subst h3; subst h4; subst h5; subst h6; subst h7; subst h8; subst h9; kernel_rfl

theorem t19 (n : Int) (s : ByteArray) {v1 : Int}
    (h1 : minI (↑s.size : Int) (515 : Int) = v1)
    : evFn (E0.withFns []) Try.f19 [PM.data fk] (toAVs [fk] ((n, s, ()), ())) [] =
Tr.ite (decide ((0 : Int) ≤ v1 ∧ v1 ≤ (↑s.size : Int))) (Tr.ret { rs := Slot.av (AV.agg [Leaf.dat (Kd.int IntKind.i64) n, Leaf.dat Kd.str (s.extract (0 : Nat) v1.toNat)]), upd := [], new := [] })
  Tr.fail := by
  subst h1; kernel_rfl

theorem t26
    : evFn (E0.withFns M10) Try.f26 [PM.data Kd.bool] (toAVs [] ()) [] =
Tr.ite true
  (Tr.ite true
    (Tr.ite true
      (Tr.ite true
        (Tr.ite true (Tr.ite true (Tr.ret { rs := Slot.av (AV.one (Leaf.dat Kd.bool true)), upd := [], new := [] }) Tr.fail)
          (Tr.ret { rs := Slot.av (AV.one (Leaf.dat Kd.bool false)), upd := [], new := [] }))
        (Tr.ret { rs := Slot.av (AV.one (Leaf.dat Kd.bool false)), upd := [], new := [] }))
      (Tr.ret { rs := Slot.av (AV.one (Leaf.dat Kd.bool false)), upd := [], new := [] }))
    (Tr.ret { rs := Slot.av (AV.one (Leaf.dat Kd.bool false)), upd := [], new := [] }))
  Tr.fail := by
  kernel_rfl

theorem t40 (s : ByteArray)
    : evFn E40 Try.f40 [PM.data (Kd.int IntKind.u8)] (toAVs [Kd.str] (s, ())) [] =
Tr.ite (decide ((0 : Int) ≤ (0 : Int) ∧ (0 : Int) ≤ (255 : Int) ∧ (0 : Int) ≤ (0 : Int) ∧ (0 : Int) ≤ (↑s.size : Int) ∧ (↑s.size : Int) ≤ (1048576 : Int)))
  (Tr.ret { rs := Slot.av (AV.one (Leaf.dat (Kd.int IntKind.u8) (IntKind.u8.wrap (W.sumL (List.drop (0 : Nat) (bl s)) (0 : Int))))), upd := [], new := [] }) Tr.fail := by
  kernel_rfl

theorem t25 (a : List W.Fr) (b : List W.Fr) {v1 : Int} {v2 : Int} {v3 : Int} {v4 : List W.Fr} {v5 : List W.Fr}
    (h1 : (↑a.length : Int) = v1)
    (h2 : (↑b.length : Int) = v2)
    (h3 : (↑a.length : Int) = v3)
    (h4 : List.drop (0 : Nat) a = v4)
    (h5 : List.drop (0 : Nat) b = v5)
    : evFn E25 Try.f25 [PM.data Kd.bool] (toAVs [fk.sl, fk.sl] (a, b, ())) [] =
Tr.ite (!decide (v3 = v2)) (Tr.ret { rs := Slot.av (AV.one (Leaf.dat Kd.bool false)), upd := [], new := [] })
  (Tr.ite (true && decide (a.length = b.length ∧ v3 = v1 ∧ (0 : Int) ≤ (0 : Int) ∧ (0 : Int) ≤ v3 ∧ v3 ≤ (1048576 : Int)))
    (Tr.ite (decide (v4 = v5)) (Tr.ret { rs := Slot.av (AV.one (Leaf.dat Kd.bool true)), upd := [], new := [] }) (Tr.ret { rs := Slot.av (AV.one (Leaf.dat Kd.bool false)), upd := [], new := [] }))
    Tr.fail) := by
  subst h1; subst h2; subst h3; subst h4; subst h5; kernel_rfl

theorem t22 (b : ByteArray) (d : Bool) (s : ByteArray) {v1 : ByteArray} {v2 : List W.Fr} {v3 : ByteArray}
    (h1 : b ++ s = v1)
    (h2 : (W.frames v1).fst = v2)
    (h3 : (W.frames v1).snd = v3)
    : evFn E22 Try.f22 [PM.data tkd] (toAVs [dk, Kd.str] ((b, d, ()), s, ())) [] =
Tr.ite (small b)
  (Tr.ite (!W.right (b, d, ()))
    (Tr.ret
      { rs := Slot.av (AV.agg [Leaf.dat Kd.str ByteArray.empty, Leaf.dat Kd.bool false, Leaf.dat ((Kd.int IntKind.i64).pr (Kd.str.pr Kd.un)).sl [], Leaf.dat (Kd.int IntKind.i64) (1 : Int)]),
        upd := [], new := [] })
    (Tr.ite d
      (Tr.ret
        { rs := Slot.av (AV.agg [Leaf.dat Kd.str ByteArray.empty, Leaf.dat Kd.bool false, Leaf.dat ((Kd.int IntKind.i64).pr (Kd.str.pr Kd.un)).sl [], Leaf.dat (Kd.int IntKind.i64) (8 : Int)]),
          upd := [], new := [] })
      (Tr.ite (decide (b.size + s.size ≤ (9223372036854775807 : Nat)))
        (Tr.ite (small v1)
          (Tr.ite v2.isEmpty
            (Tr.ite (small v3)
              (Tr.ite (decide (W.first v3 < (0 : Int)))
                (Tr.ret
                  {
                    rs :=
                      Slot.av (AV.agg [Leaf.dat Kd.str ByteArray.empty, Leaf.dat Kd.bool true, Leaf.dat ((Kd.int IntKind.i64).pr (Kd.str.pr Kd.un)).sl [], Leaf.dat (Kd.int IntKind.i64) (4 : Int)]),
                    upd := [], new := [] })
                (Tr.ret
                  { rs := Slot.av (AV.agg [Leaf.dat Kd.str v3, Leaf.dat Kd.bool false, Leaf.dat ((Kd.int IntKind.i64).pr (Kd.str.pr Kd.un)).sl [], Leaf.dat (Kd.int IntKind.i64) (0 : Int)]), upd := [],
                    new := [] }))
              Tr.fail)
            (Tr.ite (small v3)
              (Tr.ite (decide (W.first v3 < (0 : Int)))
                (Tr.ret
                  {
                    rs :=
                      Slot.av (AV.agg [Leaf.dat Kd.str ByteArray.empty, Leaf.dat Kd.bool true, Leaf.dat ((Kd.int IntKind.i64).pr (Kd.str.pr Kd.un)).sl v2, Leaf.dat (Kd.int IntKind.i64) (4 : Int)]),
                    upd := [], new := [] })
                (Tr.ret
                  { rs := Slot.av (AV.agg [Leaf.dat Kd.str v3, Leaf.dat Kd.bool false, Leaf.dat ((Kd.int IntKind.i64).pr (Kd.str.pr Kd.un)).sl v2, Leaf.dat (Kd.int IntKind.i64) (0 : Int)]), upd := [],
                    new := [] }))
              Tr.fail))
          Tr.fail)
        Tr.fail)))
  Tr.fail := by
  subst h1; subst h2; subst h3; kernel_rfl

end Go.Proofs.Ytiongkbkjfgimaa
