/- Part 3 of what the proof leans on: an evaluator of Go code over plain data, with its soundness; contracts of functions; laws of plain data. -/
import Derived.Laws.Externs
import Derived.Test.YtmnbcnhpklejcaaDoorZq2
section
set_option linter.unusedVariables false
set_option linter.unusedSimpArgs false
set_option maxRecDepth 20000
namespace Go.Ev
def ib (b : Bool) : SRes := { rs := one (.dat .bool b) }
def ii (n : Int) : SRes := { rs := one (.dat (.int .i64) n) }
@[reducible] def spk : Kd := .pr (.int .i32) (.pr (.int .i32) .un)
end Go.Ev
namespace U
open Go Go.Ev
def valid (r : Int) : Bool := (decide (0 ≤ r) && decide (r < 55296)) || (decide (57343 < r) && decide (r ≤ 1114111))
def zero : List (Int × Int × Unit) := [(768, 879, ()), (8203, 8205, ()), (65024, 65039, ())]
def wide : List (Int × Int × Unit) := [(4352, 4447, ()), (12353, 19903, ()), (19968, 40959, ()), (44032, 55203, ()), (63744, 64255, ()), (65281, 65376, ()), (127744, 129791, ()), (131072, 262141, ())]
def inn (a b c : Int) : Bool := decide (b ≤ a) && decide (a ≤ c)
def span (x : Int × Int × Unit) (r : Int) : Bool := decide (x.1 ≤ r) && decide (r ≤ x.2.1)
end U
namespace Go.Proofs.YtmnbcnhpklejcaaDoor
open Go.Ev Go.RowKit
abbrev rb (b : Bool) : FRes := ⟨one (.dat .bool b), [], []⟩
abbrev ri (n : Int) : FRes := ⟨one (.dat (.int .i64) n), [], []⟩
def w154 : FSpec := dspec [.str] fun x => ib (U.full x.1)
def w169 : FSpec := dspec [.str] fun x => { rs := .tup [.one (.dat (.int .i32) (U.dec x.1).1), .one (.dat (.int .i64) (U.dec x.1).2)] }
def w156 : FSpec := dspec [.int .i32] fun x => ib (U.valid x.1)
def w158 : FSpec := dspec [] fun _ => { rs := one (.dat (.sl spk) U.zero) }
def w159 : FSpec := dspec [] fun _ => { rs := one (.dat (.sl spk) U.wide) }
def w138 : FSpec := dspec [.int .i64, .int .i64, .int .i64] fun x => ib (U.inn x.1 x.2.1 x.2.2.1)
def w171 : FSpec := bspec [.d spk, .c (.ptr 0 0)] [.box [.d (.int .i32)]] fun x y => { rs := one (.dat .bool (U.span x.1 y.1.1)), upd := [.box [.dat (.int .i32) y.1.1]] }
theorem inB_true {i : Int} {n : Nat} (h : 0 ≤ i ∧ i < n) : inB i n = true := by simp [inB, h]
theorem wrap32_id {n : Int} (h0 : -2147483648 ≤ n) (h1 : n ≤ 2147483647) : IntKind.i32.wrap n = n := by
  rw [IntKind.wrap_i32]; omega
theorem m63 {x : Int} (h0 : 0 ≤ x) (h1 : x ≤ 255) : IntKind.u8.wrap (((BitVec.ofInt 8 x &&& BitVec.ofInt 8 63).toNat : Int)) = x % 64 := u8_and63 x h0 (by omega)
theorem m31 {x : Int} (h0 : 0 ≤ x) (h1 : x ≤ 255) : IntKind.u8.wrap (((BitVec.ofInt 8 x &&& BitVec.ofInt 8 31).toNat : Int)) = x % 32 := u8_and31 x h0 (by omega)
theorem m15 {x : Int} (h0 : 0 ≤ x) (h1 : x ≤ 255) : IntKind.u8.wrap (((BitVec.ofInt 8 x &&& BitVec.ofInt 8 15).toNat : Int)) = x % 16 := u8_and15 x h0 (by omega)
theorem m7 {x : Int} (h0 : 0 ≤ x) (h1 : x ≤ 255) : IntKind.u8.wrap (((BitVec.ofInt 8 x &&& BitVec.ofInt 8 7).toNat : Int)) = x % 8 := u8_and7 x h0 (by omega)
theorem o6 {x y : Int} (hx0 : 0 ≤ x) (hx : x % 64 = 0) (hx1 : x < 2147483648) (h0 : 0 ≤ y) (h1 : y < 64) : IntKind.i32.wrap (((BitVec.ofInt 32 x ||| BitVec.ofInt 32 y).toNat : Int)) = x + y := i32_or6 x y hx0 hx hx1 h0 h1
theorem o12 {x y : Int} (hx0 : 0 ≤ x) (hx : x % 4096 = 0) (hx1 : x < 2147483648) (h0 : 0 ≤ y) (h1 : y < 4096) : IntKind.i32.wrap (((BitVec.ofInt 32 x ||| BitVec.ofInt 32 y).toNat : Int)) = x + y := i32_or12 x y hx0 hx hx1 h0 h1
theorem o18 {x y : Int} (hx0 : 0 ≤ x) (hx : x % 262144 = 0) (hx1 : x < 2147483648) (h0 : 0 ≤ y) (h1 : y < 262144) : IntKind.i32.wrap (((BitVec.ofInt 32 x ||| BitVec.ofInt 32 y).toNat : Int)) = x + y := i32_or18 x y hx0 hx hx1 h0 h1
theorem v154 (s : ByteArray) : (evFn (E0.withFns []) Tryd.f154 [.data .bool] (toAVs [.str] (s, ())) []).val = some (rb (U.full s)) := by
  have b0 := bt_ge s 0
  have b1 := bt_lt s 0
  obtain ⟨x0, x1, big, hq, f0, f1, hl, hh, hx⟩ := U.row b0 b1
  have hq' : IntKind.i64.wrap (IntKind.u8.wrap (((BitVec.ofInt 8 (rget (.int .u8) U.firstL (bt s 0)) &&& BitVec.ofInt 8 7).toNat : Int))) = _ := hq
  rw [t154 s rfl rfl rfl rfl rfl]
  unfold U.full
  rw [hq']
  have i0 : inB (bt s 0) 256 = true := inB_true ⟨b0, by omega⟩
  have i1 : inB ((rget (.int .u8) U.firstL (bt s 0) : Int).fdiv 16) 16 = true := inB_true ⟨f0, f1⟩
  by_cases c0 : s.size = 0
  · simp [Tr.val, c0]; rfl
  have c0' : ¬ ((s.size : Int) = 0) := by omega
  have i2 : inB 0 s.size = true := inB_true ⟨by omega, by omega⟩
  rcases U.need_cases (bt s 0) with ⟨hn, hc⟩ | hn | hn
  · have e : ¬ (s.size : Int) < 1 := by omega
    have e1 : (decide ((0 : Int) ≤ (s.size : Int))) = true := by simp
    have e2 : (decide ((1 : Int) ≤ (s.size : Int))) = true := by simp; omega
    simp only [Tr.val, c0, c0', i0, i2, hn, hc, if_true, e1, e2, decide_false, cond_false, cond_true]
    rfl
  · have e2 : (decide ((1 : Int) ≤ (s.size : Int))) = true := by simp; omega
    have e3 : (decide ((0 : Int) ≤ (s.size : Int))) = true := by simp
    have hc : ¬ bt s 0 < 128 := by
      intro h
      unfold U.need at hn
      rw [if_pos h] at hn
      omega
    simp only [Tr.val, c0, c0', i0, i2, hn, hc, if_false, e2, e3, decide_false, cond_false, cond_true, if_pos (show (0 : Int) ≤ 1 by omega)]
    rfl
  · have hn2 : 2 ≤ U.need (bt s 0) := by omega
    have hc : ¬ bt s 0 < 128 := by omega
    have hn1 : ¬ U.need (bt s 0) ≤ 1 := by omega
    have hlo := hl hn2
    have hhi := hh hn2
    simp only [Tr.val, c0, c0', i0, i1, i2, hc, hn1, if_false, hlo, hhi, decide_false, cond_false, cond_true]
    by_cases c1 : U.need (bt s 0) ≤ (s.size : Int)
    · simp only [c1, decide_true, cond_true]; try rfl
    · simp only [c1, decide_false, cond_false]
      unfold U.ok1 U.cont
      by_cases c2 : 1 < s.size
      · have c2' : (1 : Int) < (s.size : Int) := by omega
        have i3 : inB 1 s.size = true := inB_true ⟨by omega, by omega⟩
        by_cases c3 : bt s 1 < U.lo (bt s 0)
        · have c4 : ¬ U.lo (bt s 0) ≤ bt s 1 := by omega
          simp only [c2, c2', i3, c3, c4, decide_true, decide_false, cond_true, cond_false, Bool.false_and, Bool.not_false, Bool.and_self]; try rfl
        · have c4 : U.lo (bt s 0) ≤ bt s 1 := by omega
          by_cases c5 : U.hi (bt s 0) < bt s 1
          · have c6 : ¬ bt s 1 ≤ U.hi (bt s 0) := by omega
            simp only [c2, c2', i3, c3, c4, c5, c6, decide_true, decide_false, cond_true, cond_false, Bool.and_false, Bool.not_false, Bool.and_self]; try rfl
          · have c6 : bt s 1 ≤ U.hi (bt s 0) := by omega
            by_cases c7 : 2 < s.size
            · have c7' : (2 : Int) < (s.size : Int) := by omega
              have i4 : inB 2 s.size = true := inB_true ⟨by omega, by omega⟩
              by_cases c8 : bt s 2 < 128
              · have c9 : ¬ 128 ≤ bt s 2 := by omega
                simp only [c2, c2', i3, i4, c3, c4, c5, c6, c7, c7', c8, c9, decide_true, decide_false, cond_true, cond_false, Bool.and_false, Bool.false_and, Bool.not_false, Bool.not_true, Bool.and_self]; try rfl
              · have c9 : 128 ≤ bt s 2 := by omega
                by_cases c10 : 191 < bt s 2
                · have c11 : ¬ bt s 2 ≤ 191 := by omega
                  simp only [c2, c2', i3, i4, c3, c4, c5, c6, c7, c7', c8, c9, c10, c11, decide_true, decide_false, cond_true, cond_false, Bool.and_false, Bool.false_and, Bool.not_false, Bool.not_true, Bool.and_self]; try rfl
                · have c11 : bt s 2 ≤ 191 := by omega
                  simp only [c2, c2', i3, i4, c3, c4, c5, c6, c7, c7', c8, c9, c10, c11, decide_true, decide_false, cond_true, cond_false, Bool.and_false, Bool.false_and, Bool.not_false, Bool.not_true, Bool.and_self]; try rfl
            · have c7' : ¬ (2 : Int) < (s.size : Int) := by omega
              simp only [c2, c2', i3, c3, c4, c5, c6, c7, c7', decide_true, decide_false, cond_true, cond_false, Bool.and_false, Bool.false_and, Bool.not_false, Bool.not_true, Bool.and_self]; try rfl
      · have c2' : ¬ (1 : Int) < (s.size : Int) := by omega
        have c7 : ¬ 2 < s.size := by omega
        have c7' : ¬ (2 : Int) < (s.size : Int) := by omega
        simp only [c2, c2', c7, c7', decide_true, decide_false, cond_true, cond_false, Bool.and_false, Bool.false_and, Bool.not_false, Bool.not_true, Bool.and_self]; try rfl
theorem wk154 : SpecOK Tryd.prog E0 154 w154 := by
  refine dspec_ok (E0 := E0) (E := E0.withFns []) (fns := []) tab .nil rfl rfl hm Tryd.func154 (by kernel_rfl) [.data .bool] (fun x hx => ?_)
  obtain ⟨s, z⟩ := x
  exact v154 s
abbrev rd (x : Int × Int) : FRes := ⟨.tup [.one (.dat (.int .i32) x.1), .one (.dat (.int .i64) x.2)], [], []⟩
theorem keepb : ∀ x : Fin 256, IntKind.i32.wrap (((BitVec.ofInt 32 (IntKind.i32.wrap (((BitVec.ofInt 32 (IntKind.i32.wrap ((x.val : Nat) : Int)) &&& ~~~BitVec.ofInt 32 ((IntKind.i32.wrap (IntKind.i32.wrap 240 * 2147483648)).fdiv 2147483648)).toNat : Int))) |||
    BitVec.ofInt 32 (IntKind.i32.wrap (((BitVec.ofInt 32 65533 &&& BitVec.ofInt 32 ((IntKind.i32.wrap (IntKind.i32.wrap 240 * 2147483648)).fdiv 2147483648)).toNat : Int)))).toNat : Int)) = ((x.val : Nat) : Int) := by decide +kernel
theorem dropb : ∀ x : Fin 256, IntKind.i32.wrap (((BitVec.ofInt 32 (IntKind.i32.wrap (((BitVec.ofInt 32 (IntKind.i32.wrap ((x.val : Nat) : Int)) &&& ~~~BitVec.ofInt 32 ((IntKind.i32.wrap (IntKind.i32.wrap 241 * 2147483648)).fdiv 2147483648)).toNat : Int))) |||
    BitVec.ofInt 32 (IntKind.i32.wrap (((BitVec.ofInt 32 65533 &&& BitVec.ofInt 32 ((IntKind.i32.wrap (IntKind.i32.wrap 241 * 2147483648)).fdiv 2147483648)).toNat : Int)))).toNat : Int)) = 65533 := by decide +kernel
theorem keep_b {b : Int} (h0 : 0 ≤ b) (h1 : b ≤ 255) : IntKind.i32.wrap (((BitVec.ofInt 32 (IntKind.i32.wrap (((BitVec.ofInt 32 (IntKind.i32.wrap b) &&& ~~~BitVec.ofInt 32 ((IntKind.i32.wrap (IntKind.i32.wrap 240 * 2147483648)).fdiv 2147483648)).toNat : Int))) |||
    BitVec.ofInt 32 (IntKind.i32.wrap (((BitVec.ofInt 32 65533 &&& BitVec.ofInt 32 ((IntKind.i32.wrap (IntKind.i32.wrap 240 * 2147483648)).fdiv 2147483648)).toNat : Int)))).toNat : Int)) = b := by
  obtain ⟨n, rfl⟩ := Int.eq_ofNat_of_zero_le h0
  exact keepb ⟨n, by omega⟩
theorem drop_b {b : Int} (h0 : 0 ≤ b) (h1 : b ≤ 255) : IntKind.i32.wrap (((BitVec.ofInt 32 (IntKind.i32.wrap (((BitVec.ofInt 32 (IntKind.i32.wrap b) &&& ~~~BitVec.ofInt 32 ((IntKind.i32.wrap (IntKind.i32.wrap 241 * 2147483648)).fdiv 2147483648)).toNat : Int))) |||
    BitVec.ofInt 32 (IntKind.i32.wrap (((BitVec.ofInt 32 65533 &&& BitVec.ofInt 32 ((IntKind.i32.wrap (IntKind.i32.wrap 241 * 2147483648)).fdiv 2147483648)).toNat : Int)))).toNat : Int)) = 65533 := by
  obtain ⟨n, rfl⟩ := Int.eq_ofNat_of_zero_le h0
  exact dropb ⟨n, by omega⟩
theorem lo_ge (c : Int) : 128 ≤ U.lo c := by
  unfold U.lo
  repeat' split
  all_goals omega
theorem hi_le (c : Int) : U.hi c ≤ 191 := by
  unfold U.hi
  repeat' split
  all_goals omega
theorem v169 (s : ByteArray) : (evFn (E0.withFns []) Tryd.f169 [.data (.int .i32), .data (.int .i64)] (toAVs [.str] (s, ())) []).val = some (rd (U.dec s)) := by
  have b0 := bt_ge s 0
  have b1 := bt_lt s 0
  have b2 := bt_ge s 1
  have b3 := bt_lt s 1
  have b4 := bt_ge s 2
  have b5 := bt_lt s 2
  have b6 := bt_ge s 3
  have b7 := bt_lt s 3
  obtain ⟨x0, x1, big, hq, f0, f1, hl, hh, hx⟩ := U.row b0 b1
  have hq' : IntKind.i64.wrap (IntKind.u8.wrap (((BitVec.ofInt 8 (rget (.int .u8) U.firstL (bt s 0)) &&& BitVec.ofInt 8 7).toNat : Int))) = _ := hq
  rw [t169 s rfl rfl rfl rfl rfl rfl rfl rfl rfl rfl rfl]
  unfold U.dec
  rw [hq', m63 b2 b3, m63 b4 b5, m63 b6 b7, m31 b0 b1, m15 b0 b1, m7 b0 b1]
  have i0 : inB (bt s 0) 256 = true := inB_true ⟨b0, by omega⟩
  have i1 : inB ((rget (.int .u8) U.firstL (bt s 0) : Int).fdiv 16) 16 = true := inB_true ⟨f0, f1⟩
  by_cases c0 : s.size = 0
  · have c0' : (s.size : Int) < 1 := by omega
    simp only [Tr.val, c0, c0', decide_true, cond_true]; rfl
  have c0' : ¬ (s.size : Int) < 1 := by omega
  have i2 : inB 0 s.size = true := inB_true ⟨by omega, by omega⟩
  rcases U.need_cases (bt s 0) with ⟨hn, hc⟩ | hn | hn
  · have hbig := big.2 (by omega)
    have hxx := hx (by omega)
    rw [if_pos hc] at hxx
    simp only [Tr.val, c0, c0', i0, i2, hn, hxx, keep_b b0 b1, decide_false, decide_true, cond_false, cond_true, show ¬ ((1 : Int) = 0) by omega, show (240 : Int) ≤ 240 by omega]
  · have hc : ¬ bt s 0 < 128 := by
      intro h
      unfold U.need at hn
      rw [if_pos h] at hn
      omega
    have hxx := hx (by omega)
    rw [if_neg hc] at hxx
    simp only [Tr.val, c0, c0', i0, i2, hn, hxx, drop_b b0 b1, decide_false, decide_true, cond_false, cond_true, show (240 : Int) ≤ 241 by omega]
  · have hn2 : 2 ≤ U.need (bt s 0) := by omega
    have hc : ¬ bt s 0 < 128 := by omega
    have hn1 : ¬ U.need (bt s 0) ≤ 1 := by omega
    have hn0 : ¬ U.need (bt s 0) = 0 := by omega
    have hn11 : ¬ U.need (bt s 0) = 1 := by omega
    have hbig : ¬ (240 : Int) ≤ (rget (.int .u8) U.firstL (bt s 0) : Int) := fun h => hn1 (big.1 h)
    have hlo := hl hn2
    have hhi := hh hn2
    simp only [Tr.val, c0, c0', i0, i1, i2, hc, hn1, hn0, hn11, hbig, if_false, hlo, hhi, decide_false, decide_true, cond_false, cond_true]
    by_cases c1 : (s.size : Int) < U.need (bt s 0)
    · simp only [c1, decide_true, cond_true]
    · have i3 : inB 1 s.size = true := inB_true ⟨by omega, by omega⟩
      simp only [c1, i3, decide_false, cond_false, cond_true]
      unfold U.ok1 U.cont
      by_cases c3 : bt s 1 < U.lo (bt s 0)
      · have c4 : ¬ U.lo (bt s 0) ≤ bt s 1 := by omega
        simp only [c3, c4, decide_true, decide_false, cond_true, cond_false, Bool.false_and, Bool.not_false]
      · have c4 : U.lo (bt s 0) ≤ bt s 1 := by omega
        by_cases c5 : U.hi (bt s 0) < bt s 1
        · have c6 : ¬ bt s 1 ≤ U.hi (bt s 0) := by omega
          simp only [c3, c4, c5, c6, decide_true, decide_false, cond_true, cond_false, Bool.and_false, Bool.not_false]
        · have c6 : bt s 1 ≤ U.hi (bt s 0) := by omega
          have l1 := lo_ge (bt s 0)
          have l2 := hi_le (bt s 0)
          simp only [c3, c4, c5, c6, decide_true, decide_false, cond_true, cond_false, Bool.and_self, Bool.not_true]
          have w1 : IntKind.i32.wrap (bt s 1 % 64) = bt s 1 - 128 := by rw [wrap32_id (by omega) (by omega)]; omega
          by_cases d2 : U.need (bt s 0) = 2
          · have e0 : IntKind.i32.wrap (bt s 0 % 32) = bt s 0 - 192 := by rw [wrap32_id (by omega) (by omega)]; omega
            have e1 : IntKind.i32.wrap ((bt s 0 - 192) * 64) = (bt s 0 - 192) * 64 := wrap32_id (by omega) (by omega)
            simp only [d2, w1, e0, e1, decide_true, cond_true, show (2 : Int) ≤ 2 by omega]
            rw [o6 (by omega) (by omega) (by omega) (by omega) (by omega)]
            rfl
          · have d2' : ¬ U.need (bt s 0) ≤ 2 := by omega
            have i4 : inB 2 s.size = true := inB_true ⟨by omega, by omega⟩
            simp only [d2, d2', i4, decide_false, cond_false, cond_true]
            by_cases c8 : bt s 2 < 128
            · have c9 : ¬ 128 ≤ bt s 2 := by omega
              simp only [c8, c9, decide_true, decide_false, cond_true, cond_false, Bool.false_and, Bool.not_false]
            · have c9 : 128 ≤ bt s 2 := by omega
              by_cases c10 : 191 < bt s 2
              · have c11 : ¬ bt s 2 ≤ 191 := by omega
                simp only [c8, c9, c10, c11, decide_true, decide_false, cond_true, cond_false, Bool.and_false, Bool.not_false]
              · have c11 : bt s 2 ≤ 191 := by omega
                simp only [c8, c9, c10, c11, decide_true, decide_false, cond_true, cond_false, Bool.and_self, Bool.not_true]
                have w2 : IntKind.i32.wrap (bt s 2 % 64) = bt s 2 - 128 := by rw [wrap32_id (by omega) (by omega)]; omega
                have w11 : IntKind.i32.wrap ((bt s 1 - 128) * 64) = (bt s 1 - 128) * 64 := wrap32_id (by omega) (by omega)
                by_cases d3 : U.need (bt s 0) = 3
                · have e0 : IntKind.i32.wrap (bt s 0 % 16) = bt s 0 - 224 := by rw [wrap32_id (by omega) (by omega)]; omega
                  have e1 : IntKind.i32.wrap ((bt s 0 - 224) * 4096) = (bt s 0 - 224) * 4096 := wrap32_id (by omega) (by omega)
                  simp only [d3, w1, w2, w11, e0, e1, decide_true, cond_true, show (3 : Int) ≤ 3 by omega]
                  rw [o12 (x := (bt s 0 - 224) * 4096) (y := (bt s 1 - 128) * 64) (by omega) (by omega) (by omega) (by omega) (by omega), o6 (x := (bt s 0 - 224) * 4096 + (bt s 1 - 128) * 64) (y := bt s 2 - 128) (by omega) (by omega) (by omega) (by omega) (by omega)]
                  rfl
                · have d3' : ¬ U.need (bt s 0) ≤ 3 := by omega
                  have d4 : U.need (bt s 0) = 4 := by omega
                  have i5 : inB 3 s.size = true := inB_true ⟨by omega, by omega⟩
                  simp only [d3, d3', i5, decide_false, cond_false, cond_true]
                  by_cases c12 : bt s 3 < 128
                  · have c13 : ¬ 128 ≤ bt s 3 := by omega
                    simp only [c12, c13, decide_true, decide_false, cond_true, cond_false, Bool.false_and, Bool.not_false]
                  · have c13 : 128 ≤ bt s 3 := by omega
                    by_cases c14 : 191 < bt s 3
                    · have c15 : ¬ bt s 3 ≤ 191 := by omega
                      simp only [c12, c13, c14, c15, decide_true, decide_false, cond_true, cond_false, Bool.and_false, Bool.not_false]
                    · have c15 : bt s 3 ≤ 191 := by omega
                      have e0 : IntKind.i32.wrap (bt s 0 % 8) = bt s 0 - 240 := by rw [wrap32_id (by omega) (by omega)]; omega
                      have e1 : IntKind.i32.wrap ((bt s 0 - 240) * 262144) = (bt s 0 - 240) * 262144 := wrap32_id (by omega) (by omega)
                      have w12 : IntKind.i32.wrap ((bt s 1 - 128) * 4096) = (bt s 1 - 128) * 4096 := wrap32_id (by omega) (by omega)
                      have w21 : IntKind.i32.wrap ((bt s 2 - 128) * 64) = (bt s 2 - 128) * 64 := wrap32_id (by omega) (by omega)
                      have w3 : IntKind.i32.wrap (bt s 3 % 64) = bt s 3 - 128 := by rw [wrap32_id (by omega) (by omega)]; omega
                      simp only [c12, c13, c14, c15, w1, w2, w12, w21, w3, e0, e1, decide_true, decide_false, cond_true, cond_false, Bool.and_self, Bool.not_true]
                      rw [o18 (x := (bt s 0 - 240) * 262144) (y := (bt s 1 - 128) * 4096) (by omega) (by omega) (by omega) (by omega) (by omega), o12 (x := (bt s 0 - 240) * 262144 + (bt s 1 - 128) * 4096) (y := (bt s 2 - 128) * 64) (by omega) (by omega) (by omega) (by omega) (by omega), o6 (x := (bt s 0 - 240) * 262144 + (bt s 1 - 128) * 4096 + (bt s 2 - 128) * 64) (y := bt s 3 - 128) (by omega) (by omega) (by omega) (by omega) (by omega)]
                      rfl
theorem wk169 : SpecOK Tryd.prog E0 169 w169 := by
  refine dspec_ok (E0 := E0) (E := E0.withFns []) (fns := []) tab .nil rfl rfl hm Tryd.func169 (by kernel_rfl) [.data (.int .i32), .data (.int .i64)] (fun x hx => ?_)
  obtain ⟨s, z⟩ := x
  exact v169 s
end Go.Proofs.YtmnbcnhpklejcaaDoor
end
section
set_option linter.unusedVariables false
set_option linter.unusedSimpArgs false
set_option maxRecDepth 20000
namespace U
open Go Go.Ev
abbrev Sp := Int × Int × Unit
def fi (l : List Sp) (r : Int) : Option Nat := findN (fun j => span (l.getD j (0, 0, ())) r) l.length 0
def idx (l : List Sp) (r : Int) : Int := match fi l r with
  | some j => (j : Int)
  | none => -1
def within (l : List Sp) (r : Int) : Bool := l.any fun x => span x r
theorem idx_within (l : List Sp) (r : Int) : decide (0 ≤ idx l r) = within l r := by
  have h := find_any (fun x => span x r) (0, 0, ()) l
  have h' : (fi l r).isSome = within l r := h
  rw [← h']
  unfold idx
  cases fi l r with
  | none => rfl
  | some j => exact decide_eq_true (by show (0 : Int) ≤ (j : Int); omega)
end U
namespace Go.Proofs.YtmnbcnhpklejcaaDoor
open Go.Ev Go.RowKit
def w155 : FSpec := w169
def w177 : FSpec := bspec [.d (.sl spk), .c (.fn 171 [0])] [.box [.d (.int .i32)]] fun x y => { c := some (decide (List.length x.1 ≤ 1048576)), rs := one (.dat (.int .i64) (U.idx x.1 y.1.1)), upd := [.box [.dat (.int .i32) y.1.1]] }
def w170 : FSpec := bspec [.d (.sl spk), .c (.fn 171 [0])] [.box [.d (.int .i32)]] fun x y => { c := some (decide (List.length x.1 ≤ 1048576)), rs := one (.dat .bool (U.within x.1 y.1.1)), upd := [.box [.dat (.int .i32) y.1.1]] }
def w157 : FSpec := dspec [.sl spk, .int .i32] fun x => { c := some (decide (List.length x.1 ≤ 1048576)), rs := one (.dat .bool (U.within x.1 x.2.1)) }
def F1 : List (Nat × FSpec) := [(169, w169)]
def F2 : List (Nat × FSpec) := [(171, w171)]
def F3 : List (Nat × FSpec) := [(177, w177)]
def F4 : List (Nat × FSpec) := [(170, w170)]
def F5 : List (Nat × FSpec) := [(156, w156), (157, w157), (158, w158), (159, w159)]
def live177 (key : Nat) : Lv := bif Nat.beq key 2 then { ls := [0, 1, 7, 8] } else bif Nat.beq key 1002 then { ls := [4] } else { ls := [] }
@[reducible] def p177 : LP := { n := 19, sl := [.d (.sl spk), .c (.fn 171 [0]), .d (.int .i64), .d (.int .i64)], bl := [(0, .box [.d (.int .i32)])] }
def B177 (x : p177.T) : Tr (p177.T ⊕ (Ex × VS)) :=
 .ite (decide ((x.1.2.2.1 : Int) < (x.1.2.1 : Int))) (.ite (inB x.1.2.2.1 (List.length (α := U.Sp) x.1.1)) (.ite (U.span ((rget spk x.1.1 x.1.2.2.1).1, (rget spk x.1.1 x.1.2.2.1).2.1, ()) x.2.1.1) (.ret (.inr (.ret, ⟨19, [dI .i64 x.1.2.2.1], [(0, .box [.dat (.int .i32) x.2.1.1])]⟩))) (.ret (.inl ((x.1.1, x.1.2.1, IntKind.i64.wrap (x.1.2.2.1 + 1), ()), x.2)))) .fail) (.ret (.inr (.exit 0, ⟨19, [hole0], [(0, .box [.dat (.int .i32) x.2.1.1])]⟩)))
def tr177 (x : p177.T) : Tr (Ex × VS) :=
  .ite (decide ((x.1.2.1 : Int) = (List.length (α := U.Sp) x.1.1 : Int) ∧ (x.1.2.2.1 : Int) = 0 ∧ List.length (α := U.Sp) x.1.1 ≤ 1048576))
    (.ite ((U.fi x.1.1 x.2.1.1).isSome)
      (.ret (.ret, ⟨19, [dI .i64 (((U.fi x.1.1 x.2.1.1).getD 0 : Nat) : Int)], [(0, .box [.dat (.int .i32) x.2.1.1])]⟩))
      (.ret (.exit 0, ⟨19, [hole0], [(0, .box [.dat (.int .i32) x.2.1.1])]⟩))) .fail
def ls177 (key : Nat) (x : VS) : Option (Tr (Ex × VS)) := bif Nat.beq key 2 then p177.ls tr177 x else none
abbrev E177 : Env := (E0.withFns F2).loops live177 ls177
theorem hB177 (x : p177.T) : (evC (evI 2) (lc Tryd.f177 0) (E177.lend 1) (unV [0, 1, 7, 8] (p177.V x))).map (decL 1 [0, 1, 7, 8] [4]) = (B177 x).map (encL p177.V) := by
  obtain ⟨⟨xs, n, i, z⟩, ⟨r, z'⟩, z''⟩ := x
  kernel_rfl
theorem hc177 (x : p177.T) : canV 1 [0, 1, 7, 8] (unV [0, 1, 7, 8] (p177.V x)) = p177.V x := by
  obtain ⟨⟨xs, n, i, z⟩, ⟨r, z'⟩, z''⟩ := x
  kernel_rfl
theorem run177 (xs : List U.Sp) (r : Int) (z z' z'' : Unit) (hl : xs.length ≤ 1048576) : runB B177 (xs.length + 1) ((xs, (xs.length : Int), 0, z), (r, z'), z'') =
    some (outN (U.fi xs r) (fun j => (Ex.ret, ⟨19, [dI .i64 (j : Int)], [(0, .box [.dat (.int .i32) r])]⟩)) (Ex.exit 0, ⟨19, [hole0], [(0, .box [.dat (.int .i32) r])]⟩)) := by
  refine runB_find (B := B177) (N := xs.length) (fun i => ((xs, (xs.length : Int), (i : Int), z), (r, z'), z'')) _ (fun j => (Ex.ret, ⟨19, [dI .i64 (j : Int)], [(0, .box [.dat (.int .i32) r])]⟩)) _ (fun i hi => ?_) ?_ xs.length 0 (by omega)
  · have h1 : decide ((i : Int) < (xs.length : Int)) = true := decide_eq_true (by omega)
    have h2 : inB (i : Int) xs.length = true := inB_nat hi
    simp only [B177, Tr.val, h1, h2, cond_true, rget_nat, wrap64_nat (show i ≤ 1048576 by omega)]
    show (bif U.span (xs.getD i (0, 0, ())) r then _ else _) = _
    cases U.span (xs.getD i (0, 0, ())) r <;> rfl
  · have h1 : decide ((xs.length : Int) < (xs.length : Int)) = false := decide_eq_false (by omega)
    simp only [B177, Tr.val, h1, cond_false]
theorem loop177 : LoopOK (evI 2) (E177.lend 1) (lc Tryd.f177 0) := by
  refine loopP 2 { ls := [0, 1, 7, 8] } { ls := [4] } p177 B177 tr177 (by kernel_rfl) rfl rfl (fun x => rfl) hB177 hc177 ?_
  rintro ⟨⟨xs, n, i, z⟩, ⟨r, z'⟩, z''⟩ q hq
  simp only [tr177, Tr.val] at hq
  cases hd : decide ((n : Int) = (List.length (α := U.Sp) xs : Int) ∧ (i : Int) = 0 ∧ List.length (α := U.Sp) xs ≤ 1048576) with
  | false => rw [hd] at hq; cases hq
  | true =>
    rw [hd] at hq
    have hd' : (n : Int) = (List.length (α := U.Sp) xs : Int) ∧ (i : Int) = 0 ∧ List.length (α := U.Sp) xs ≤ 1048576 := of_decide_eq_true hd
    obtain ⟨rfl, rfl, hl⟩ := hd'
    refine ⟨List.length (α := U.Sp) xs + 1, (run177 xs r z z' z'' hl).trans ?_⟩
    rw [← hq]
    cases U.fi xs r <;> rfl
theorem t177 (xs : List U.Sp) (r : Int) : evFn E177 Tryd.f177 [.data (.int .i64)] (akAV [.d (.sl spk), .c (.fn 171 [0])] (xs, ())) (bkBs [.box [.d (.int .i32)]] ((r, ()), ())) =
    .ite (decide ((xs.length : Int) = (xs.length : Int) ∧ (0 : Int) = 0 ∧ xs.length ≤ 1048576))
      (.ite ((U.fi xs r).isSome) (.ret ⟨one (.dat (.int .i64) (((U.fi xs r).getD 0 : Nat) : Int)), [.box [.dat (.int .i32) r]], []⟩) (.ret ⟨one (.dat (.int .i64) (-1 : Int)), [.box [.dat (.int .i32) r]], []⟩)) .fail := by kernel_rfl
theorem wk171 : SpecOK Tryd.prog E0 171 w171 := by
  refine bspec_ok (E0 := E0) (E := E0.withFns []) (fns := []) tab .nil rfl rfl hm Tryd.func171 (by kernel_rfl) [.data .bool] (fun x y hc => ?_)
  obtain ⟨⟨a, b, z⟩, z'⟩ := x
  obtain ⟨⟨r, z''⟩, z3⟩ := y
  have e : evFn (E0.withFns []) Tryd.f171 [.data .bool] (akAV [.d spk, .c (.ptr 0 0)] ((a, b, z), z')) (bkBs [.box [.d (.int .i32)]] ((r, z''), z3)) = _ := t171 a b r
  rw [e]
  show Tr.val _ = some (⟨one (.dat .bool (decide (a ≤ r) && decide (r ≤ b))), [.box [.dat (.int .i32) r]], []⟩ : FRes)
  cases h : decide (a ≤ r) <;> simp only [Tr.val, h, cond_true, cond_false, Bool.true_and, Bool.false_and] <;> rfl
theorem A2 : AllFn Tryd.prog E0 F2 := .cons wk171 .nil
theorem wk177 : SpecOK Tryd.prog E0 177 w177 := by
  refine bspec_ok (E0 := E0) (E := E177) (fns := F2) tab A2 rfl rfl hm Tryd.func177 (by kernel_rfl) [.data (.int .i64)] (fun x y hc => ?_) (L := ls_ok (lcs := [lc Tryd.f177 0]) (rgs := []) (by kernel_rfl) (by kernel_rfl) loop177 trivial)
  obtain ⟨xs, z⟩ := x
  obtain ⟨⟨r, z'⟩, z''⟩ := y
  have hl : xs.length ≤ 1048576 := by simpa using hc
  have e := t177 xs r
  refine (congrArg Tr.val e).trans ?_
  rw [show (decide ((xs.length : Int) = (xs.length : Int) ∧ (0 : Int) = 0 ∧ xs.length ≤ 1048576)) = true from by simpa using hl]
  show Tr.val _ = some (⟨one (.dat (.int .i64) (U.idx xs r)), [.box [.dat (.int .i32) r]], []⟩ : FRes)
  unfold U.idx
  cases U.fi xs r <;> rfl
theorem A3 : AllFn Tryd.prog E0 F3 := .cons wk177 .nil
theorem wk170 : SpecOK Tryd.prog E0 170 w170 := by
  refine bspec_ok (E0 := E0) (E := E0.withFns F3) (fns := F3) tab A3 rfl rfl hm Tryd.func170 (by kernel_rfl) [.data .bool] (fun x y hc => ?_)
  obtain ⟨xs, z⟩ := x
  obtain ⟨⟨r, z'⟩, z''⟩ := y
  have hl : (decide (xs.length ≤ 1048576)) = true := by simpa using hc
  have e : evFn (E0.withFns F3) Tryd.f170 [.data .bool] (akAV [.d (.sl spk), .c (.fn 171 [0])] (xs, ())) (bkBs [.box [.d (.int .i32)]] ((r, ()), ())) =
    .ite (decide (xs.length ≤ (1048576 : Nat))) (.ret ⟨one (.dat .bool (decide ((0 : Int) ≤ U.idx xs r))), [.box [.dat (.int .i32) r]], []⟩) .fail := by kernel_rfl
  refine (congrArg Tr.val e).trans ?_
  rw [hl, U.idx_within]
  rfl
theorem A4 : AllFn Tryd.prog E0 F4 := .cons wk170 .nil
theorem wk157 : SpecOK Tryd.prog E0 157 w157 := by
  refine dspec_ok (E0 := E0) (E := E0.withFns F4) (fns := F4) tab A4 rfl rfl hm Tryd.func157 (by kernel_rfl) [.data .bool] (fun x hc => ?_)
  obtain ⟨xs, r, z⟩ := x
  have hl : (decide (xs.length ≤ 1048576)) = true := by simpa using hc
  have e : evFn (E0.withFns F4) Tryd.f157 [.data .bool] (toAVs [.sl spk, .int .i32] (xs, r, z)) [] = .ite (decide (xs.length ≤ (1048576 : Nat))) (.ret ⟨one (.dat .bool (U.within xs r)), [], []⟩) .fail := by kernel_rfl
  rw [e, hl]
  rfl
theorem wk156 : SpecOK Tryd.prog E0 156 w156 := by
  refine dspec_ok (E0 := E0) (E := E0.withFns []) (fns := []) tab .nil rfl rfl hm Tryd.func156 (by kernel_rfl) [.data .bool] (fun x hc => ?_)
  obtain ⟨n, z⟩ := x
  have e : evFn (E0.withFns []) Tryd.f156 [.data .bool] (toAVs [.int .i32] (n, z)) [] = _ := t156 n
  rw [e]
  show Tr.val _ = some (rb (U.valid n))
  unfold U.valid
  by_cases a : (0 : Int) ≤ n <;> by_cases b : n < 55296 <;> by_cases c : (57343 : Int) < n <;> by_cases d : n ≤ 1114111 <;>
    simp only [Tr.val, a, b, c, d, decide_true, decide_false, cond_true, cond_false, Bool.true_and, Bool.and_true, Bool.false_and, Bool.and_false, Bool.or_true, Bool.true_or, Bool.or_false, Bool.or_self] <;> rfl
theorem wk158 : SpecOK Tryd.prog E0 158 w158 := by
  refine dspec_ok (E0 := E0) (E := E0.withFns []) (fns := []) tab .nil rfl rfl hm Tryd.func158 (by kernel_rfl) [.data (.sl spk)] (fun x hc => ?_)
  rw [show toAVs [] x = toAVs [] () from rfl, t158]
  rfl
theorem wk159 : SpecOK Tryd.prog E0 159 w159 := by
  refine dspec_ok (E0 := E0) (E := E0.withFns []) (fns := []) tab .nil rfl rfl hm Tryd.func159 (by kernel_rfl) [.data (.sl spk)] (fun x hc => ?_)
  rw [show toAVs [] x = toAVs [] () from rfl, t159]
  rfl
theorem A5 : AllFn Tryd.prog E0 F5 := .cons wk156 (.cons wk157 (.cons wk158 (.cons wk159 .nil)))
theorem wk138 : SpecOK Tryd.prog E0 138 w138 := by
  refine dspec_ok (E0 := E0) (E := E0.withFns []) (fns := []) tab .nil rfl rfl hm Tryd.func138 (by kernel_rfl) [.data .bool] (fun x hc => ?_)
  obtain ⟨a, b, c, z⟩ := x
  have e : evFn (E0.withFns []) Tryd.f138 [.data .bool] (toAVs [.int .i64, .int .i64, .int .i64] (a, b, c, z)) [] = _ := t138 a b c
  rw [e]
  show Tr.val _ = some (rb (U.inn a b c))
  unfold U.inn
  by_cases h : b ≤ a <;> simp only [Tr.val, h, decide_true, decide_false, cond_true, cond_false, Bool.true_and, Bool.false_and] <;> rfl
end Go.Proofs.YtmnbcnhpklejcaaDoor
end
section
set_option linter.unusedVariables false
set_option linter.unusedSimpArgs false
set_option maxRecDepth 20000
namespace U
open Go Go.Ev
def width (r : Int) : Int := bif !valid r || (decide (r < 32) || (decide (127 ≤ r) && decide (r < 160))) then -1 else bif within zero r then 0 else bif within wide r then 2 else 1
def bad (s : ByteArray) : Int := bif decide (need (bt s 0) = 0) then 1 else bif !ok1 s then 1 else bif !cont (bt s 2) then 2 else 3
def isL (s : ByteArray) : Bool := !decide ((dec s).1 = 65533) || decide (1 < (dec s).2)
def first (s : ByteArray) : Int × Int × Int := bif !full s then (0, 0, 2) else bif isL s then ((dec s).1, (dec s).2, 0) else (0, bad s, 4)
def look (a : Int × Int × Int × Unit) : Bool := inn a.1 0 256 && (inn a.2.1 0 256 && inn a.2.2.1 0 255)
end U
namespace Go.Proofs.YtmnbcnhpklejcaaDoor
open Go.Ev Go.RowKit
@[reducible] def attk : Kd := .pr (.int .i64) (.pr (.int .i64) (.pr (.int .i64) .un))
@[reducible] def celk : Kd := .pr .str (.pr (.int .i64) (.pr attk .un))
@[reducible] def link : Kd := .pr (.sl celk) (.pr .bool .un)
def w140 : FSpec := dspec [.int .i32] fun x => ii (U.width x.1)
def w139 : FSpec := dspec [.str] fun x => { c := some (decide (ByteArray.size x.1 ≤ 1048576)), rs := .tup [.one (.dat (.int .i32) (U.first x.1).1), .one (.dat (.int .i64) (U.first x.1).2.1), .one (.dat (.int .i64) (U.first x.1).2.2)] }
def w94 : FSpec := dspec [attk] fun x => ib (U.look x.1)
def F6 : List (Nat × FSpec) := [(154, w154), (155, w155)]
def F7 : List (Nat × FSpec) := [(138, w138)]
def live139 (key : Nat) : Lv := bif Nat.beq key 6 then { ls := [0, 6] } else bif Nat.beq key 1006 then { ls := [6] } else { ls := [] }
abbrev E139 : Env := { (E0.withFns F6).loops live139 (fun _ _ => none) with fuel := 4 }
end Go.Proofs.YtmnbcnhpklejcaaDoor
end
section
set_option linter.unusedVariables false
set_option maxRecDepth 20000
namespace Go.Proofs.YtmnbcnhpklejcaaDoor
open Go.Ev Go.RowKit
theorem t140 (r : Int)
    : evFn (E0.withFns F5) Tryd.f140 [PM.data (Kd.int IntKind.i64)] (toAVs [Kd.int IntKind.i32] (r, ())) [] =
Tr.ite (!U.valid r) (Tr.ret { rs := Slot.av (AV.one (Leaf.dat (Kd.int IntKind.i64) (-1 : Int))), upd := [], new := [] })
  (Tr.ite (decide (r < (32 : Int))) (Tr.ret { rs := Slot.av (AV.one (Leaf.dat (Kd.int IntKind.i64) (-1 : Int))), upd := [], new := [] })
    (Tr.ite (decide ((127 : Int) ≤ r))
      (Tr.ite (decide (r < (160 : Int))) (Tr.ret { rs := Slot.av (AV.one (Leaf.dat (Kd.int IntKind.i64) (-1 : Int))), upd := [], new := [] })
        (Tr.ite true
          (Tr.ite (U.within U.zero r) (Tr.ret { rs := Slot.av (AV.one (Leaf.dat (Kd.int IntKind.i64) (0 : Int))), upd := [], new := [] })
            (Tr.ite true
              (Tr.ite (U.within U.wide r) (Tr.ret { rs := Slot.av (AV.one (Leaf.dat (Kd.int IntKind.i64) (2 : Int))), upd := [], new := [] })
                (Tr.ret { rs := Slot.av (AV.one (Leaf.dat (Kd.int IntKind.i64) (1 : Int))), upd := [], new := [] }))
              Tr.fail))
          Tr.fail))
      (Tr.ite true
        (Tr.ite (U.within U.zero r) (Tr.ret { rs := Slot.av (AV.one (Leaf.dat (Kd.int IntKind.i64) (0 : Int))), upd := [], new := [] })
          (Tr.ite true
            (Tr.ite (U.within U.wide r) (Tr.ret { rs := Slot.av (AV.one (Leaf.dat (Kd.int IntKind.i64) (2 : Int))), upd := [], new := [] })
              (Tr.ret { rs := Slot.av (AV.one (Leaf.dat (Kd.int IntKind.i64) (1 : Int))), upd := [], new := [] }))
            Tr.fail))
        Tr.fail))) := by
  kernel_rfl
theorem t139 (s : ByteArray) {v1 : Int} {v2 : Int} {v3 : Int} {v4 : Int}
    (h1 : ((U.dec s).snd + (1 : Int)) = v1)
    (h2 : (IntKind.i64.wrap v1 + (1 : Int)) = v2)
    (h3 : (IntKind.i64.wrap v2 + (1 : Int)) = v3)
    (h4 : (IntKind.i64.wrap v3 + (1 : Int)) = v4)
    : evFn E139 Tryd.f139 [PM.data (Kd.int IntKind.i32), PM.data (Kd.int IntKind.i64), PM.data (Kd.int IntKind.i64)] (toAVs [Kd.str] (s, ())) [] =
Tr.ite (!U.full s)
  (Tr.ret
    { rs := Slot.tup [AV.one (Leaf.dat (Kd.int IntKind.i32) (0 : Int)), AV.one (Leaf.dat (Kd.int IntKind.i64) (0 : Int)), AV.one (Leaf.dat (Kd.int IntKind.i64) (2 : Int))], upd := [], new := [] })
  (Tr.ite (!decide ((U.dec s).fst = (65533 : Int)))
    (Tr.ret
      { rs := Slot.tup [AV.one (Leaf.dat (Kd.int IntKind.i32) (U.dec s).fst), AV.one (Leaf.dat (Kd.int IntKind.i64) (U.dec s).snd), AV.one (Leaf.dat (Kd.int IntKind.i64) (0 : Int))], upd := [],
        new := [] })
    (Tr.ite (decide ((1 : Int) < (U.dec s).snd))
      (Tr.ret
        { rs := Slot.tup [AV.one (Leaf.dat (Kd.int IntKind.i32) (U.dec s).fst), AV.one (Leaf.dat (Kd.int IntKind.i64) (U.dec s).snd), AV.one (Leaf.dat (Kd.int IntKind.i64) (0 : Int))], upd := [],
          new := [] })
      (Tr.ite (decide ((U.dec s).snd < (↑s.size : Int)))
        (Tr.ite (decide ((0 : Int) ≤ IntKind.i64.wrap v1 ∧ IntKind.i64.wrap v1 ≤ (↑s.size : Int)))
          (Tr.ite (!U.full (s.extract (0 : Nat) (IntKind.i64.wrap v1).toNat))
            (Tr.ite (decide (IntKind.i64.wrap v1 < (↑s.size : Int)))
              (Tr.ite (decide ((0 : Int) ≤ IntKind.i64.wrap v2 ∧ IntKind.i64.wrap v2 ≤ (↑s.size : Int)))
                (Tr.ite (!U.full (s.extract (0 : Nat) (IntKind.i64.wrap v2).toNat))
                  (Tr.ite (decide (IntKind.i64.wrap v2 < (↑s.size : Int)))
                    (Tr.ite (decide ((0 : Int) ≤ IntKind.i64.wrap v3 ∧ IntKind.i64.wrap v3 ≤ (↑s.size : Int)))
                      (Tr.ite (!U.full (s.extract (0 : Nat) (IntKind.i64.wrap v3).toNat))
                        (Tr.ite (decide (IntKind.i64.wrap v3 < (↑s.size : Int)))
                          (Tr.ite (decide ((0 : Int) ≤ IntKind.i64.wrap v4 ∧ IntKind.i64.wrap v4 ≤ (↑s.size : Int)))
                            (Tr.ite (!U.full (s.extract (0 : Nat) (IntKind.i64.wrap v4).toNat)) Tr.fail
                              (Tr.ret
                                {
                                  rs :=
                                    Slot.tup
                                      [AV.one (Leaf.dat (Kd.int IntKind.i32) (0 : Int)), AV.one (Leaf.dat (Kd.int IntKind.i64) (IntKind.i64.wrap v3)),
                                        AV.one (Leaf.dat (Kd.int IntKind.i64) (4 : Int))],
                                  upd := [], new := [] }))
                            Tr.fail)
                          (Tr.ret
                            {
                              rs :=
                                Slot.tup
                                  [AV.one (Leaf.dat (Kd.int IntKind.i32) (0 : Int)), AV.one (Leaf.dat (Kd.int IntKind.i64) (IntKind.i64.wrap v3)), AV.one (Leaf.dat (Kd.int IntKind.i64) (4 : Int))],
                              upd := [], new := [] }))
                        (Tr.ret
                          {
                            rs :=
                              Slot.tup
                                [AV.one (Leaf.dat (Kd.int IntKind.i32) (0 : Int)), AV.one (Leaf.dat (Kd.int IntKind.i64) (IntKind.i64.wrap v2)), AV.one (Leaf.dat (Kd.int IntKind.i64) (4 : Int))],
                            upd := [], new := [] }))
                      Tr.fail)
                    (Tr.ret
                      {
                        rs :=
                          Slot.tup [AV.one (Leaf.dat (Kd.int IntKind.i32) (0 : Int)), AV.one (Leaf.dat (Kd.int IntKind.i64) (IntKind.i64.wrap v2)), AV.one (Leaf.dat (Kd.int IntKind.i64) (4 : Int))],
                        upd := [], new := [] }))
                  (Tr.ret
                    { rs := Slot.tup [AV.one (Leaf.dat (Kd.int IntKind.i32) (0 : Int)), AV.one (Leaf.dat (Kd.int IntKind.i64) (IntKind.i64.wrap v1)), AV.one (Leaf.dat (Kd.int IntKind.i64) (4 : Int))],
                      upd := [], new := [] }))
                Tr.fail)
              (Tr.ret
                { rs := Slot.tup [AV.one (Leaf.dat (Kd.int IntKind.i32) (0 : Int)), AV.one (Leaf.dat (Kd.int IntKind.i64) (IntKind.i64.wrap v1)), AV.one (Leaf.dat (Kd.int IntKind.i64) (4 : Int))],
                  upd := [], new := [] }))
            (Tr.ret
              { rs := Slot.tup [AV.one (Leaf.dat (Kd.int IntKind.i32) (0 : Int)), AV.one (Leaf.dat (Kd.int IntKind.i64) (U.dec s).snd), AV.one (Leaf.dat (Kd.int IntKind.i64) (4 : Int))], upd := [],
                new := [] }))
          Tr.fail)
        (Tr.ret
          { rs := Slot.tup [AV.one (Leaf.dat (Kd.int IntKind.i32) (0 : Int)), AV.one (Leaf.dat (Kd.int IntKind.i64) (U.dec s).snd), AV.one (Leaf.dat (Kd.int IntKind.i64) (4 : Int))], upd := [],
            new := [] })))) := by
  subst h1; subst h2; subst h3; subst h4; kernel_rfl
theorem t155 (s : ByteArray) {v1 : Int}
    (h1 : (bt s (0 : Int)) = v1)
    : evFn (E0.withFns F1) Tryd.f155 [PM.data (Kd.int IntKind.i32), PM.data (Kd.int IntKind.i64)] (toAVs [Kd.str] (s, ())) [] =
Tr.ite (!decide (s = { data := #[] }))
  (Tr.ite (inB (0 : Int) s.size)
    (Tr.ite (decide (v1 < (128 : Int)))
      (Tr.ite (inB (0 : Int) s.size) (Tr.ret { rs := Slot.tup [AV.one (Leaf.dat (Kd.int IntKind.i32) (IntKind.i32.wrap v1)), AV.one (Leaf.dat (Kd.int IntKind.i64) (1 : Int))], upd := [], new := [] })
        Tr.fail)
      (Tr.ret { rs := Slot.tup [AV.one (Leaf.dat (Kd.int IntKind.i32) (U.dec s).fst), AV.one (Leaf.dat (Kd.int IntKind.i64) (U.dec s).snd)], upd := [], new := [] }))
    Tr.fail)
  (Tr.ret { rs := Slot.tup [AV.one (Leaf.dat (Kd.int IntKind.i32) (U.dec s).fst), AV.one (Leaf.dat (Kd.int IntKind.i64) (U.dec s).snd)], upd := [], new := [] }) := by
  subst h1; kernel_rfl
theorem t94 (a : Int) (b : Int) (c : Int)
    : evFn (E0.withFns F7) Tryd.f94 [PM.data Kd.bool] (toAVs [attk] ((a, b, c, ()), ())) [] =
Tr.ite (U.inn a (0 : Int) (256 : Int))
  (Tr.ite (U.inn b (0 : Int) (256 : Int)) (Tr.ret { rs := Slot.av (AV.one (Leaf.dat Kd.bool (U.inn c (0 : Int) (255 : Int)))), upd := [], new := [] })
    (Tr.ret { rs := Slot.av (AV.one (Leaf.dat Kd.bool false)), upd := [], new := [] }))
  (Tr.ret { rs := Slot.av (AV.one (Leaf.dat Kd.bool false)), upd := [], new := [] }) := by
  kernel_rfl
end Go.Proofs.YtmnbcnhpklejcaaDoor
end
section
set_option linter.unusedVariables false
set_option linter.unusedSimpArgs false
set_option maxRecDepth 20000
namespace U
open Go Go.Ev Go.Proofs.YtmnbcnhpklejcaaDoor
theorem bt_pre {s : ByteArray} {k i : Nat} (h : i < k) (hk : k ≤ s.size) : bt (s.extract 0 k) (i : Int) = bt s (i : Int) := by
  rw [bt_eq (by omega), bt_eq (by omega), bl_ext, List.drop_zero]
  simp only [List.getD_eq_getElem?_getD, Int.toNat_natCast]
  rw [List.getElem?_take_of_lt h]
theorem size_pre {s : ByteArray} {k : Nat} (hk : k ≤ s.size) : (s.extract 0 k).size = k := by
  rw [← bl_len, bl_ext, List.drop_zero, List.length_take, bl_len]
  omega
theorem full_pre {s : ByteArray} {k : Nat} (h1 : 1 ≤ k) (hk : k ≤ s.size) : full (s.extract 0 k) =
    (bif decide (need (bt s 0) ≤ (k : Int)) then true else bif decide (1 < k) && !ok1 s then true else decide (2 < k) && !cont (bt s 2)) := by
  unfold full
  have e0 : bt (s.extract 0 k) 0 = bt s 0 := bt_pre (i := 0) (by omega) hk
  have e2 : 2 < k → bt (s.extract 0 k) 2 = bt s 2 := fun h => bt_pre (i := 2) h hk
  have e1 : 1 < k → ok1 (s.extract 0 k) = ok1 s := fun h => by
    unfold ok1
    have e1 : bt (s.extract 0 k) 1 = bt s 1 := bt_pre (i := 1) h hk
    rw [e0, e1]
  rw [size_pre hk, e0, decide_eq_false (show ¬ k = 0 by omega), cond_false]
  by_cases h : 1 < k
  · rw [e1 h]
    by_cases h2 : 2 < k
    · rw [e2 h2]
    · simp only [h2, decide_false, Bool.false_and]
  · have h2 : ¬ 2 < k := by omega
    simp only [h, h2, decide_false, Bool.false_and]
theorem bad_cases {s : ByteArray} (hf : full s = true) (hl : isL s = false) : (dec s).1 = 65533 ∧ (dec s).2 = 1 ∧ 1 ≤ s.size ∧
    (need (bt s 0) = 0 ∨ (2 ≤ need (bt s 0) ∧ 1 < s.size ∧ ok1 s = false) ∨ (3 ≤ need (bt s 0) ∧ 2 < s.size ∧ ok1 s = true ∧ cont (bt s 2) = false) ∨
      (need (bt s 0) = 4 ∧ 3 < s.size ∧ ok1 s = true ∧ cont (bt s 2) = true)) := by
  unfold isL at hl
  unfold full at hf
  have hs : ¬ s.size = 0 := fun h => by rw [decide_eq_true h] at hf; cases hf
  rw [decide_eq_false hs, cond_false] at hf
  have hN := need_cases (bt s 0)
  unfold dec at hl ⊢
  simp only [decide_eq_false hs, cond_false] at hl ⊢
  by_cases c0 : need (bt s 0) = 0
  · simp only [decide_eq_true c0, cond_true]
    exact ⟨by trivial, by trivial, by omega, .inl c0⟩
  simp only [decide_eq_false c0, cond_false] at hl ⊢
  by_cases c1 : need (bt s 0) = 1
  · simp only [decide_eq_true c1, cond_true] at hl
    have h2 : bt s 0 = 65533 := by simpa using hl
    omega
  simp only [decide_eq_false c1, cond_false] at hl ⊢
  by_cases c2 : (s.size : Int) < need (bt s 0)
  · simp only [decide_eq_true c2, cond_true]
    rw [decide_eq_false (show ¬ need (bt s 0) ≤ (s.size : Int) by omega), cond_false] at hf
    refine ⟨by trivial, by trivial, by omega, ?_⟩
    cases ho : ok1 s with
    | false =>
      by_cases h1 : 1 < s.size
      · exact .inr (.inl ⟨by omega, h1, by trivial⟩)
      · have h2 : ¬ 2 < s.size := by omega
        simp [h1, h2] at hf
    | true =>
      rw [ho] at hf
      simp only [Bool.not_true, Bool.and_false, cond_false, Bool.and_eq_true, decide_eq_true_eq, Bool.not_eq_true'] at hf
      exact .inr (.inr (.inl ⟨by omega, hf.1, by trivial, hf.2⟩))
  simp only [decide_eq_false c2, cond_false] at hl ⊢
  cases ho : ok1 s with
  | false =>
    simp only [ho, Bool.not_false, cond_true]
    exact ⟨by trivial, by trivial, by omega, .inr (.inl ⟨by omega, by omega, by trivial⟩)⟩
  | true =>
    rw [ho] at hl
    simp only [Bool.not_true, cond_false] at hl ⊢
    by_cases c3 : need (bt s 0) = 2
    · simp only [decide_eq_true c3, cond_true] at hl
      simp at hl
    simp only [decide_eq_false c3, cond_false] at hl ⊢
    cases hc : cont (bt s 2) with
    | false =>
      simp only [hc, Bool.not_false, cond_true]
      exact ⟨by trivial, by trivial, by omega, .inr (.inr (.inl ⟨by omega, by omega, by trivial, by trivial⟩))⟩
    | true =>
      rw [hc] at hl
      simp only [Bool.not_true, cond_false] at hl ⊢
      by_cases c4 : need (bt s 0) = 3
      · simp only [decide_eq_true c4, cond_true] at hl
        simp at hl
      simp only [decide_eq_false c4, cond_false] at hl ⊢
      cases hd : cont (bt s 3) with
      | false =>
        simp only [hd, Bool.not_false, cond_true]
        exact ⟨by trivial, by trivial, by omega, .inr (.inr (.inr ⟨by omega, by omega, by trivial, by trivial⟩))⟩
      | true =>
        rw [hd] at hl
        simp at hl
end U
namespace Go.Proofs.YtmnbcnhpklejcaaDoor
open Go.Ev Go.RowKit
theorem v155 (s : ByteArray) : (evFn (E0.withFns F1) Tryd.f155 [.data (.int .i32), .data (.int .i64)] (toAVs [.str] (s, ())) []).val = some (rd (U.dec s)) := by
  rw [t155 s rfl]
  by_cases c0 : s = { data := #[] }
  · simp only [Tr.val, c0, decide_true, Bool.not_true, cond_false]
  · have hp : 0 < s.size := by
      rcases Nat.eq_zero_or_pos s.size with e | e
      · refine absurd (bl_inj ?_) c0
        rw [show bl ({ data := #[] } : ByteArray) = [] from rfl]
        exact List.length_eq_zero_iff.1 (by rw [bl_len]; exact e)
      · exact e
    have i0 : inB 0 s.size = true := inB_true ⟨by omega, by omega⟩
    have hs : ¬ s.size = 0 := by omega
    have b0 := bt_ge s 0
    have b1 := bt_lt s 0
    by_cases c1 : bt s 0 < 128
    · have hn : U.need (bt s 0) = 1 := by unfold U.need; rw [if_pos c1]
      have e : U.dec s = (bt s 0, 1) := by
        unfold U.dec
        rw [decide_eq_false hs, hn]
        rfl
      simp only [Tr.val, c0, c1, i0, e, decide_true, decide_false, Bool.not_false, cond_true, wrap32_id (show -2147483648 ≤ bt s 0 by omega) (by omega)]
    · simp only [Tr.val, c0, c1, i0, decide_true, decide_false, Bool.not_false, cond_true, cond_false]
theorem wk155 : SpecOK Tryd.prog E0 155 w155 := by
  refine dspec_ok (E0 := E0) (E := E0.withFns F1) (fns := F1) tab (.cons wk169 .nil) rfl rfl hm Tryd.func155 (by kernel_rfl) [.data (.int .i32), .data (.int .i64)] (fun x hx => ?_)
  obtain ⟨s, z⟩ := x
  exact v155 s
theorem A6 : AllFn Tryd.prog E0 F6 := .cons wk154 (.cons wk155 .nil)
theorem v140 (r : Int) : (evFn (E0.withFns F5) Tryd.f140 [.data (.int .i64)] (toAVs [.int .i32] (r, ())) []).val = some (ri (U.width r)) := by
  rw [t140 r]
  unfold U.width
  cases h1 : U.valid r <;> by_cases h2 : r < 32 <;> by_cases h3 : 127 ≤ r <;> by_cases h4 : r < 160 <;> cases h5 : U.within U.zero r <;> cases h6 : U.within U.wide r <;>
    simp only [Tr.val, h1, h2, h3, h4, h5, h6, decide_true, decide_false, cond_true, cond_false, Bool.not_true, Bool.not_false, Bool.true_and, Bool.and_true, Bool.false_and, Bool.and_false, Bool.or_true, Bool.true_or, Bool.or_false, Bool.false_or, Bool.or_self, Bool.and_self] <;> rfl
theorem wk140 : SpecOK Tryd.prog E0 140 w140 := by
  refine dspec_ok (E0 := E0) (E := E0.withFns F5) (fns := F5) tab A5 rfl rfl hm Tryd.func140 (by kernel_rfl) [.data (.int .i64)] (fun x hx => ?_)
  obtain ⟨s, z⟩ := x
  exact v140 s
theorem wk94 : SpecOK Tryd.prog E0 94 w94 := by
  refine dspec_ok (E0 := E0) (E := E0.withFns F7) (fns := F7) tab (.cons wk138 .nil) rfl rfl hm Tryd.func94 (by kernel_rfl) [.data .bool] (fun x hx => ?_)
  obtain ⟨⟨a, b, c, z⟩, z'⟩ := x
  have e : evFn (E0.withFns F7) Tryd.f94 [.data .bool] (toAVs [attk] ((a, b, c, z), z')) [] = _ := t94 a b c
  rw [e]
  show Tr.val _ = some (rb (U.inn a 0 256 && (U.inn b 0 256 && U.inn c 0 255)))
  cases h1 : U.inn a 0 256 <;> cases h2 : U.inn b 0 256 <;> simp only [Tr.val, h1, h2, cond_true, cond_false, Bool.true_and, Bool.false_and] <;> rfl
abbrev r3 (x : Int × Int × Int) : FRes := ⟨.tup [.one (.dat (.int .i32) x.1), .one (.dat (.int .i64) x.2.1), .one (.dat (.int .i64) x.2.2)], [], []⟩
theorem v139 (s : ByteArray) : (evFn E139 Tryd.f139 [.data (.int .i32), .data (.int .i64), .data (.int .i64)] (toAVs [.str] (s, ())) []).val = some (r3 (U.first s)) := by
  rw [t139 s rfl rfl rfl rfl]
  unfold U.first
  cases hf : U.full s with
  | false => simp only [Tr.val, hf, Bool.not_false, cond_true]
  | true =>
    simp only [Tr.val, hf, Bool.not_true, cond_false]
    cases hl : U.isL s with
    | true =>
      unfold U.isL at hl
      by_cases c1 : (U.dec s).1 = 65533
      · rw [decide_eq_true c1] at hl
        have c2 : (1 : Int) < (U.dec s).2 := by simpa using hl
        simp only [c1, c2, decide_true, Bool.not_true, cond_true, cond_false]
      · simp only [c1, decide_false, Bool.not_false, cond_true]
    | false =>
      obtain ⟨h1, h2, h3, h4⟩ := U.bad_cases hf hl
      rw [h1, h2]
      have w2 : IntKind.i64.wrap (1 + 1) = 2 := by decide
      have w3 : IntKind.i64.wrap (2 + 1) = 3 := by decide
      have w4 : IntKind.i64.wrap (3 + 1) = 4 := by decide
      simp only [w2, w3, w4, decide_true, Bool.not_true, cond_false, show ¬ (1 : Int) < 1 by omega, decide_false]
      unfold U.bad
      by_cases c1 : (1 : Int) < (s.size : Int)
      · have p2 := U.full_pre (s := s) (k := 2) (by omega) (by omega)
        rw [show ((2 : Int).toNat) = 2 from rfl, show ((3 : Int).toNat) = 3 from rfl, show ((4 : Int).toNat) = 4 from rfl, p2]
        have i2 : decide ((0 : Int) ≤ 2 ∧ (2 : Int) ≤ (s.size : Int)) = true := decide_eq_true ⟨by omega, by omega⟩
        rcases h4 with h4 | ⟨a, b, c⟩ | ⟨a, b, c, d⟩ | ⟨a, b, c, d⟩
        · simp only [c1, i2, h4, decide_true, cond_true, Bool.not_true, cond_false, show (0 : Int) ≤ ((2 : Nat) : Int) by omega]
        · have e0 : ¬ U.need (bt s 0) = 0 := by omega
          by_cases e2 : U.need (bt s 0) ≤ ((2 : Nat) : Int)
          · simp only [c1, i2, e0, e2, c, decide_true, decide_false, cond_true, Bool.not_true, Bool.not_false, cond_false]
          · simp only [c1, i2, e0, e2, c, decide_true, decide_false, cond_true, Bool.not_true, Bool.not_false, cond_false, show 1 < 2 by omega, Bool.and_self]
        · have e0 : ¬ U.need (bt s 0) = 0 := by omega
          have e2 : ¬ U.need (bt s 0) ≤ ((2 : Nat) : Int) := by omega
          have p3 := U.full_pre (s := s) (k := 3) (by omega) (by omega)
          rw [p3]
          have i3 : decide ((0 : Int) ≤ 3 ∧ (3 : Int) ≤ (s.size : Int)) = true := decide_eq_true ⟨by omega, by omega⟩
          have c2 : (2 : Int) < (s.size : Int) := by omega
          by_cases e3 : U.need (bt s 0) ≤ ((3 : Nat) : Int)
          · simp only [c1, c2, i2, i3, e0, e2, e3, c, d, decide_true, decide_false, cond_true, Bool.not_true, Bool.not_false, cond_false, show 1 < 2 by omega, show ¬ 2 < 2 by omega, Bool.and_self, Bool.and_false, Bool.false_and]
          · simp only [c1, c2, i2, i3, e0, e2, e3, c, d, decide_true, decide_false, cond_true, Bool.not_true, Bool.not_false, cond_false, show 1 < 2 by omega, show ¬ 2 < 2 by omega, show 1 < 3 by omega, show 2 < 3 by omega, Bool.and_self, Bool.and_false, Bool.false_and]
        · have e0 : ¬ U.need (bt s 0) = 0 := by omega
          have e2 : ¬ U.need (bt s 0) ≤ ((2 : Nat) : Int) := by omega
          have e3 : ¬ U.need (bt s 0) ≤ ((3 : Nat) : Int) := by omega
          have e4 : U.need (bt s 0) ≤ ((4 : Nat) : Int) := by omega
          have p3 := U.full_pre (s := s) (k := 3) (by omega) (by omega)
          have p4 := U.full_pre (s := s) (k := 4) (by omega) (by omega)
          rw [p3, p4]
          have i3 : decide ((0 : Int) ≤ 3 ∧ (3 : Int) ≤ (s.size : Int)) = true := decide_eq_true ⟨by omega, by omega⟩
          have i4 : decide ((0 : Int) ≤ 4 ∧ (4 : Int) ≤ (s.size : Int)) = true := decide_eq_true ⟨by omega, by omega⟩
          have c2 : (2 : Int) < (s.size : Int) := by omega
          have c3 : (3 : Int) < (s.size : Int) := by omega
          simp only [c1, c2, c3, i2, i3, i4, e0, e2, e3, e4, c, d, decide_true, decide_false, cond_true, Bool.not_true, Bool.not_false, cond_false, show 1 < 2 by omega, show ¬ 2 < 2 by omega, show 1 < 3 by omega, show 2 < 3 by omega, Bool.and_self, Bool.and_false, Bool.false_and]
      · rcases h4 with h4 | ⟨a, b, c⟩ | ⟨a, b, c, d⟩ | ⟨a, b, c, d⟩
        · simp only [c1, h4, decide_true, decide_false, cond_true, cond_false]
        · omega
        · omega
        · omega
end Go.Proofs.YtmnbcnhpklejcaaDoor
end
section
set_option linter.unusedVariables false
set_option linter.unusedSimpArgs false
set_option maxRecDepth 20000
open Go Go.Ev
namespace Go.Proofs.YtmnbcnhpklejcaaDoor
open Go.RowKit
abbrev Attr := Int × Int × Int × Unit
abbrev Cell := ByteArray × Int × Attr × Unit
abbrev Line := List Cell × Bool × Unit
theorem wk139 : SpecOK Tryd.prog E0 139 w139 := by
  refine dspec_ok (E0 := E0) (E := E139) (fns := F6) tab A6 rfl rfl hm Tryd.func139 (by kernel_rfl) [.data (.int .i32), .data (.int .i64), .data (.int .i64)] (fun x hx => ?_)
  obtain ⟨s, z⟩ := x
  exact v139 s
abbrev G0 : List (Nat × FSpec) := [(139, w139), (140, w140), (138, w138), (94, w94)]
theorem AG0 : AllFn Tryd.prog E0 G0 := .cons wk139 (.cons wk140 (.cons wk138 (.cons wk94 .nil)))
def live141 (key : Nat) : Lv :=
  bif Nat.beq key 2 then { ls := [0, 3] } else bif Nat.beq key 1002 then { ls := [2, 3] } else
  { ls := [] }
abbrev M141 (ls : Nat → VS → Option (Tr (Ex × VS))) : Env := (E0.withFns G0).loops live141 ls
@[reducible] def p141_0 : LP := { n := 28, sl := [.d (Kd.str), .d (.int .i64)], bl := [] }
def B141_0 (x0 : ByteArray) (x1 : Int) : Tr (p141_0.T ⊕ (Int × Int ⊕ Int)) :=
 let v1 : Int := (U.first x0).fst
 let v2 : Int := (U.first x0).snd.snd
 let v3 : Int := (U.first x0).snd.fst
 Tr.ite (!decide (x0 = { data := #[] })) (Tr.ite (decide (x0.size ≤ (1048576 : Nat))) (Tr.ite (!decide (v2 = (0 : Int))) (Tr.ret (Sum.inr (Sum.inl ((-1 : Int), x1)))) (Tr.ite (!decide (U.width v1 = (0 : Int))) (Tr.ret (Sum.inr (Sum.inl ((-1 : Int), x1)))) (Tr.ite (decide ((0 : Int) ≤ v3 ∧ v3 ≤ (↑x0.size : Int))) (Tr.ret (Sum.inl ((x0.extract v3.toNat x0.size, IntKind.i64.wrap (x1 + (1 : Int)), ()), ()))) Tr.fail))) Tr.fail) (Tr.ret (Sum.inr (Sum.inr x1)))
def X141_0 : (Int × Int ⊕ Int) → Ex × VS
  | (.inl r) => Prod.mk Ex.ret { n := 28, v := [Slot.av (AV.one (Leaf.dat (.int .i64) r.fst)), Slot.av (AV.one (Leaf.dat (.int .i64) r.snd))], h := [] }
  | (.inr r) => Prod.mk (Ex.exit ( 0)) { n := 28, v := [Slot.av (AV.one Leaf.undef), Slot.av (AV.one (Leaf.dat (.int .i64) r))], h := [] }
def b141_0 : p141_0.T → Tr (p141_0.T ⊕ (Int × Int ⊕ Int)) := fun ⟨⟨x0, ⟨x1, _⟩⟩, _⟩ => B141_0 x0 x1
theorem h141_0 (ls : Nat → VS → Option (Tr (Ex × VS))) (x : p141_0.T) : (evC (evI 2) (lc Tryd.f141 0) (Env.lend (M141 ls) 0) (unV (live141 2) (p141_0.V x))).map (decL 0 (live141 2) (live141 1002)) = (b141_0 x).map (encR p141_0.V X141_0) := by
  obtain ⟨⟨x0, ⟨x1, _⟩⟩, _⟩ := x; kernel_rfl
theorem c141_0 (x : p141_0.T) : canV 0 (live141 2) (unV (live141 2) (p141_0.V x)) = p141_0.V x := by
  obtain ⟨⟨x0, ⟨x1, _⟩⟩, _⟩ := x; kernel_rfl
theorem l141_0 {T : p141_0.T → Tr (Int × Int ⊕ Int)} {ls : Nat → VS → Option (Tr (Ex × VS))} (hls : ∀ x, (Env.lend (M141 ls) 0).ls 2 x = p141_0.ls (fun a => (T a).map X141_0) x) (hS : ∀ x r, (T x).val = some r → Rounds b141_0 x r) : LoopOK (evI 2) (Env.lend (M141 ls) 0) (lc Tryd.f141 0) :=
  loopA 2 (live141 2) (live141 1002) p141_0 b141_0 X141_0 T (by kernel_rfl) rfl rfl hls (h141_0 ls) c141_0 hS
end Go.Proofs.YtmnbcnhpklejcaaDoor
namespace U
open Go Go.Ev
def marksL : Nat → ByteArray → Int → Int × Int ⊕ Int
  | 0, _, n => .inr n
  | k + 1, s, n => if s.size = 0 then .inr n else if (first s).2.2 = 0 ∧ width (first s).1 = 0 then marksL k (s.extract (first s).2.1.toNat s.size) (n + 1) else .inl (-1, n)
def marks (s : ByteArray) : Int := match marksL s.size s 0 with
  | .inr n => n
  | .inl r => r.1
def cellR (c : ByteArray × Int × (Int × Int × Int × Unit) × Unit) : Bool :=
  if c.1.size = 0 then look c.2.2.1 && inn c.2.1 0 1 else
  if (first c.1).2.2 = 0 ∧ inn c.2.1 1 2 = true ∧ width (first c.1).1 = c.2.1 then look c.2.2.1 && inn (marks (c.1.extract (first c.1).2.1.toNat c.1.size)) 0 2 else false
theorem first_ok {s : ByteArray} (h : (first s).2.2 = 0) : 1 ≤ (first s).2.1 ∧ (first s).2.1 ≤ (s.size : Int) := by
  unfold first at h ⊢
  cases hf : full s with
  | false => rw [hf] at h; simp at h
  | true =>
    rw [hf] at h
    cases hl : isL s with
    | false => rw [hl] at h; simp at h
    | true =>
      simp only [Bool.not_true, cond_false, cond_true]
      unfold full at hf
      unfold isL at hl
      have hN := need_cases (bt s 0)
      unfold dec at hl ⊢
      by_cases c0 : s.size = 0
      · simp [c0] at hf
      by_cases c1 : need (bt s 0) = 0
      · simp [c0, c1] at hl
      by_cases c2 : need (bt s 0) = 1
      · simp only [c0, c2, decide_true, decide_false, cond_true, cond_false, show ¬ (1 : Int) = 0 by omega]
        omega
      by_cases c3 : (s.size : Int) < need (bt s 0)
      · simp [c0, c1, c2, c3] at hl
      cases ho : ok1 s with
      | false => simp [c0, c1, c2, c3, ho] at hl
      | true =>
        by_cases c4 : need (bt s 0) = 2
        · have h9 : ¬ ((s.size : Int) < 2) := by omega
          simp [c0, c4, ho, h9]
          omega
        cases h1 : cont (bt s 2) with
        | false => simp [c0, c1, c2, c3, c4, ho, h1] at hl
        | true =>
          by_cases c5 : need (bt s 0) = 3
          · have h9 : ¬ ((s.size : Int) < 3) := by omega
            simp [c0, c5, ho, h1, h9]
            omega
          cases h2 : cont (bt s 3) with
          | false => simp [c0, c1, c2, c3, c4, c5, ho, h1, h2] at hl
          | true =>
            simp only [c0, c1, c2, c3, c4, c5, ho, h1, h2, decide_true, decide_false, cond_true, cond_false, Bool.not_true]
            omega
end U
namespace Go.Proofs.YtmnbcnhpklejcaaDoor
open Go Go.Ev Go.RowKit
def T141 (x : p141_0.T) : Tr (Int × Int ⊕ Int) := .ite (decide (ByteArray.size x.1.1 ≤ 1048576 ∧ x.1.2.1 = 0)) (.spl (U.marksL (ByteArray.size x.1.1) x.1.1 0) (0, 0) 0) .fail
abbrev E141 : Env := M141 fun key x => bif Nat.beq key 2 then p141_0.ls (fun a => (T141 a).map X141_0) x else none
theorem r141 : ∀ (k : Nat) (s : ByteArray) (n : Nat), s.size ≤ k → n + k ≤ 1048576 → Rounds b141_0 ((s, (n : Int), ()), ()) (U.marksL k s n)
  | 0, s, n, h1, h2 => by
    refine .exit ?_
    have := ba_nil (s := s) (by omega)
    subst this
    rfl
  | k + 1, s, n, h1, h2 => by
    by_cases h0 : s.size = 0
    · refine .exit ?_
      have := ba_nil (s := s) (by omega)
      subst this
      rfl
    · have hne := ba_ne h0
      have hsz : s.size ≤ 1048576 := by omega
      simp only [U.marksL, h0, if_false]
      by_cases h3 : (U.first s).2.2 = 0
      · by_cases h4 : U.width (U.first s).1 = 0
        · obtain ⟨a, b⟩ := U.first_ok h3
          rw [if_pos ⟨h3, h4⟩]
          refine .step (y := ((s.extract (U.first s).2.1.toNat s.size, ((n + 1 : Nat) : Int), ()), ())) ?_ ?_
          · have hb : (0 : Int) ≤ (U.first s).2.1 ∧ (U.first s).2.1 ≤ (s.size : Int) := ⟨by omega, b⟩
            simp only [b141_0, B141_0, Tr.val, h3, h4, hne, hsz, hb, decide_true, decide_false, Bool.not_false, Bool.not_true, cond_true, cond_false, wrap64_nat (show n ≤ 1048576 by omega), and_self]
          · refine r141 k _ (n + 1) ?_ (by omega)
            rw [← bl_len, bl_ext, List.length_drop, List.length_take, bl_len]
            omega
        · rw [if_neg (fun h => h4 h.2)]
          refine .exit ?_
          simp only [b141_0, B141_0, Tr.val, h3, h4, hne, hsz, decide_true, decide_false, Bool.not_false, Bool.not_true, cond_true, cond_false]
      · rw [if_neg (fun h => h3 h.1)]
        refine .exit ?_
        simp only [b141_0, B141_0, Tr.val, h3, hne, hsz, decide_true, decide_false, Bool.not_false, Bool.not_true, cond_true, cond_false]
theorem L141 : LoopOK (evI 2) (E141.lend 0) (lc Tryd.f141 0) := by
  refine l141_0 (T := T141) (fun x => rfl) ?_
  rintro ⟨⟨s, n, z⟩, z'⟩ r h
  obtain ⟨h1, h2⟩ := pre_val h
  rw [Tr.val_spl] at h2
  cases h2
  have h1 := of_decide_eq_true h1
  have h3 : n = (0 : Int) := h1.2
  subst h3
  exact r141 _ s 0 (Nat.le_refl _) (by have := h1.1; dsimp at this; omega)
def d141 (a : ByteArray) : Tr (Int) :=
 Tr.ite (decide (a.size ≤ (1048576 : Nat) ∧ (0 : Int) = (0 : Int))) (Tr.ite (U.marksL a.size a (0 : Int)).isLeft (Tr.ret ((U.marksL a.size a (0 : Int)).getLeft?.getD ((0 : Int), (0 : Int))).fst) (Tr.ret ((U.marksL a.size a (0 : Int)).getRight?.getD (0 : Int)))) Tr.fail
def e141 (r : Int) : FRes := { rs := Slot.av (AV.one (Leaf.dat (.int .i64) r)), upd := [], new := [] }
@[reducible] def a141 : List AK := [AK.d Kd.str]
@[reducible] def b141 : List BK := []
theorem t141 (a : ByteArray) : evFn (E141) Tryd.f141 [PM.data (.int .i64)] (akAV a141 (a, ())) (bkBs b141 ()) = (d141 a).map e141 := by kernel_rfl
def s141 (C : akT a141 → Bool) (G : akT a141 → Int) : FSpec := aspec a141 b141 e141 (fun x _ => C x) (fun x _ => G x)
theorem k141 {C : akT a141 → Bool} {G : akT a141 → Int} (hd : ∀ (a : ByteArray), C (a, ()) = true → (d141 a).val = some (G (a, ()))) (IO : ItOK Tryd.prog (E141) := by exact itOK_none rfl) (L : ∀ c, Tryd.f141.body = some c → LsOK (evI 2) ((E141).lend 0) c := by exact fun c _ => LsOK_none rfl c) : SpecOK Tryd.prog E0 141 (s141 C G) :=
  aspec_ok (E := E141) tab AG0 rfl rfl hm Tryd.func141 (by kernel_rfl) [PM.data (.int .i64)] (fun X Y H => by obtain ⟨a, _⟩ := X; exact val_of (t141 a) (hd a H)) IO L
theorem wk141 : SpecOK Tryd.prog E0 141 (s141 (fun x => decide (ByteArray.size x.1 ≤ 1048576)) fun x => U.marks x.1) := by
  refine k141 (fun a h => ?_) (L := ls_ok (lcs := [lc Tryd.f141 0]) (rgs := []) (by kernel_rfl) (by kernel_rfl) L141 trivial)
  have h' : a.size ≤ 1048576 := of_decide_eq_true h
  simp only [d141, Tr.val, h', decide_true, cond_true, and_self]
  show _ = some (U.marks a)
  unfold U.marks
  cases hm : U.marksL a.size a 0 <;> rfl
abbrev G1 : List (Nat × FSpec) := (141, s141 (fun x => decide (ByteArray.size x.1 ≤ 1048576)) fun x => U.marks x.1) :: G0
theorem AG1 : AllFn Tryd.prog E0 G1 := .cons wk141 AG0
abbrev E89 : Env := E0.withFns G1
def d89 (a1 : ByteArray) (a2 : Int) (a31 : Int) (a32 : Int) (a33 : Int) : Tr (Bool) :=
 let v1 : Int := (U.first a1).fst
 let v2 : Int := (U.first a1).snd.snd
 let v3 : Int := (U.first a1).snd.fst
 let v4 : ByteArray := a1.extract v3.toNat a1.size
 Tr.ite (decide (a1 = { data := #[] })) (Tr.ite (U.look (a31, a32, a33, ())) (Tr.ret (U.inn a2 (0 : Int) (1 : Int))) (Tr.ret false)) (Tr.ite (decide (a1.size ≤ (1048576 : Nat))) (Tr.ite (!decide (v2 = (0 : Int))) (Tr.ret false) (Tr.ite (!U.inn a2 (1 : Int) (2 : Int)) (Tr.ret false) (Tr.ite (!decide (U.width v1 = a2)) (Tr.ret false) (Tr.ite (U.look (a31, a32, a33, ())) (Tr.ite (decide ((0 : Int) ≤ v3 ∧ v3 ≤ (↑a1.size : Int))) (Tr.ite (decide (v4.size ≤ (1048576 : Nat))) (Tr.ret (U.inn (U.marks v4) (0 : Int) (2 : Int))) Tr.fail) Tr.fail) (Tr.ret false))))) Tr.fail)
def e89 (r : Bool) : FRes := { rs := Slot.av (AV.one (Leaf.dat Kd.bool r)), upd := [], new := [] }
@[reducible] def a89 : List AK := [AK.d celk]
@[reducible] def b89 : List BK := []
theorem t89 (a1 : ByteArray) (a2 : Int) (a31 : Int) (a32 : Int) (a33 : Int) : evFn (E89) Tryd.f89 [PM.data Kd.bool] (akAV a89 ((a1, a2, (a31, a32, a33, ()), ()), ())) (bkBs b89 ()) = (d89 a1 a2 a31 a32 a33).map e89 := by kernel_rfl
def s89 (C : akT a89 → Bool) (G : akT a89 → Bool) : FSpec := aspec a89 b89 e89 (fun x _ => C x) (fun x _ => G x)
theorem k89 {C : akT a89 → Bool} {G : akT a89 → Bool} (hd : ∀ (a1 : ByteArray) (a2 : Int) (a31 : Int) (a32 : Int) (a33 : Int), C ((a1, a2, (a31, a32, a33, ()), ()), ()) = true → (d89 a1 a2 a31 a32 a33).val = some (G ((a1, a2, (a31, a32, a33, ()), ()), ()))) (IO : ItOK Tryd.prog (E89) := by exact itOK_none rfl) (L : ∀ c, Tryd.f89.body = some c → LsOK (evI 2) ((E89).lend 0) c := by exact fun c _ => LsOK_none rfl c) : SpecOK Tryd.prog E0 89 (s89 C G) :=
  aspec_ok (E := E89) tab AG1 rfl rfl hm Tryd.func89 (by kernel_rfl) [PM.data Kd.bool] (fun X Y H => by obtain ⟨⟨a1, ⟨a2, ⟨⟨a31, ⟨a32, ⟨a33, _⟩⟩⟩, _⟩⟩⟩, _⟩ := X; exact val_of (t89 a1 a2 a31 a32 a33) (hd a1 a2 a31 a32 a33 H)) IO L
theorem wk89 : SpecOK Tryd.prog E0 89 (s89 (fun x => decide (ByteArray.size x.1.1 ≤ 1048576)) fun x => U.cellR x.1) := by
  refine k89 fun s w f g h H => ?_
  have H' : s.size ≤ 1048576 := of_decide_eq_true H
  show _ = some (U.cellR (s, w, (f, g, h, ()), ()))
  unfold U.cellR d89
  by_cases h0 : s.size = 0
  · have := ba_nil h0
    subst this
    cases h1 : U.look (f, g, h, ()) <;> simp only [Tr.val, h1, h0, decide_true, cond_true, cond_false, if_true, Bool.true_and, Bool.false_and]
  · have h1 := ba_ne h0
    by_cases h2 : (U.first s).2.2 = 0
    · obtain ⟨a, b⟩ := U.first_ok h2
      have hb : (0 : Int) ≤ (U.first s).2.1 ∧ (U.first s).2.1 ≤ (s.size : Int) := ⟨by omega, b⟩
      have hs : (s.extract (U.first s).2.1.toNat s.size).size ≤ 1048576 := by
        rw [← bl_len, bl_ext, List.length_drop, List.length_take, bl_len]
        omega
      cases h3 : U.inn w 1 2 <;> by_cases h4 : U.width (U.first s).1 = w <;> cases h5 : U.look (f, g, h, ()) <;>
        simp only [Tr.val, h0, h1, h2, h3, h4, h5, hb, hs, H', decide_true, decide_false, cond_true, cond_false, Bool.not_true, Bool.not_false, if_true, if_false, and_self, and_true, true_and, and_false, false_and, Bool.true_and, Bool.false_and, reduceCtorEq]
    · simp only [Tr.val, h0, h1, h2, H', decide_true, decide_false, cond_true, cond_false, Bool.not_false, if_false, false_and]
def d87 (a : List Cell) (b : Int) : Tr (Bool) :=
 let v1 : Int := (↑a.length : Int)
 let v2 : Int := b + (1 : Int)
 let v3 : Int := b - (1 : Int)
 Tr.ite (inB b a.length) (Tr.ite (decide ((rget celk a b).snd.fst = (2 : Int))) (Tr.ite (decide (IntKind.i64.wrap v2 < v1)) (Tr.ite (inB (IntKind.i64.wrap v2) a.length) (Tr.ret (decide ((rget celk a (IntKind.i64.wrap v2)).snd.fst = (0 : Int)))) Tr.fail) (Tr.ret false)) (Tr.ite (decide ((rget celk a b).snd.fst = (0 : Int))) (Tr.ite (decide ((0 : Int) < b)) (Tr.ite (inB (IntKind.i64.wrap v3) a.length) (Tr.ret (decide ((rget celk a (IntKind.i64.wrap v3)).snd.fst = (2 : Int)))) Tr.fail) (Tr.ret false)) (Tr.ret true))) Tr.fail
def e87 (r : Bool) : FRes := { rs := Slot.av (AV.one (Leaf.dat Kd.bool r)), upd := [], new := [] }
@[reducible] def a87 : List AK := [AK.d celk.sl, AK.d (.int .i64)]
@[reducible] def b87 : List BK := []
theorem t87 (a : List Cell) (b : Int) : evFn (E0) Tryd.f87 [PM.data Kd.bool] (akAV a87 (a, b, ())) (bkBs b87 ()) = (d87 a b).map e87 := by kernel_rfl
def s87 (C : akT a87 → Bool) (G : akT a87 → Bool) : FSpec := aspec a87 b87 e87 (fun x _ => C x) (fun x _ => G x)
theorem k87 {C : akT a87 → Bool} {G : akT a87 → Bool} (hd : ∀ (a : List Cell) (b : Int), C (a, b, ()) = true → (d87 a b).val = some (G (a, b, ()))) (IO : ItOK Tryd.prog (E0) := by exact itOK_none rfl) (L : ∀ c, Tryd.f87.body = some c → LsOK (evI 2) ((E0).lend 0) c := by exact fun c _ => LsOK_none rfl c) : SpecOK Tryd.prog E0 87 (s87 C G) :=
  aspec_ok (E := E0) tab .nil rfl rfl hm Tryd.func87 (by kernel_rfl) [PM.data Kd.bool] (fun X Y H => by obtain ⟨a, ⟨b, _⟩⟩ := X; exact val_of (t87 a b) (hd a b H)) IO L
end Go.Proofs.YtmnbcnhpklejcaaDoor
namespace U
open Go Go.Ev
abbrev Cl := ByteArray × Int × (Int × Int × Int × Unit) × Unit
def dC : Cl := (ByteArray.empty, 0, (0, 0, 0, ()), ())
def cw (l : List Cl) (i : Nat) : Int := (l.getD i dC).2.1
def whole (l : List Cl) (i : Nat) : Bool :=
  if cw l i = 2 then decide (i + 1 < l.length) && decide (cw l (i + 1) = 0) else
  if cw l i = 0 then decide (0 < i) && decide (cw l (i - 1) = 2) else true
end U
namespace Go.Proofs.YtmnbcnhpklejcaaDoor
open Go Go.Ev Go.RowKit
theorem cw_eq (l : List Cell) (i : Nat) : (rget celk l (i : Int)).2.1 = U.cw l i := by rw [rget_nat]; rfl
theorem wk87 : SpecOK Tryd.prog E0 87 (s87 (fun x => decide (0 ≤ (x.2.1 : Int) ∧ (x.2.1 : Int) < (List.length (α := Cell) x.1 : Int) ∧ List.length (α := Cell) x.1 ≤ 1048576)) fun x => U.whole x.1 x.2.1.toNat) := by
  refine k87 fun l i H => ?_
  obtain ⟨h0, h1, h2⟩ := of_decide_eq_true H
  dsimp only at h0 h1 h2
  obtain ⟨n, rfl⟩ := Int.eq_ofNat_of_zero_le h0
  show _ = some (U.whole l n)
  have hn : n < l.length := Int.ofNat_lt.1 h1
  have w1 : IntKind.i64.wrap ((n : Int) + 1) = ((n + 1 : Nat) : Int) := wrap64_nat (by omega)
  unfold U.whole d87
  simp only [Tr.val, inB_nat hn, cond_true, w1, cw_eq]
  by_cases a : U.cw l n = 2
  · by_cases b : n + 1 < l.length
    · have i1 : inB ((n : Int) + 1) l.length = true := by simpa using inB_nat b
      have i2 := cw_eq l (n + 1)
      rw [Int.natCast_add] at i2
      simp [a, b, i1, show ((n : Int) + 1 < (l.length : Int)) by omega]
    · simp [a, b, show ¬ ((n : Int) + 1 < (l.length : Int)) by omega]
  · by_cases b : U.cw l n = 0
    · by_cases c : 0 < n
      · have w2 : IntKind.i64.wrap ((n : Int) - 1) = ((n - 1 : Nat) : Int) := by
          rw [wrap64_id (by omega) (by omega)]
          omega
        simp [a, b, c, w2, inB_nat (show n - 1 < l.length by omega), cw_eq]
      · have : n = 0 := by omega
        subst this
        simp [a, b]
    · simp [a, b]
end Go.Proofs.YtmnbcnhpklejcaaDoor
namespace Go.Proofs.YtmnbcnhpklejcaaDoor
open Go Go.Ev Go.RowKit
abbrev w89 : FSpec := s89 (fun x => decide (ByteArray.size x.1.1 ≤ 1048576)) fun x => U.cellR x.1
abbrev w87 : FSpec := s87 (fun x => decide (0 ≤ (x.2.1 : Int) ∧ (x.2.1 : Int) < (List.length (α := Cell) x.1 : Int) ∧ List.length (α := Cell) x.1 ≤ 1048576)) fun x => U.whole x.1 x.2.1.toNat
abbrev G2 : List (Nat × FSpec) := [(89, w89), (87, w87)]
theorem AG2 : AllFn Tryd.prog E0 G2 := .cons wk89 (.cons wk87 .nil)
def live31 (key : Nat) : Lv :=
  bif Nat.beq key 2 then { ls := [1, 2, 8, 9, 10] } else bif Nat.beq key 1002 then { ls := [1, 2, 4] } else
  { ls := [] }
abbrev M31 (ls : Nat → VS → Option (Tr (Ex × VS))) : Env := (E0.withFns G2).loops live31 ls
@[reducible] def p31_0 : LP := { n := 31, sl := [.d (.int .i64), .c (Leaf.ptr ( 0) ( 0)), .d (celk.sl), .d (.int .i64), .d (.int .i64)], bl := [(0, .box [.d (celk.sl), .d (Kd.bool)])] }
def B31_0 (x0 : Int) (x2 : List Cell) (x3 : Int) (x4 : Int) (h0_0 : List Cell) (h0_1 : Bool) : Tr (p31_0.T ⊕ (Int × List Cell × Bool ⊕ Int × List Cell × Bool)) :=
 let v1 : Int := (↑h0_0.length : Int)
 Tr.ite (decide (x4 < x3)) (Tr.ite (inB x4 x2.length) (Tr.ite (decide (ByteArray.size (rget celk x2 x4).fst ≤ (1048576 : Nat))) (Tr.ite (!U.cellR (rget celk x2 x4)) (Tr.ret (Sum.inr (Sum.inl (x0, h0_0, h0_1)))) (Tr.ite (decide ((0 : Int) ≤ x4 ∧ x4 < v1 ∧ h0_0.length ≤ (1048576 : Nat))) (Tr.ite (!U.whole h0_0 x4.toNat) (Tr.ret (Sum.inr (Sum.inl (x0, h0_0, h0_1)))) (Tr.ret (Sum.inl ((x0, x2, x3, IntKind.i64.wrap (x4 + (1 : Int)), ()), (h0_0, h0_1, ()), ())))) Tr.fail)) Tr.fail) Tr.fail) (Tr.ret (Sum.inr (Sum.inr (x0, h0_0, h0_1))))
def X31_0 : (Int × List Cell × Bool ⊕ Int × List Cell × Bool) → Ex × VS
  | (.inl r) => Prod.mk Ex.ret { n := 31, v := [Slot.av (AV.one (Leaf.dat (.int .i64) r.fst)), Slot.av (AV.one (Leaf.ptr ( 0) ( 0))), Slot.av (AV.one (Leaf.kb false))], h := [( 0, Blk.box [Leaf.dat celk.sl r.snd.fst, Leaf.dat Kd.bool r.snd.snd])] }
  | (.inr r) => Prod.mk (Ex.exit ( 0)) { n := 31, v := [Slot.av (AV.one (Leaf.dat (.int .i64) r.fst)), Slot.av (AV.one (Leaf.ptr ( 0) ( 0))), Slot.av (AV.one Leaf.undef)], h := [( 0, Blk.box [Leaf.dat celk.sl r.snd.fst, Leaf.dat Kd.bool r.snd.snd])] }
def b31_0 : p31_0.T → Tr (p31_0.T ⊕ (Int × List Cell × Bool ⊕ Int × List Cell × Bool)) := fun ⟨⟨x0, ⟨x2, ⟨x3, ⟨x4, _⟩⟩⟩⟩, ⟨⟨h0_0, ⟨h0_1, _⟩⟩, _⟩⟩ => B31_0 x0 x2 x3 x4 h0_0 h0_1
theorem h31_0 (ls : Nat → VS → Option (Tr (Ex × VS))) (x : p31_0.T) : (evC (evI 2) (lc Tryd.f31 0) (Env.lend (M31 ls) 0) (unV (live31 2) (p31_0.V x))).map (decL 0 (live31 2) (live31 1002)) = (b31_0 x).map (encR p31_0.V X31_0) := by
  obtain ⟨⟨x0, ⟨x2, ⟨x3, ⟨x4, _⟩⟩⟩⟩, ⟨⟨h0_0, ⟨h0_1, _⟩⟩, _⟩⟩ := x; kernel_rfl
theorem c31_0 (x : p31_0.T) : canV 0 (live31 2) (unV (live31 2) (p31_0.V x)) = p31_0.V x := by
  obtain ⟨⟨x0, ⟨x2, ⟨x3, ⟨x4, _⟩⟩⟩⟩, ⟨⟨h0_0, ⟨h0_1, _⟩⟩, _⟩⟩ := x; kernel_rfl
theorem l31_0 {T : p31_0.T → Tr (Int × List Cell × Bool ⊕ Int × List Cell × Bool)} {ls : Nat → VS → Option (Tr (Ex × VS))} (hls : ∀ x, (Env.lend (M31 ls) 0).ls 2 x = p31_0.ls (fun a => (T a).map X31_0) x) (hS : ∀ x r, (T x).val = some r → Rounds b31_0 x r) : LoopOK (evI 2) (Env.lend (M31 ls) 0) (lc Tryd.f31 0) :=
  loopA 2 (live31 2) (live31 1002) p31_0 b31_0 X31_0 T (by kernel_rfl) rfl rfl hls (h31_0 ls) c31_0 hS
def live135 (key : Nat) : Lv :=
  bif Nat.beq key 3 then { ls := [0, 3, 4] } else bif Nat.beq key 1003 then { ls := [2, 3] } else
  { ls := [] }
abbrev M135 (ls : Nat → VS → Option (Tr (Ex × VS))) : Env := (E0.withFns []).loops live135 ls
@[reducible] def p135_0 : LP := { n := 41, sl := [.d (Kd.str), .d (Kd.int IntKind.i32), .d (.int .i64)], bl := [] }
def B135_0 (x0 : ByteArray) (x1 : Int) (x2 : Int) : Tr (p135_0.T ⊕ (Int × Int ⊕ Int)) :=
 let v1 : Int := x2 + (1 : Int)
 let v2 : Int := IntKind.i32.wrap (bt x0 x2) - [(0 : Int), (0 : Int), (192 : Int), (224 : Int), (240 : Int)].getD (↑x0.size : Int).toNat (0 : Int)
 Tr.ite (decide (x2 < (↑x0.size : Int))) (Tr.ite (inB x2 x0.size) (Tr.ite (decide (x2 = (0 : Int))) (Tr.ite (inB (↑x0.size : Int) (5 : Nat)) (Tr.ite (decide ((↑x0.size : Int) = (1 : Int))) (Tr.ret (Sum.inr (Sum.inl (IntKind.i32.wrap (bt x0 x2), IntKind.i32.wrap v2)))) (Tr.ret (Sum.inl ((x0, IntKind.i32.wrap v2, IntKind.i64.wrap v1, ()), ())))) Tr.fail) (Tr.ite (decide (IntKind.i32.wrap (bt x0 x2) < (128 : Int))) (Tr.ret (Sum.inr (Sum.inl ((-1 : Int), x1)))) (Tr.ite (decide ((191 : Int) < IntKind.i32.wrap (bt x0 x2))) (Tr.ret (Sum.inr (Sum.inl ((-1 : Int), x1)))) (Tr.ret (Sum.inl ((x0, IntKind.i32.wrap (IntKind.i32.wrap (IntKind.i32.wrap ((64 : Int) * x1) + IntKind.i32.wrap (bt x0 x2)) - (128 : Int)), IntKind.i64.wrap v1, ()), ())))))) Tr.fail) (Tr.ret (Sum.inr (Sum.inr x1)))
def X135_0 : (Int × Int ⊕ Int) → Ex × VS
  | (.inl r) => Prod.mk Ex.ret { n := 41, v := [Slot.av (AV.one (Leaf.dat (Kd.int IntKind.i32) r.fst)), Slot.av (AV.one (Leaf.dat (Kd.int IntKind.i32) r.snd))], h := [] }
  | (.inr r) => Prod.mk (Ex.exit ( 0)) { n := 41, v := [Slot.av (AV.one Leaf.undef), Slot.av (AV.one (Leaf.dat (Kd.int IntKind.i32) r))], h := [] }
def b135_0 : p135_0.T → Tr (p135_0.T ⊕ (Int × Int ⊕ Int)) := fun ⟨⟨x0, ⟨x1, ⟨x2, _⟩⟩⟩, _⟩ => B135_0 x0 x1 x2
theorem h135_0 (ls : Nat → VS → Option (Tr (Ex × VS))) (x : p135_0.T) : (evC (evI 2) (lc Tryd.f135 0) (Env.lend (M135 ls) 0) (unV (live135 3) (p135_0.V x))).map (decL 0 (live135 3) (live135 1003)) = (b135_0 x).map (encR p135_0.V X135_0) := by
  obtain ⟨⟨x0, ⟨x1, ⟨x2, _⟩⟩⟩, _⟩ := x; kernel_rfl
theorem c135_0 (x : p135_0.T) : canV 0 (live135 3) (unV (live135 3) (p135_0.V x)) = p135_0.V x := by
  obtain ⟨⟨x0, ⟨x1, ⟨x2, _⟩⟩⟩, _⟩ := x; kernel_rfl
theorem l135_0 {T : p135_0.T → Tr (Int × Int ⊕ Int)} {ls : Nat → VS → Option (Tr (Ex × VS))} (hls : ∀ x, (Env.lend (M135 ls) 0).ls 3 x = p135_0.ls (fun a => (T a).map X135_0) x) (hS : ∀ x r, (T x).val = some r → Rounds b135_0 x r) : LoopOK (evI 2) (Env.lend (M135 ls) 0) (lc Tryd.f135 0) :=
  loopA 3 (live135 3) (live135 1003) p135_0 b135_0 X135_0 T (by kernel_rfl) rfl rfl hls (h135_0 ls) c135_0 hS
end Go.Proofs.YtmnbcnhpklejcaaDoor
namespace U
open Go Go.Ev
def okc (l : List Cl) : Bool := decide (l.length ≤ 1048576) && l.all fun c => decide (c.1.size ≤ 1048576)
def fitC (l : List Cl) : Bool := allN (fun i => cellR (l.getD i dC) && whole l i) l.length 0
theorem okc_len {l : List Cl} (h : okc l = true) : l.length ≤ 1048576 := by
  simp only [okc, Bool.and_eq_true, decide_eq_true_eq] at h; exact h.1
theorem okc_at {l : List Cl} (h : okc l = true) {i : Nat} (hi : i < l.length) : (l.getD i dC).1.size ≤ 1048576 := by
  simp only [okc, Bool.and_eq_true, decide_eq_true_eq, List.all_eq_true] at h
  rw [getD_el hi]
  exact h.2 _ (List.getElem_mem hi)
end U
namespace Go.Proofs.YtmnbcnhpklejcaaDoor
open Go Go.Ev Go.RowKit
def T31 (x : p31_0.T) : Tr (Int × List Cell × Bool ⊕ Int × List Cell × Bool) :=
  .ite (decide ((x.1.2.2.1 : Int) = (List.length (α := Cell) x.1.2.1 : Int) ∧ (x.1.2.2.2.1 : Int) = 0 ∧ List.length (α := Cell) x.1.2.1 ≤ List.length (α := Cell) x.2.1.1 ∧ List.length (α := Cell) x.2.1.1 ≤ 1048576) && U.okc x.1.2.1)
    (.ite (allN (fun i => U.cellR (List.getD (α := Cell) x.1.2.1 i U.dC) && U.whole x.2.1.1 i) (List.length (α := Cell) x.1.2.1) 0) (.ret (.inr (x.1.1, x.2.1.1, x.2.1.2.1))) (.ret (.inl (x.1.1, x.2.1.1, x.2.1.2.1)))) .fail
abbrev E31 : Env := M31 fun key x => bif Nat.beq key 2 then p31_0.ls (fun a => (T31 a).map X31_0) x else none
theorem rgetC (l : List Cell) (i : Nat) : rget celk l (i : Int) = l.getD i U.dC := by rw [rget_nat]; rfl
theorem L31 : LoopOK (evI 2) (E31.lend 0) (lc Tryd.f31 0) := by
  refine l31_0 (T := T31) (fun x => rfl) ?_
  rintro ⟨⟨c, l, n, i, z⟩, ⟨m, s, z1⟩, z2⟩ r h
  obtain ⟨h1, h2⟩ := pre_val h
  rw [Bool.and_eq_true] at h1
  obtain ⟨h1, hok⟩ := h1
  obtain ⟨e1, e2, e3, e4⟩ := of_decide_eq_true h1
  dsimp only at e1 e2 e3 e4 hok h2
  subst e1
  subst e2
  have := Rounds.all (B := b31_0) (N := l.length) (fun i => ((c, l, (l.length : Int), (i : Int), ()), (m, s, ()), ())) (fun i => U.cellR (l.getD i U.dC) && U.whole m i) (.inl (c, m, s)) (.inr (c, m, s)) (fun i hi => ?_) ?_
  · cases ha : allN (fun i => U.cellR (l.getD i U.dC) && U.whole m i) l.length 0 <;> simp only [ha, Tr.val, cond_true, cond_false] at h2 this <;> cases h2 <;> exact this
  · have h3 := U.okc_at hok hi
    simp only [b31_0, B31_0, Tr.val, inB_nat hi, rgetC, h3, Int.toNat_natCast, show ((i : Int) < (l.length : Int)) by omega, show ((0 : Int) ≤ (i : Int) ∧ (i : Int) < (m.length : Int) ∧ m.length ≤ 1048576) by omega, decide_true, cond_true, wrap64_nat (show i ≤ 1048576 by omega)]
    cases U.cellR (l.getD i U.dC) <;> cases U.whole m i <;> rfl
  · simp only [b31_0, B31_0, Tr.val, show ¬ ((l.length : Int) < (l.length : Int)) by omega, decide_false, cond_false]
def d31 (a1 : List Cell) (a2 : Bool) (b : Int) : Tr (Bool) :=
 let v1 : Int := (↑a1.length : Int)
 let v2 : Int := (↑a1.length : Int)
 Tr.ite (decide (v2 = v1 ∧ (0 : Int) = (0 : Int) ∧ a1.length ≤ a1.length ∧ a1.length ≤ (1048576 : Nat)) && U.okc a1) (Tr.ite (allN (fun (i : Nat) => U.cellR (a1.getD i U.dC) && U.whole a1 i) a1.length (0 : Nat)) (Tr.ret (decide (v2 = b))) (Tr.ret false)) Tr.fail
def e31 (r : Bool) : FRes := { rs := Slot.av (AV.one (Leaf.dat Kd.bool r)), upd := [], new := [] }
@[reducible] def a31 : List AK := [AK.d link, AK.d (.int .i64)]
@[reducible] def b31 : List BK := []
theorem t31 (a1 : List Cell) (a2 : Bool) (b : Int) : evFn (E31) Tryd.f31 [PM.data Kd.bool] (akAV a31 ((a1, a2, ()), b, ())) (bkBs b31 ()) = (d31 a1 a2 b).map e31 := by kernel_rfl
def s31 (C : akT a31 → Bool) (G : akT a31 → Bool) : FSpec := aspec a31 b31 e31 (fun x _ => C x) (fun x _ => G x)
theorem k31 {C : akT a31 → Bool} {G : akT a31 → Bool} (hd : ∀ (a1 : List Cell) (a2 : Bool) (b : Int), C ((a1, a2, ()), b, ()) = true → (d31 a1 a2 b).val = some (G ((a1, a2, ()), b, ()))) (IO : ItOK Tryd.prog (E31) := by exact itOK_none rfl) (L : ∀ c, Tryd.f31.body = some c → LsOK (evI 2) ((E31).lend 0) c := by exact fun c _ => LsOK_none rfl c) : SpecOK Tryd.prog E0 31 (s31 C G) :=
  aspec_ok (E := E31) tab AG2 rfl rfl hm Tryd.func31 (by kernel_rfl) [PM.data Kd.bool] (fun X Y H => by obtain ⟨⟨a1, ⟨a2, _⟩⟩, ⟨b, _⟩⟩ := X; exact val_of (t31 a1 a2 b) (hd a1 a2 b H)) IO L
abbrev w31 : FSpec := s31 (fun x => U.okc x.1.1) fun x => U.fitC x.1.1 && decide ((List.length (α := Cell) x.1.1 : Int) = (x.2.1 : Int))
theorem wk31 : SpecOK Tryd.prog E0 31 w31 := by
  refine k31 (fun l s n H => ?_) (L := ls_ok (lcs := [lc Tryd.f31 0]) (rgs := []) (by kernel_rfl) (by kernel_rfl) L31 trivial)
  have H : U.okc l = true := H
  have hl := U.okc_len H
  show _ = some (U.fitC l && decide ((l.length : Int) = n))
  unfold U.fitC
  simp only [d31, Tr.val, H, hl, Nat.le_refl, and_self, decide_true, Bool.and_self, cond_true]
  cases allN (fun i => U.cellR (l.getD i U.dC) && U.whole l i) l.length 0 <;> simp
def d80 (a1 : List Cell) (a2 : Bool) : Tr (Bool) :=
 let v1 : Int := (↑a1.length : Int)
 let v2 : Int := (↑a1.length : Int)
 Tr.ite (decide (v2 < (1 : Int))) (Tr.ret true) (Tr.ite (decide ((80 : Int) < v2)) (Tr.ret true) (Tr.ite (U.okc a1) (Tr.ret !(U.fitC a1 && decide (v1 = v2))) Tr.fail))
def e80 (r : Bool) : FRes := { rs := Slot.av (AV.one (Leaf.dat Kd.bool r)), upd := [], new := [] }
@[reducible] def a80 : List AK := [AK.d link]
@[reducible] def b80 : List BK := []
theorem t80 (a1 : List Cell) (a2 : Bool) : evFn (E0.withFns [((31 : Nat), w31)]) Tryd.f80 [PM.data Kd.bool] (akAV a80 ((a1, a2, ()), ())) (bkBs b80 ()) = (d80 a1 a2).map e80 := by kernel_rfl
def s80 (C : akT a80 → Bool) (G : akT a80 → Bool) : FSpec := aspec a80 b80 e80 (fun x _ => C x) (fun x _ => G x)
theorem k80 {C : akT a80 → Bool} {G : akT a80 → Bool} (hd : ∀ (a1 : List Cell) (a2 : Bool), C ((a1, a2, ()), ()) = true → (d80 a1 a2).val = some (G ((a1, a2, ()), ()))) (IO : ItOK Tryd.prog (E0.withFns [((31 : Nat), w31)]) := by exact itOK_none rfl) (L : ∀ c, Tryd.f80.body = some c → LsOK (evI 2) ((E0.withFns [((31 : Nat), w31)]).lend 0) c := by exact fun c _ => LsOK_none rfl c) : SpecOK Tryd.prog E0 80 (s80 C G) :=
  aspec_ok (E := E0.withFns [((31 : Nat), w31)]) tab (.cons wk31 .nil) rfl rfl hm Tryd.func80 (by kernel_rfl) [PM.data Kd.bool] (fun X Y H => by obtain ⟨⟨a1, ⟨a2, _⟩⟩, _⟩ := X; exact val_of (t80 a1 a2) (hd a1 a2 H)) IO L
end Go.Proofs.YtmnbcnhpklejcaaDoor
end
section
set_option linter.unusedVariables false
set_option linter.unusedSimpArgs false
set_option maxRecDepth 20000
open Go Go.Ev
namespace U
abbrev Ln := List Cl × Bool × Unit
def dL : Ln := ([], false, ())
def odd (l : List Cl) : Bool := !(decide (1 ≤ l.length) && decide (l.length ≤ 80) && fitC l)
def okl (l : List Ln) : Bool := decide (l.length ≤ 1048576) && l.all fun x => okc x.1
theorem okl_len {l : List Ln} (h : okl l = true) : l.length ≤ 1048576 := by
  simp only [okl, Bool.and_eq_true, decide_eq_true_eq] at h; exact h.1
theorem okl_at {l : List Ln} (h : okl l = true) {i : Nat} (hi : i < l.length) : okc (l.getD i dL).1 = true := by
  simp only [okl, Bool.and_eq_true, decide_eq_true_eq, List.all_eq_true] at h
  rw [getD_el hi]
  exact h.2 _ (List.getElem_mem hi)
end U
namespace Go.Proofs.YtmnbcnhpklejcaaDoor
open Go.RowKit
@[reducible] def bakk : Kd := .pr (.int .i64) (.pr (.sl link) .un)
theorem rgetL (l : List Line) (i : Nat) : rget link l (i : Int) = l.getD i U.dL := by rw [rget_nat]; rfl
abbrev w80 : FSpec := s80 (fun x => U.okc x.1.1) fun x => U.odd x.1.1
theorem wk80 : SpecOK Tryd.prog E0 80 w80 := by
  refine k80 fun l s H => ?_
  have H : U.okc l = true := H
  show _ = some (U.odd l)
  unfold U.odd
  by_cases h1 : (l.length : Int) < 1
  · simp only [d80, Tr.val, h1, H, decide_true, decide_false, cond_true, cond_false, show ¬ 1 ≤ l.length by omega, Bool.false_and, Bool.not_false]
  · by_cases h2 : (80 : Int) < (l.length : Int)
    · simp only [d80, Tr.val, h1, h2, H, decide_true, decide_false, cond_true, cond_false, show ¬ l.length ≤ 80 by omega, Bool.false_and, Bool.and_false, Bool.not_false]
    · simp only [d80, Tr.val, h1, h2, H, decide_true, decide_false, cond_true, cond_false, show l.length ≤ 80 by omega, show 1 ≤ l.length by omega, Bool.true_and, Bool.and_true]
def optI' : Option Nat → Int
  | some j => (j : Int)
  | none => -1
def live131 (key : Nat) : Lv :=
  bif Nat.beq key 2 then { ls := [0, 1, 7, 8] } else bif Nat.beq key 1002 then { ls := [4] } else
  { ls := [] }
abbrev M131 (ls : Nat → VS → Option (Tr (Ex × VS))) : Env := (E0.withFns [(80, w80)]).loops live131 ls
@[reducible] def p131_0 : LP := { n := 19, sl := [.d (link.sl), .c (Leaf.fn ( 80) []), .d (.int .i64), .d (.int .i64)], bl := [] }
def B131_0 (x0 : List Line) (x2 : Int) (x3 : Int) : Tr (p131_0.T ⊕ (Int ⊕ Unit)) :=
 Tr.ite (decide (x3 < x2)) (Tr.ite (inB x3 x0.length) (Tr.ite (U.okc (rget link x0 x3).fst) (Tr.ite (U.odd (rget link x0 x3).fst) (Tr.ret (Sum.inr (Sum.inl x3))) (Tr.ret (Sum.inl ((x0, x2, IntKind.i64.wrap (x3 + (1 : Int)), ()), ())))) Tr.fail) Tr.fail) (Tr.ret (Sum.inr (Sum.inr ())))
def X131_0 : (Int ⊕ Unit) → Ex × VS
  | (.inl r) => Prod.mk Ex.ret { n := 19, v := [Slot.av (AV.one (Leaf.dat (.int .i64) r))], h := [] }
  | (.inr r) => Prod.mk (Ex.exit ( 0)) { n := 19, v := [Slot.av (AV.one Leaf.undef)], h := [] }
def b131_0 : p131_0.T → Tr (p131_0.T ⊕ (Int ⊕ Unit)) := fun ⟨⟨x0, ⟨x2, ⟨x3, _⟩⟩⟩, _⟩ => B131_0 x0 x2 x3
theorem h131_0 (ls : Nat → VS → Option (Tr (Ex × VS))) (x : p131_0.T) : (evC (evI 2) (lc Tryd.f131 0) (Env.lend (M131 ls) 0) (unV (live131 2) (p131_0.V x))).map (decL 0 (live131 2) (live131 1002)) = (b131_0 x).map (encR p131_0.V X131_0) := by
  obtain ⟨⟨x0, ⟨x2, ⟨x3, _⟩⟩⟩, _⟩ := x; kernel_rfl
theorem c131_0 (x : p131_0.T) : canV 0 (live131 2) (unV (live131 2) (p131_0.V x)) = p131_0.V x := by
  obtain ⟨⟨x0, ⟨x2, ⟨x3, _⟩⟩⟩, _⟩ := x; kernel_rfl
theorem l131_0 {T : p131_0.T → Tr (Int ⊕ Unit)} {ls : Nat → VS → Option (Tr (Ex × VS))} (hls : ∀ x, (Env.lend (M131 ls) 0).ls 2 x = p131_0.ls (fun a => (T a).map X131_0) x) (hS : ∀ x r, (T x).val = some r → Rounds b131_0 x r) : LoopOK (evI 2) (Env.lend (M131 ls) 0) (lc Tryd.f131 0) :=
  loopA 2 (live131 2) (live131 1002) p131_0 b131_0 X131_0 T (by kernel_rfl) rfl rfl hls (h131_0 ls) c131_0 hS
def T131 (x : p131_0.T) : Tr (Int ⊕ Unit) :=
  .ite (decide ((x.1.2.1 : Int) = (List.length (α := Line) x.1.1 : Int) ∧ (x.1.2.2.1 : Int) = 0) && U.okl x.1.1)
    (.ite (findN (fun i => U.odd (List.getD (α := Line) x.1.1 i U.dL).1) (List.length (α := Line) x.1.1) 0).isSome (.ret (.inl (((findN (fun i => U.odd (List.getD (α := Line) x.1.1 i U.dL).1) (List.length (α := Line) x.1.1) 0).getD 0 : Nat) : Int))) (.ret (.inr ()))) .fail
abbrev E131 : Env := M131 fun key x => bif Nat.beq key 2 then p131_0.ls (fun a => (T131 a).map X131_0) x else none
theorem L131 : LoopOK (evI 2) (E131.lend 0) (lc Tryd.f131 0) := by
  refine l131_0 (T := T131) (fun x => rfl) ?_
  rintro ⟨⟨l, n, i, z⟩, z2⟩ r h
  obtain ⟨h1, h2⟩ := pre_val h
  rw [Bool.and_eq_true] at h1
  obtain ⟨h1, hok⟩ := h1
  obtain ⟨e1, e2⟩ := of_decide_eq_true h1
  dsimp only at e1 e2 hok h2
  subst e1
  subst e2
  have hl := U.okl_len hok
  have := Rounds.find (B := b131_0) (N := l.length) (fun i => ((l, (l.length : Int), (i : Int), ()), ())) (fun i => U.odd (l.getD i U.dL).1) (fun i => .inl (i : Int)) (.inr ()) (fun i hi => ?_) ?_
  · cases hf : findN (fun i => U.odd (l.getD i U.dL).1) l.length 0 <;> simp only [hf, Tr.val, Option.isSome_none, Option.isSome_some, Option.getD_some, cond_true, cond_false, outN] at h2 this <;> cases h2 <;> exact this
  · have h3 := U.okl_at hok hi
    simp only [b131_0, B131_0, Tr.val, inB_nat hi, rgetL, h3, show ((i : Int) < (l.length : Int)) by omega, decide_true, cond_true, wrap64_nat (show i ≤ 1048576 by omega)]
    cases U.odd (l.getD i U.dL).1 <;> rfl
  · simp only [b131_0, B131_0, Tr.val, show ¬ ((l.length : Int) < (l.length : Int)) by omega, decide_false, cond_false]
def d131 (a : List Line) : Tr (Int) :=
 let v1 : Int := ((↑a.length : Int))
 let v2 : Int := ((↑a.length : Int))
 Tr.ite (decide (v2 = v1 ∧ (0 : Int) = (0 : Int)) && U.okl a) (Tr.ite (findN (fun (i : Nat) => U.odd (a.getD i U.dL).fst) a.length (0 : Nat)).isSome (Tr.ret (↑((findN (fun (i : Nat) => U.odd (a.getD i U.dL).fst) a.length (0 : Nat)).getD (0 : Nat)) : Int)) (Tr.ret (-1 : Int))) Tr.fail
def e131 (r : Int) : FRes := { rs := Slot.av (AV.one (Leaf.dat (.int .i64) r)), upd := [], new := [] }
@[reducible] def a131 : List AK := [AK.d link.sl, AK.c (Leaf.fn (80 : FuncId) [])]
@[reducible] def b131 : List BK := []
theorem t131 (a : List Line) : evFn (E131) Tryd.f131 [PM.data (.int .i64)] (akAV a131 (a, ())) (bkBs b131 ()) = (d131 a).map e131 := by kernel_rfl
def s131 (C : akT a131 → Bool) (G : akT a131 → Int) : FSpec := aspec a131 b131 e131 (fun x _ => C x) (fun x _ => G x)
theorem k131 {C : akT a131 → Bool} {G : akT a131 → Int} (hd : ∀ (a : List Line), C (a, ()) = true → (d131 a).val = some (G (a, ()))) (IO : ItOK Tryd.prog (E131) := by exact itOK_none rfl) (L : ∀ c, Tryd.f131.body = some c → LsOK (evI 2) ((E131).lend 0) c := by exact fun c _ => LsOK_none rfl c) : SpecOK Tryd.prog E0 131 (s131 C G) :=
  aspec_ok (ak := a131) (bl := b131) (e := e131) (c := fun x _ => C x) (g := fun x _ => G x) (E0 := E0) (E := E131) tab (.cons wk80 .nil) rfl rfl hm Tryd.func131 (by kernel_rfl) [PM.data (.int .i64)] (fun X Y H => by obtain ⟨a, _⟩ := X; exact val_of (t131 a) (hd a H)) IO L
abbrev w131 : FSpec := s131 (fun x => U.okl x.1) fun x => optI' (findN (fun i => U.odd (List.getD (α := Line) x.1 i U.dL).1) (List.length (α := Line) x.1) 0)
theorem wk131 : SpecOK Tryd.prog E0 131 w131 := by
  refine k131 (fun l H => ?_) (L := ls_ok (lcs := [lc Tryd.f131 0]) (rgs := []) (by kernel_rfl) (by kernel_rfl) L131 trivial)
  have H : U.okl l = true := H
  simp only [d131, Tr.val, H, and_self, decide_true, Bool.and_self, cond_true]
  cases findN (fun i => U.odd (l.getD i U.dL).1) l.length 0 <;> rfl
def d79 (a : List Line) : Tr (Bool) :=
 let v1 : Int := (optI' (findN (fun (i : Nat) => U.odd (a.getD i U.dL).fst) a.length (0 : Nat)))
 Tr.ite (U.okl a) (Tr.ret (decide ((0 : Int) ≤ v1))) Tr.fail
def e79 (r : Bool) : FRes := { rs := Slot.av (AV.one (Leaf.dat Kd.bool r)), upd := [], new := [] }
@[reducible] def a79 : List AK := [AK.d link.sl, AK.c (Leaf.fn (80 : FuncId) [])]
@[reducible] def b79 : List BK := []
theorem t79 (a : List Line) : evFn (E0.withFns [((131 : Nat), w131)]) Tryd.f79 [PM.data Kd.bool] (akAV a79 (a, ())) (bkBs b79 ()) = (d79 a).map e79 := by kernel_rfl
def s79 (C : akT a79 → Bool) (G : akT a79 → Bool) : FSpec := aspec a79 b79 e79 (fun x _ => C x) (fun x _ => G x)
theorem k79 {C : akT a79 → Bool} {G : akT a79 → Bool} (hd : ∀ (a : List Line), C (a, ()) = true → (d79 a).val = some (G (a, ()))) (IO : ItOK Tryd.prog (E0.withFns [((131 : Nat), w131)]) := by exact itOK_none rfl) (L : ∀ c, Tryd.f79.body = some c → LsOK (evI 2) ((E0.withFns [((131 : Nat), w131)]).lend 0) c := by exact fun c _ => LsOK_none rfl c) : SpecOK Tryd.prog E0 79 (s79 C G) :=
  aspec_ok (ak := a79) (bl := b79) (e := e79) (c := fun x _ => C x) (g := fun x _ => G x) (E0 := E0) (E := E0.withFns [((131 : Nat), w131)]) tab (.cons wk131 .nil) rfl rfl hm Tryd.func79 (by kernel_rfl) [PM.data Kd.bool] (fun X Y H => by obtain ⟨a, _⟩ := X; exact val_of (t79 a) (hd a H)) IO L
abbrev w79 : FSpec := s79 (fun x => U.okl x.1) fun x => List.any (α := Line) x.1 fun y => U.odd y.1
theorem wk79 : SpecOK Tryd.prog E0 79 w79 := by
  refine k79 fun l H => ?_
  have H : U.okl l = true := H
  show _ = some (l.any fun y => U.odd y.1)
  rw [← find_any (fun y => U.odd y.1) U.dL l]
  simp only [d79, Tr.val, H, cond_true]
  cases findN (fun i => U.odd (l.getD i U.dL).1) l.length 0 <;> simp [optI']
def d20 (a1 : Int) (a2 : List Line) : Tr (Bool) :=
 let v1 : Int := ((↑a2.length : Int))
 Tr.ite (decide ((0 : Int) ≤ a1)) (Tr.ite (decide (a1 ≤ (40 : Int))) (Tr.ite (decide (v1 ≤ a1)) (Tr.ite (U.okl a2) (Tr.ret !a2.any fun (y : Line) => U.odd y.fst) Tr.fail) (Tr.ret false)) (Tr.ret false)) (Tr.ret false)
def e20 (r : Bool) : FRes := { rs := Slot.av (AV.one (Leaf.dat Kd.bool r)), upd := [], new := [] }
@[reducible] def a20 : List AK := [AK.d bakk]
@[reducible] def b20 : List BK := []
theorem t20 (a1 : Int) (a2 : List Line) : evFn (E0.withFns [((79 : Nat), w79)]) Tryd.f20 [PM.data Kd.bool] (akAV a20 ((a1, a2, ()), ())) (bkBs b20 ()) = (d20 a1 a2).map e20 := by kernel_rfl
def s20 (C : akT a20 → Bool) (G : akT a20 → Bool) : FSpec := aspec a20 b20 e20 (fun x _ => C x) (fun x _ => G x)
theorem k20 {C : akT a20 → Bool} {G : akT a20 → Bool} (hd : ∀ (a1 : Int) (a2 : List Line), C ((a1, a2, ()), ()) = true → (d20 a1 a2).val = some (G ((a1, a2, ()), ()))) (IO : ItOK Tryd.prog (E0.withFns [((79 : Nat), w79)]) := by exact itOK_none rfl) (L : ∀ c, Tryd.f20.body = some c → LsOK (evI 2) ((E0.withFns [((79 : Nat), w79)]).lend 0) c := by exact fun c _ => LsOK_none rfl c) : SpecOK Tryd.prog E0 20 (s20 C G) :=
  aspec_ok (ak := a20) (bl := b20) (e := e20) (c := fun x _ => C x) (g := fun x _ => G x) (E0 := E0) (E := E0.withFns [((79 : Nat), w79)]) tab (.cons wk79 .nil) rfl rfl hm Tryd.func20 (by kernel_rfl) [PM.data Kd.bool] (fun X Y H => by obtain ⟨⟨a1, ⟨a2, _⟩⟩, _⟩ := X; exact val_of (t20 a1 a2) (hd a1 a2 H)) IO L
def keepB (b : Int × List Line × Unit) : Bool := decide (0 ≤ b.1) && (decide (b.1 ≤ 40) && (decide ((b.2.1.length : Int) ≤ b.1) && !(b.2.1.any fun y => U.odd y.1)))
abbrev w20 : FSpec := s20 (fun x => U.okl x.1.2.1) fun x => keepB x.1
theorem wk20 : SpecOK Tryd.prog E0 20 w20 := by
  refine k20 fun n l H => ?_
  have H : U.okl l = true := H
  show _ = some (keepB (n, l, ()))
  unfold keepB
  by_cases h1 : 0 ≤ n <;> by_cases h2 : n ≤ 40 <;> by_cases h3 : (l.length : Int) ≤ n <;> simp [d20, Tr.val, H, h1, h2, h3]
end Go.Proofs.YtmnbcnhpklejcaaDoor
namespace U
def cutC (c : Cl) : Cl := (c.1.extract 0 (min c.1.size 20), c.2)
def cutL (l : List Cl) : List Cl := (l.take 82).map cutC
def few (l : List Ln) (n : Nat) : List Ln := (l.take n).map fun x => (cutL x.1, x.2.1, ())
end U
namespace Go.Proofs.YtmnbcnhpklejcaaDoor
theorem minI_nat (a b : Nat) : minI (a : Int) (b : Int) = ((min a b : Nat) : Int) := by unfold minI; split <;> omega
end Go.Proofs.YtmnbcnhpklejcaaDoor
end
section
set_option linter.unusedVariables false
set_option linter.unusedSimpArgs false
set_option maxRecDepth 20000
open Go Go.Ev
namespace Go.Proofs.YtmnbcnhpklejcaaDoor
def d99 (a : Int) (b : Int) (c : Int) : Tr (Bool) :=
 Tr.ite (decide (b ≤ a)) (Tr.ret (decide (a ≤ c))) (Tr.ret false)
def e99 (r : Bool) : FRes := { rs := Slot.av (AV.one (Leaf.dat Kd.bool r)), upd := [], new := [] }
@[reducible] def a99 : List AK := [AK.d (.int .i64), AK.d (.int .i64), AK.d (.int .i64)]
@[reducible] def b99 : List BK := []
theorem t99 (a : Int) (b : Int) (c : Int) : evFn (E0) Tryd.f99 [PM.data Kd.bool] (akAV a99 (a, b, c, ())) (bkBs b99 ()) = (d99 a b c).map e99 := by kernel_rfl
def s99' (G : akT a99 → Bool) : FSpec := aspec0 a99 b99 e99 (fun x _ => G x)
theorem k99' {G : akT a99 → Bool} (hd : ∀ (a : Int) (b : Int) (c : Int), (d99 a b c).val = some (G (a, b, c, ()))) (IO : ItOK Tryd.prog (E0) := by exact itOK_none rfl) (L : ∀ c, Tryd.f99.body = some c → LsOK (evI 2) ((E0).lend 0) c := by exact fun c _ => LsOK_none rfl c) : SpecOK Tryd.prog E0 99 (s99' G) :=
  aspec0_ok (ak := a99) (bl := b99) (e := e99) (g := fun x _ => G x) (E0 := E0) (E := E0) tab .nil rfl rfl hm Tryd.func99 (by kernel_rfl) [PM.data Kd.bool] (fun X Y => by obtain ⟨a, ⟨b, ⟨c, _⟩⟩⟩ := X; exact val_of (t99 a b c) (hd a b c)) IO L
abbrev w99 : FSpec := s99' fun x => U.inn x.1 x.2.1 x.2.2.1
theorem wk99 : SpecOK Tryd.prog E0 99 w99 := by
  refine k99' fun a b c => ?_
  show _ = some (U.inn a b c)
  unfold U.inn
  by_cases h : b ≤ a <;> simp [d99, Tr.val, h]
def d37 (a1 : Int) (a2 : Int) (a3 : Int) : Tr (Bool) :=
 Tr.ite (U.inn a1 (0 : Int) (256 : Int)) (Tr.ite (U.inn a2 (0 : Int) (256 : Int)) (Tr.ret (U.inn a3 (0 : Int) (255 : Int))) (Tr.ret false)) (Tr.ret false)
def e37 (r : Bool) : FRes := { rs := Slot.av (AV.one (Leaf.dat Kd.bool r)), upd := [], new := [] }
@[reducible] def a37 : List AK := [AK.d attk]
@[reducible] def b37 : List BK := []
theorem t37 (a1 : Int) (a2 : Int) (a3 : Int) : evFn (E0.withFns [((99 : Nat), w99)]) Tryd.f37 [PM.data Kd.bool] (akAV a37 ((a1, a2, a3, ()), ())) (bkBs b37 ()) = (d37 a1 a2 a3).map e37 := by kernel_rfl
def s37' (G : akT a37 → Bool) : FSpec := aspec0 a37 b37 e37 (fun x _ => G x)
theorem k37' {G : akT a37 → Bool} (hd : ∀ (a1 : Int) (a2 : Int) (a3 : Int), (d37 a1 a2 a3).val = some (G ((a1, a2, a3, ()), ()))) (IO : ItOK Tryd.prog (E0.withFns [((99 : Nat), w99)]) := by exact itOK_none rfl) (L : ∀ c, Tryd.f37.body = some c → LsOK (evI 2) ((E0.withFns [((99 : Nat), w99)]).lend 0) c := by exact fun c _ => LsOK_none rfl c) : SpecOK Tryd.prog E0 37 (s37' G) :=
  aspec0_ok (ak := a37) (bl := b37) (e := e37) (g := fun x _ => G x) (E0 := E0) (E := E0.withFns [((99 : Nat), w99)]) tab (.cons wk99 .nil) rfl rfl hm Tryd.func37 (by kernel_rfl) [PM.data Kd.bool] (fun X Y => by obtain ⟨⟨a1, ⟨a2, ⟨a3, _⟩⟩⟩, _⟩ := X; exact val_of (t37 a1 a2 a3) (hd a1 a2 a3)) IO L
abbrev w37 : FSpec := s37' fun x => U.look x.1
theorem wk37 : SpecOK Tryd.prog E0 37 w37 := by
  refine k37' fun a b c => ?_
  show _ = some (U.look (a, b, c, ()))
  unfold U.look
  cases h1 : U.inn a 0 256 <;> cases h2 : U.inn b 0 256 <;> simp [d37, Tr.val, h1, h2]
def d137 (a : Int) (b : Int) (c : Int) : Tr (Bool) :=
 Tr.ite (decide (b ≤ a)) (Tr.ret (decide (a ≤ c))) (Tr.ret false)
def e137 (r : Bool) : FRes := { rs := Slot.av (AV.one (Leaf.dat Kd.bool r)), upd := [], new := [] }
@[reducible] def a137 : List AK := [AK.d (Kd.int IntKind.i32), AK.d (Kd.int IntKind.i32), AK.d (Kd.int IntKind.i32)]
@[reducible] def b137 : List BK := []
theorem t137 (a : Int) (b : Int) (c : Int) : evFn (E0) Tryd.f137 [PM.data Kd.bool] (akAV a137 (a, b, c, ())) (bkBs b137 ()) = (d137 a b c).map e137 := by kernel_rfl
def s137' (G : akT a137 → Bool) : FSpec := aspec0 a137 b137 e137 (fun x _ => G x)
theorem k137' {G : akT a137 → Bool} (hd : ∀ (a : Int) (b : Int) (c : Int), (d137 a b c).val = some (G (a, b, c, ()))) (IO : ItOK Tryd.prog (E0) := by exact itOK_none rfl) (L : ∀ c, Tryd.f137.body = some c → LsOK (evI 2) ((E0).lend 0) c := by exact fun c _ => LsOK_none rfl c) : SpecOK Tryd.prog E0 137 (s137' G) :=
  aspec0_ok (ak := a137) (bl := b137) (e := e137) (g := fun x _ => G x) (E0 := E0) (E := E0) tab .nil rfl rfl hm Tryd.func137 (by kernel_rfl) [PM.data Kd.bool] (fun X Y => by obtain ⟨a, ⟨b, ⟨c, _⟩⟩⟩ := X; exact val_of (t137 a b c) (hd a b c)) IO L
abbrev w137 : FSpec := s137' fun x => U.inn x.1 x.2.1 x.2.2.1
theorem wk137 : SpecOK Tryd.prog E0 137 w137 := by
  refine k137' fun a b c => ?_
  show _ = some (U.inn a b c)
  unfold U.inn
  by_cases h : b ≤ a <;> simp [d137, Tr.val, h]
def d136 (a : Int) : Tr (Bool) :=
 Tr.ite (decide ((0 : Int) ≤ a)) (Tr.ite (decide (a ≤ (1114111 : Int))) (Tr.ite (decide (a < (55296 : Int))) (Tr.ret true) (Tr.ret (decide ((57343 : Int) < a)))) (Tr.ret false)) (Tr.ret false)
def e136 (r : Bool) : FRes := { rs := Slot.av (AV.one (Leaf.dat Kd.bool r)), upd := [], new := [] }
@[reducible] def a136 : List AK := [AK.d (Kd.int IntKind.i32)]
@[reducible] def b136 : List BK := []
theorem t136 (a : Int) : evFn (E0) Tryd.f136 [PM.data Kd.bool] (akAV a136 (a, ())) (bkBs b136 ()) = (d136 a).map e136 := by kernel_rfl
def s136' (G : akT a136 → Bool) : FSpec := aspec0 a136 b136 e136 (fun x _ => G x)
theorem k136' {G : akT a136 → Bool} (hd : ∀ (a : Int), (d136 a).val = some (G (a, ()))) (IO : ItOK Tryd.prog (E0) := by exact itOK_none rfl) (L : ∀ c, Tryd.f136.body = some c → LsOK (evI 2) ((E0).lend 0) c := by exact fun c _ => LsOK_none rfl c) : SpecOK Tryd.prog E0 136 (s136' G) :=
  aspec0_ok (ak := a136) (bl := b136) (e := e136) (g := fun x _ => G x) (E0 := E0) (E := E0) tab .nil rfl rfl hm Tryd.func136 (by kernel_rfl) [PM.data Kd.bool] (fun X Y => by obtain ⟨a, _⟩ := X; exact val_of (t136 a) (hd a)) IO L
abbrev w136 : FSpec := s136' fun x => U.valid x.1
theorem wk136 : SpecOK Tryd.prog E0 136 w136 := by
  refine k136' fun a => ?_
  show _ = some (U.valid a)
  unfold U.valid
  by_cases h : 0 ≤ a <;> by_cases h2 : a ≤ 1114111 <;> by_cases h3 : a < 55296 <;> by_cases h4 : 57343 < a <;> simp [d136, Tr.val, h, h2, h3, h4] <;> omega
def d84 (a : Int) : Tr (Int) :=
 Tr.ite (!U.valid a) (Tr.ret (-1 : Int)) (Tr.ite (decide (a < (32 : Int))) (Tr.ret (-1 : Int)) (Tr.ite (U.inn a (127 : Int) (159 : Int)) (Tr.ret (-1 : Int)) (Tr.ite (U.inn a (768 : Int) (879 : Int)) (Tr.ret (0 : Int)) (Tr.ite (U.inn a (8203 : Int) (8205 : Int)) (Tr.ret (0 : Int)) (Tr.ite (U.inn a (65024 : Int) (65039 : Int)) (Tr.ret (0 : Int)) (Tr.ite (U.inn a (4352 : Int) (4447 : Int)) (Tr.ret (2 : Int)) (Tr.ite (U.inn a (12353 : Int) (19903 : Int)) (Tr.ret (2 : Int)) (Tr.ite (U.inn a (19968 : Int) (40959 : Int)) (Tr.ret (2 : Int)) (Tr.ite (U.inn a (44032 : Int) (55203 : Int)) (Tr.ret (2 : Int)) (Tr.ite (U.inn a (63744 : Int) (64255 : Int)) (Tr.ret (2 : Int)) (Tr.ite (U.inn a (65281 : Int) (65376 : Int)) (Tr.ret (2 : Int)) (Tr.ite (U.inn a (127744 : Int) (129791 : Int)) (Tr.ret (2 : Int)) (Tr.ite (U.inn a (131072 : Int) (262141 : Int)) (Tr.ret (2 : Int)) (Tr.ret (1 : Int)))))))))))))))
def e84 (r : Int) : FRes := { rs := Slot.av (AV.one (Leaf.dat (.int .i64) r)), upd := [], new := [] }
@[reducible] def a84 : List AK := [AK.d (Kd.int IntKind.i32)]
@[reducible] def b84 : List BK := []
theorem t84 (a : Int) : evFn (E0.withFns [((136 : Nat), w136), ((137 : Nat), w137)]) Tryd.f84 [PM.data (.int .i64)] (akAV a84 (a, ())) (bkBs b84 ()) = (d84 a).map e84 := by kernel_rfl
def s84' (G : akT a84 → Int) : FSpec := aspec0 a84 b84 e84 (fun x _ => G x)
theorem k84' {G : akT a84 → Int} (hd : ∀ (a : Int), (d84 a).val = some (G (a, ()))) (IO : ItOK Tryd.prog (E0.withFns [((136 : Nat), w136), ((137 : Nat), w137)]) := by exact itOK_none rfl) (L : ∀ c, Tryd.f84.body = some c → LsOK (evI 2) ((E0.withFns [((136 : Nat), w136), ((137 : Nat), w137)]).lend 0) c := by exact fun c _ => LsOK_none rfl c) : SpecOK Tryd.prog E0 84 (s84' G) :=
  aspec0_ok (ak := a84) (bl := b84) (e := e84) (g := fun x _ => G x) (E0 := E0) (E := E0.withFns [((136 : Nat), w136), ((137 : Nat), w137)]) tab (.cons wk136 (.cons wk137 .nil)) rfl rfl hm Tryd.func84 (by kernel_rfl) [PM.data (.int .i64)] (fun X Y => by obtain ⟨a, _⟩ := X; exact val_of (t84 a) (hd a)) IO L
abbrev w84 : FSpec := s84' fun x => U.width x.1
theorem wk84 : SpecOK Tryd.prog E0 84 w84 := by
  refine k84' fun a => ?_
  show _ = some (U.width a)
  have A : ∀ (p q : Bool) (x y : Int), (bif p then x else bif q then x else y) = bif p || q then x else y := by intro p q x y; cases p <;> cases q <;> rfl
  have B : ∀ (p : Bool) (x y : Int), (bif p then some x else some y) = some (bif p then x else y) := by intro p x y; cases p <;> rfl
  have C : decide (a < 160) = decide (a ≤ 159) := by rw [decide_eq_decide]; omega
  simp only [d84, Tr.val, U.width, U.within, U.zero, U.wide, List.any_cons, List.any_nil, U.span, U.inn, C, A, B, Bool.or_assoc, Bool.or_false]
def d133 (a : Int) : Tr (Int) :=
 Tr.ite (decide (a < (128 : Int))) (Tr.ret (1 : Int)) (Tr.ite (decide ((194 : Int) ≤ a)) (Tr.ite (decide (a < (224 : Int))) (Tr.ret (2 : Int)) (Tr.ite (decide ((224 : Int) ≤ a)) (Tr.ite (decide (a < (240 : Int))) (Tr.ret (3 : Int)) (Tr.ite (decide ((240 : Int) ≤ a)) (Tr.ite (decide (a < (245 : Int))) (Tr.ret (4 : Int)) (Tr.ret (0 : Int))) (Tr.ret (0 : Int)))) (Tr.ite (decide ((240 : Int) ≤ a)) (Tr.ite (decide (a < (245 : Int))) (Tr.ret (4 : Int)) (Tr.ret (0 : Int))) (Tr.ret (0 : Int))))) (Tr.ite (decide ((224 : Int) ≤ a)) (Tr.ite (decide (a < (240 : Int))) (Tr.ret (3 : Int)) (Tr.ite (decide ((240 : Int) ≤ a)) (Tr.ite (decide (a < (245 : Int))) (Tr.ret (4 : Int)) (Tr.ret (0 : Int))) (Tr.ret (0 : Int)))) (Tr.ite (decide ((240 : Int) ≤ a)) (Tr.ite (decide (a < (245 : Int))) (Tr.ret (4 : Int)) (Tr.ret (0 : Int))) (Tr.ret (0 : Int)))))
def e133 (r : Int) : FRes := { rs := Slot.av (AV.one (Leaf.dat (.int .i64) r)), upd := [], new := [] }
@[reducible] def a133 : List AK := [AK.d (Kd.int IntKind.u8)]
@[reducible] def b133 : List BK := []
theorem t133 (a : Int) : evFn (E0) Tryd.f133 [PM.data (.int .i64)] (akAV a133 (a, ())) (bkBs b133 ()) = (d133 a).map e133 := by kernel_rfl
def s133' (G : akT a133 → Int) : FSpec := aspec0 a133 b133 e133 (fun x _ => G x)
theorem k133' {G : akT a133 → Int} (hd : ∀ (a : Int), (d133 a).val = some (G (a, ()))) (IO : ItOK Tryd.prog (E0) := by exact itOK_none rfl) (L : ∀ c, Tryd.f133.body = some c → LsOK (evI 2) ((E0).lend 0) c := by exact fun c _ => LsOK_none rfl c) : SpecOK Tryd.prog E0 133 (s133' G) :=
  aspec0_ok (ak := a133) (bl := b133) (e := e133) (g := fun x _ => G x) (E0 := E0) (E := E0) tab .nil rfl rfl hm Tryd.func133 (by kernel_rfl) [PM.data (.int .i64)] (fun X Y => by obtain ⟨a, _⟩ := X; exact val_of (t133 a) (hd a)) IO L
abbrev w133 : FSpec := s133' fun x => U.need x.1
theorem wk133 : SpecOK Tryd.prog E0 133 w133 := by
  refine k133' fun a => ?_
  show _ = some (U.need a)
  simp only [d133, Tr.val, U.need]
  grind
end Go.Proofs.YtmnbcnhpklejcaaDoor
namespace U
def head (n : Nat) : Int := [(0 : Int), 0, 192, 224, 240].getD n 0
def vl (s : ByteArray) : Nat → Nat → Int → Int × Int ⊕ Int
  | 0, _, r => .inr r
  | k + 1, i, r => if cont (bt s i) = true then vl s k (i + 1) (64 * r + bt s i - 128) else .inl (-1, r)
def vL (s : ByteArray) : Int × Int ⊕ Int := if s.size = 1 then .inl (bt s 0, bt s 0 - head s.size) else vl s (s.size - 1) 1 (bt s 0 - head s.size)
def rv (s : ByteArray) : Int := match vL s with
  | .inr r => r
  | .inl p => p.1
end U
namespace Go.Proofs.YtmnbcnhpklejcaaDoor
def T135 (x : p135_0.T) : Tr (Int × Int ⊕ Int) :=
  .ite (decide (1 ≤ ByteArray.size x.1.1 ∧ ByteArray.size x.1.1 ≤ 4 ∧ (x.1.2.1 : Int) = 0 ∧ (x.1.2.2.1 : Int) = 0)) (.spl (U.vL x.1.1) (0, 0) 0) .fail
theorem r135 (s : ByteArray) (hs : s.size ≤ 4) : ∀ (k i : Nat) (r : Int), 1 ≤ i → i + k = s.size → (i = 1 → -300 ≤ r ∧ r ≤ 300) → (i = 2 → -20000 ≤ r ∧ r ≤ 20000) → (i = 3 → -1300000 ≤ r ∧ r ≤ 1300000) → Rounds b135_0 ((s, r, (i : Int), ()), ()) (U.vl s k i r)
  | 0, i, r, h1, h2, _, _, _ => by
    refine .exit ?_
    simp only [b135_0, B135_0, Tr.val, show ¬ ((i : Int) < (s.size : Int)) by omega, decide_false, cond_false]
    rfl
  | k + 1, i, r, h1, h2, g1, g2, g3 => by
    have b0 := bt_ge s i
    have b1 := bt_lt s i
    have hi : i = 1 ∨ i = 2 ∨ i = 3 := by omega
    have hr : -1300000 ≤ r ∧ r ≤ 1300000 := by
      rcases hi with h | h | h
      · have := g1 h; omega
      · have := g2 h; omega
      · exact g3 h
    have e0 : IntKind.i32.wrap (bt s i) = bt s i := w32 (by omega) (by omega)
    have e1 : IntKind.i32.wrap (64 * r) = 64 * r := w32 (by omega) (by omega)
    have e2 : IntKind.i32.wrap (64 * r + bt s i) = 64 * r + bt s i := w32 (by omega) (by omega)
    have e3 : IntKind.i32.wrap (64 * r + bt s i - 128) = 64 * r + bt s i - 128 := w32 (by omega) (by omega)
    simp only [U.vl]
    by_cases c1 : bt s i < 128
    · have : U.cont (bt s i) = false := by unfold U.cont; rw [decide_eq_false (show ¬ 128 ≤ bt s i by omega)]; rfl
      rw [this, if_neg (show ¬ false = true by simp)]
      refine .exit ?_
      simp only [b135_0, B135_0, Tr.val, e0, c1, inB_nat (show i < s.size by omega), show ((i : Int) < (s.size : Int)) by omega, show ¬ ((i : Int) = 0) by omega, decide_true, decide_false, cond_true, cond_false]
    · by_cases c2 : 191 < bt s i
      · have : U.cont (bt s i) = false := by unfold U.cont; rw [decide_eq_false (show ¬ bt s i ≤ 191 by omega), Bool.and_false]
        rw [this, if_neg (show ¬ false = true by simp)]
        refine .exit ?_
        simp only [b135_0, B135_0, Tr.val, e0, c1, c2, inB_nat (show i < s.size by omega), show ((i : Int) < (s.size : Int)) by omega, show ¬ ((i : Int) = 0) by omega, decide_true, decide_false, cond_true, cond_false]
      · have : U.cont (bt s i) = true := by unfold U.cont; rw [decide_eq_true (show 128 ≤ bt s i by omega), decide_eq_true (show bt s i ≤ 191 by omega)]; rfl
        rw [this, if_pos rfl]
        refine .step (y := ((s, 64 * r + bt s i - 128, ((i + 1 : Nat) : Int), ()), ())) ?_ (r135 s hs k (i + 1) _ (by omega) (by omega) (by omega) (fun h => ?_) (fun h => ?_))
        · simp only [b135_0, B135_0, Tr.val, e0, e1, e2, e3, c1, c2, inB_nat (show i < s.size by omega), show ((i : Int) < (s.size : Int)) by omega, show ¬ ((i : Int) = 0) by omega, decide_true, decide_false, cond_true, cond_false, wrap64_nat (show i ≤ 1048576 by omega)]
        · have := g1 (by omega)
          omega
        · have := g2 (by omega)
          omega
theorem head_le (n : Nat) : 0 ≤ U.head n ∧ U.head n ≤ 240 := by
  unfold U.head
  rcases n with _ | _ | _ | _ | _ | n <;> simp [List.getD]
abbrev E135 : Env := M135 fun key x => bif Nat.beq key 3 then p135_0.ls (fun a => (T135 a).map X135_0) x else none
theorem L135 : LoopOK (evI 2) (E135.lend 0) (lc Tryd.f135 0) := by
  refine l135_0 (T := T135) (fun x => rfl) ?_
  rintro ⟨⟨s, r0, i, z⟩, z'⟩ r h
  obtain ⟨h1, h2⟩ := pre_val h
  rw [Tr.val_spl] at h2
  cases h2
  obtain ⟨a, b, c, d⟩ := of_decide_eq_true h1
  dsimp only at a b c d
  subst c; subst d
  have b0 := bt_ge s 0
  have b1 := bt_lt s 0
  have hh := head_le s.size
  have e0 : IntKind.i32.wrap (bt s 0) = bt s 0 := w32 (by omega) (by omega)
  have e1 : IntKind.i32.wrap (bt s 0 - U.head s.size) = bt s 0 - U.head s.size := w32 (by omega) (by omega)
  unfold U.vL
  have e2 : bt s 0 - [(0 : Int), 0, 192, 224, 240].getD ((s.size : Int).toNat) 0 = bt s 0 - U.head s.size := by rw [Int.toNat_natCast]; rfl
  have i5 : inB (s.size : Int) 5 = true := inBi (by omega) (by omega)
  have i0 : inB 0 s.size = true := inBi (by omega) (by omega)
  by_cases hn : s.size = 1
  · rw [if_pos hn]
    refine .exit ?_
    have hd : decide ((s.size : Int) = 1) = true := decide_eq_true (by omega)
    simp only [b135_0, B135_0, Tr.val, e0, e1, e2, i5, i0, hd, show ((0 : Int) < (s.size : Int)) by omega, decide_true, decide_false, cond_true, cond_false]
  rw [if_neg hn]
  refine .step (y := ((s, bt s 0 - U.head s.size, ((1 : Nat) : Int), ()), ())) ?_ (r135 s b (s.size - 1) 1 _ (by omega) (by omega) (fun _ => by omega) (by omega) (by omega))
  have e3 : IntKind.i64.wrap (0 + 1) = ((1 : Nat) : Int) := by decide
  simp only [b135_0, B135_0, Tr.val, e0, e1, e2, e3, i5, i0, show ((0 : Int) < (s.size : Int)) by omega, show ¬ ((s.size : Int) = 1) by omega, decide_true, decide_false, cond_true, cond_false]
def d135 (a : ByteArray) : Tr (Int) :=
 Tr.ite (decide ((1 : Nat) ≤ a.size ∧ a.size ≤ (4 : Nat) ∧ (0 : Int) = (0 : Int) ∧ (0 : Int) = (0 : Int))) (Tr.ite (U.vL a).isLeft (Tr.ret ((U.vL a).getLeft?.getD ((0 : Int), (0 : Int))).fst) (Tr.ret ((U.vL a).getRight?.getD (0 : Int)))) Tr.fail
def e135 (r : Int) : FRes := { rs := Slot.av (AV.one (Leaf.dat (Kd.int IntKind.i32) r)), upd := [], new := [] }
@[reducible] def a135 : List AK := [AK.d Kd.str]
@[reducible] def b135 : List BK := []
theorem t135 (a : ByteArray) : evFn (E135) Tryd.f135 [PM.data (Kd.int IntKind.i32)] (akAV a135 (a, ())) (bkBs b135 ()) = (d135 a).map e135 := by kernel_rfl
def s135 (C : akT a135 → Bool) (G : akT a135 → Int) : FSpec := aspec a135 b135 e135 (fun x _ => C x) (fun x _ => G x)
theorem k135 {C : akT a135 → Bool} {G : akT a135 → Int} (hd : ∀ (a : ByteArray), C (a, ()) = true → (d135 a).val = some (G (a, ()))) (IO : ItOK Tryd.prog (E135) := by exact itOK_none rfl) (L : ∀ c, Tryd.f135.body = some c → LsOK (evI 2) ((E135).lend 0) c := by exact fun c _ => LsOK_none rfl c) : SpecOK Tryd.prog E0 135 (s135 C G) :=
  aspec_ok (ak := a135) (bl := b135) (e := e135) (c := fun x _ => C x) (g := fun x _ => G x) (E0 := E0) (E := E135) tab .nil rfl rfl hm Tryd.func135 (by kernel_rfl) [PM.data (Kd.int IntKind.i32)] (fun X Y H => by obtain ⟨a, _⟩ := X; exact val_of (t135 a) (hd a H)) IO L
abbrev w135 : FSpec := s135 (fun x => decide (1 ≤ ByteArray.size x.1 ∧ ByteArray.size x.1 ≤ 4)) fun x => U.rv x.1
theorem wk135 : SpecOK Tryd.prog E0 135 w135 := by
  refine k135 (fun s H => ?_) (L := ls_ok (lcs := [lc Tryd.f135 0]) (rgs := []) (by kernel_rfl) (by kernel_rfl) L135 trivial)
  obtain ⟨h1, h2⟩ : 1 ≤ s.size ∧ s.size ≤ 4 := of_decide_eq_true H
  show _ = some (U.rv s)
  simp only [d135, Tr.val, h1, h2, decide_true, and_self, cond_true]
  unfold U.rv
  cases U.vL s <;> rfl
abbrev G134 : List (Nat × FSpec) := [(135, w135)]
def live134 (key : Nat) : Lv :=
  bif Nat.beq key 10 then { ls := [1, 6, 7] } else bif Nat.beq key 1010 then { ls := [1, 6, 7] } else
  bif Nat.beq key 4 then { ls := [0, 1, 5] } else bif Nat.beq key 1004 then { ls := [0, 1, 4] } else
  { ls := [] }
abbrev M134 (ls : Nat → VS → Option (Tr (Ex × VS))) : Env := (E0.withFns G134).loops live134 ls
@[reducible] def p134_0 : LP := { n := 68, sl := [.d (Kd.str), .d (.int .i64), .d (.int .i64)], bl := [] }
def B134_0 (x0 : ByteArray) (x1 : Int) (x2 : Int) : Tr (p134_0.T ⊕ (ByteArray × Int ⊕ ByteArray × Int)) :=
 Tr.ite (decide (x2 < (↑x0.size : Int))) (Tr.ite (inB x2 x0.size) (Tr.ite (decide (bt x0 x2 < (128 : Int))) (Tr.ret (Sum.inr (Sum.inl (x0, x1)))) (Tr.ite (inB x2 x0.size) (Tr.ite (decide ((191 : Int) < bt x0 x2)) (Tr.ret (Sum.inr (Sum.inl (x0, x1)))) (Tr.ret (Sum.inl ((x0, x1, IntKind.i64.wrap (x2 + (1 : Int)), ()), ())))) Tr.fail)) Tr.fail) (Tr.ret (Sum.inr (Sum.inr (x0, x1))))
def X134_0 : (ByteArray × Int ⊕ ByteArray × Int) → Ex × VS
  | (.inl r) => Prod.mk Ex.ret { n := 68, v := [Slot.av (AV.one (Leaf.dat Kd.str r.fst)), Slot.av (AV.one (Leaf.dat (.int .i64) r.snd)), Slot.av (AV.one (Leaf.kb false))], h := [] }
  | (.inr r) => Prod.mk (Ex.exit ( 0)) { n := 68, v := [Slot.av (AV.one (Leaf.dat Kd.str r.fst)), Slot.av (AV.one (Leaf.dat (.int .i64) r.snd)), Slot.av (AV.one Leaf.undef)], h := [] }
def b134_0 : p134_0.T → Tr (p134_0.T ⊕ (ByteArray × Int ⊕ ByteArray × Int)) := fun ⟨⟨x0, ⟨x1, ⟨x2, _⟩⟩⟩, _⟩ => B134_0 x0 x1 x2
theorem h134_0 (ls : Nat → VS → Option (Tr (Ex × VS))) (x : p134_0.T) : (evC (evI 2) (lc Tryd.f134 0) (Env.lend (M134 ls) 0) (unV (live134 4) (p134_0.V x))).map (decL 0 (live134 4) (live134 1004)) = (b134_0 x).map (encR p134_0.V X134_0) := by
  obtain ⟨⟨x0, ⟨x1, ⟨x2, _⟩⟩⟩, _⟩ := x; kernel_rfl
theorem c134_0 (x : p134_0.T) : canV 0 (live134 4) (unV (live134 4) (p134_0.V x)) = p134_0.V x := by
  obtain ⟨⟨x0, ⟨x1, ⟨x2, _⟩⟩⟩, _⟩ := x; kernel_rfl
theorem l134_0 {T : p134_0.T → Tr (ByteArray × Int ⊕ ByteArray × Int)} {ls : Nat → VS → Option (Tr (Ex × VS))} (hls : ∀ x, (Env.lend (M134 ls) 0).ls 4 x = p134_0.ls (fun a => (T a).map X134_0) x) (hS : ∀ x r, (T x).val = some r → Rounds b134_0 x r) : LoopOK (evI 2) (Env.lend (M134 ls) 0) (lc Tryd.f134 0) :=
  loopA 4 (live134 4) (live134 1004) p134_0 b134_0 X134_0 T (by kernel_rfl) rfl rfl hls (h134_0 ls) c134_0 hS
def T134_0 (x : p134_0.T) : Tr (ByteArray × Int ⊕ ByteArray × Int) :=
  .ite (decide (1 ≤ ByteArray.size x.1.1 ∧ ByteArray.size x.1.1 ≤ 4 ∧ (x.1.2.2.1 : Int) = 1))
    (.ite (allN (fun i => U.cont (bt x.1.1 ((i + 1 : Nat) : Int))) (ByteArray.size x.1.1 - 1) 0) (.ret (.inr (x.1.1, x.1.2.1))) (.ret (.inl (x.1.1, x.1.2.1)))) .fail
abbrev N134 (ls : Nat → VS → Option (Tr (Ex × VS))) : Env := M134 fun key x => bif Nat.beq key 4 then p134_0.ls (fun a => (T134_0 a).map X134_0) x else ls key x
@[reducible] def p134_1 : LP := { n := 68, sl := [.d (.int .i64), .c (Leaf.row ( 0)), .c (Leaf.row ( 1))], bl := [(0, .row 5 (Kd.int IntKind.u8)), (1, .row 5 (Kd.int IntKind.u8))] }
def B134_1 (x0 : Int) (h0 : List Int) (h1 : List Int) : Tr (p134_1.T ⊕ (Int × List Int × List Int)) :=
 let v1 : Int := ((↑h0.length : Int))
 Tr.ite (decide (v1 < x0)) (Tr.ite (decide ((h0.length + (1 : Nat)) * (1 : Nat) ≤ (140737488355328 : Nat))) (Tr.ite (decide ((h1.length + (1 : Nat)) * (1 : Nat) ≤ (140737488355328 : Nat))) (Tr.ret (Sum.inl ((x0, ()), h0 ++ [(128 : Int)], h1 ++ [(191 : Int)], ()))) Tr.fail) Tr.fail) (Tr.ret (Sum.inr (x0, h0, h1)))
def X134_1 (r : (Int × List Int × List Int)) : Ex × VS := Prod.mk (Ex.exit ( 2)) { n := 68, v := [Slot.av (AV.one (Leaf.dat (.int .i64) r.fst)), Slot.av (AV.one (Leaf.row ( 0))), Slot.av (AV.one (Leaf.row ( 1)))], h := [( 0, Blk.row ( 5) (Kd.int IntKind.u8) r.snd.fst), ( 1, Blk.row ( 5) (Kd.int IntKind.u8) r.snd.snd)] }
def b134_1 : p134_1.T → Tr (p134_1.T ⊕ (Int × List Int × List Int)) := fun ⟨⟨x0, _⟩, ⟨h0, ⟨h1, _⟩⟩⟩ => B134_1 x0 h0 h1
theorem h134_1 (ls : Nat → VS → Option (Tr (Ex × VS))) (x : p134_1.T) : (evC (evI 2) (lc Tryd.f134 1) (Env.lend (N134 ls) 0) (unV (live134 10) (p134_1.V x))).map (decL 0 (live134 10) (live134 1010)) = (b134_1 x).map (encR p134_1.V X134_1) := by
  obtain ⟨⟨x0, _⟩, ⟨h0, ⟨h1, _⟩⟩⟩ := x; kernel_rfl
theorem c134_1 (x : p134_1.T) : canV 0 (live134 10) (unV (live134 10) (p134_1.V x)) = p134_1.V x := by
  obtain ⟨⟨x0, _⟩, ⟨h0, ⟨h1, _⟩⟩⟩ := x; kernel_rfl
theorem l134_1 {T : p134_1.T → Tr (Int × List Int × List Int)} {ls : Nat → VS → Option (Tr (Ex × VS))} (hls : ∀ x, (Env.lend (N134 ls) 0).ls 10 x = p134_1.ls (fun a => (T a).map X134_1) x) (hS : ∀ x r, (T x).val = some r → Rounds b134_1 x r) : LoopOK (evI 2) (Env.lend (N134 ls) 0) (lc Tryd.f134 1) :=
  loopA 10 (live134 10) (live134 1010) p134_1 b134_1 X134_1 T (by kernel_rfl) rfl rfl hls (h134_1 ls) c134_1 hS
theorem L134_0 {ls : Nat → VS → Option (Tr (Ex × VS))} : LoopOK (evI 2) ((N134 ls).lend 0) (lc Tryd.f134 0) := by
  refine l134_0 (T := T134_0) (fun x => rfl) ?_
  rintro ⟨⟨s, n, i, z⟩, z2⟩ r h
  obtain ⟨g1, g2⟩ := pre_val h
  obtain ⟨e1, e2, e3⟩ := of_decide_eq_true g1
  dsimp only at e1 e2 e3 g2
  subst e3
  have := Rounds.all (B := b134_0) (N := s.size - 1) (fun i => ((s, n, ((i + 1 : Nat) : Int), ()), ())) (fun i => U.cont (bt s ((i + 1 : Nat) : Int))) (.inl (s, n)) (.inr (s, n)) (fun i hi => ?_) ?_
  · cases hd : allN (fun i => U.cont (bt s ((i + 1 : Nat) : Int))) (s.size - 1) 0 <;> simp only [hd, Tr.val, cond_true, cond_false] at g2 this <;> cases g2 <;> exact this
  · have h1 : decide (((i + 1 : Nat) : Int) < (s.size : Int)) = true := decide_eq_true (by omega)
    have h2 : inB ((i + 1 : Nat) : Int) s.size = true := inB_nat (by omega)
    simp only [b134_0, B134_0, Tr.val, h1, h2, cond_true, wrap64_nat (show i + 1 ≤ 1048576 by omega)]
    unfold U.cont
    by_cases c1 : bt s ((i + 1 : Nat) : Int) < 128
    · simp only [c1, show ¬ 128 ≤ bt s ((i + 1 : Nat) : Int) by omega, decide_true, decide_false, cond_true, cond_false, Bool.false_and]
    · by_cases c2 : 191 < bt s ((i + 1 : Nat) : Int)
      · simp only [c1, c2, show ¬ bt s ((i + 1 : Nat) : Int) ≤ 191 by omega, decide_true, decide_false, cond_true, cond_false, Bool.and_false]
      · simp only [c1, c2, show bt s ((i + 1 : Nat) : Int) ≤ 191 by omega, show 128 ≤ bt s ((i + 1 : Nat) : Int) by omega, decide_true, decide_false, cond_true, cond_false, Bool.and_self]
  · have h1 : decide (((s.size - 1 + 1 : Nat) : Int) < (s.size : Int)) = false := decide_eq_false (by omega)
    simp only [b134_0, B134_0, Tr.val, h1, cond_false]
def fillTo (l : List Int) (n : Nat) (c : Int) : List Int := l ++ List.replicate (n - l.length) c
def T134_1 (x : p134_1.T) : Tr (Int × List Int × List Int) :=
  .ite (decide (0 ≤ (x.1.1 : Int) ∧ (x.1.1 : Int) ≤ 4 ∧ List.length (α := Int) x.2.1 = List.length (α := Int) x.2.2.1 ∧ List.length (α := Int) x.2.1 ≤ 4))
    (.ret (x.1.1, fillTo x.2.1 (Int.toNat x.1.1) 128, fillTo x.2.2.1 (Int.toNat x.1.1) 191)) .fail
theorem r134 (n : Nat) (hn : n ≤ 4) : ∀ (k : Nat) (l m : List Int), l.length = m.length → l.length ≤ 4 → n - l.length = k → Rounds b134_1 (((n : Int), ()), l, m, ()) ((n : Int), fillTo l n 128, fillTo m n 191)
  | 0, l, m, h1, h2, h3 => by
    refine .exit ?_
    have h4 : decide ((l.length : Int) < (n : Int)) = false := decide_eq_false (by omega)
    simp only [b134_1, B134_1, Tr.val, h4, cond_false, fillTo, h3, ← h1, List.replicate_zero, List.append_nil]
  | k + 1, l, m, h1, h2, h3 => by
    have ih := r134 n hn k (l ++ [128]) (m ++ [191]) (by simp [h1]) (by simp; omega) (by simp; omega)
    have e1 : fillTo (l ++ [128]) n 128 = fillTo l n 128 := by
      simp only [fillTo, List.length_append, List.length_singleton, List.append_assoc, List.singleton_append, ← List.replicate_succ]
      congr 2
      omega
    have e2 : fillTo (m ++ [191]) n 191 = fillTo m n 191 := by
      simp only [fillTo, List.length_append, List.length_singleton, List.append_assoc, List.singleton_append, ← List.replicate_succ]
      congr 2
      omega
    rw [e1, e2] at ih
    refine .step ?_ ih
    have h4 : decide ((l.length : Int) < (n : Int)) = true := decide_eq_true (by omega)
    simp only [b134_1, B134_1, Tr.val, h4, ← h1, show (l.length + 1) * 1 ≤ 140737488355328 by omega, decide_true, cond_true]
abbrev E134 : Env := N134 fun key x => bif Nat.beq key 10 then p134_1.ls (fun a => (T134_1 a).map X134_1) x else none
theorem L134_1 : LoopOK (evI 2) (E134.lend 0) (lc Tryd.f134 1) := by
  refine l134_1 (T := T134_1) (fun x => rfl) ?_
  rintro ⟨⟨n, z⟩, l, m, z2⟩ r h
  obtain ⟨g1, g2⟩ := pre_val h
  obtain ⟨e1, e2, e3, e4⟩ := of_decide_eq_true g1
  dsimp only at e1 e2 e3 e4 g2
  cases g2
  obtain ⟨k, rfl⟩ := Int.eq_ofNat_of_zero_le e1
  exact r134 k (Int.ofNat_le.1 e2) _ l m e3 e4 rfl
def d134 (a : ByteArray) (b : Int) : Tr (Bool) :=
 let v1 : List Int := (fillTo (bytesL a) b.toNat (191 : Int))
 let v2 : List Int := (fillTo (bytesL a) b.toNat (128 : Int))
 Tr.ite (decide (b < (↑a.size : Int))) (Tr.ret false) (Tr.ite (decide ((1 : Nat) ≤ a.size ∧ a.size ≤ (4 : Nat) ∧ (1 : Int) = (1 : Int))) (Tr.ite (allN (fun (i : Nat) => U.cont (bt a (↑(i + (1 : Nat)) : Int))) (a.size - (1 : Nat)) (0 : Nat)) (Tr.ite (decide (a.size ≤ (9223372036854775807 : Nat))) (Tr.ite (decide (a.size ≤ (9223372036854775807 : Nat))) (Tr.ite (decide ((0 : Int) ≤ b ∧ b ≤ (4 : Int) ∧ (bytesL a).length = (bytesL a).length ∧ (bytesL a).length ≤ (4 : Nat))) (Tr.ite (decide ((1 : Nat) ≤ (strOf v2).size ∧ (strOf v2).size ≤ (4 : Nat))) (Tr.ite (decide ((1 : Nat) ≤ (strOf v1).size ∧ (strOf v1).size ≤ (4 : Nat))) (Tr.ite (inB b (5 : Nat)) (Tr.ite (decide (U.rv (strOf v1) < [(0 : Int), (0 : Int), (128 : Int), (2048 : Int), (65536 : Int)].getD b.toNat (0 : Int))) (Tr.ret false) (Tr.ite (decide ((1114111 : Int) < U.rv (strOf v2))) (Tr.ret false) (Tr.ite (decide (U.rv (strOf v2) < (55296 : Int))) (Tr.ret true) (Tr.ret (decide ((57343 : Int) < U.rv (strOf v1))))))) Tr.fail) Tr.fail) Tr.fail) Tr.fail) Tr.fail) Tr.fail) (Tr.ret false)) Tr.fail)
def e134 (r : Bool) : FRes := { rs := Slot.av (AV.one (Leaf.dat Kd.bool r)), upd := [], new := [] }
@[reducible] def a134 : List AK := [AK.d Kd.str, AK.d (.int .i64)]
@[reducible] def b134 : List BK := []
theorem t134 (a : ByteArray) (b : Int) : evFn (E134) Tryd.f134 [PM.data Kd.bool] (akAV a134 (a, b, ())) (bkBs b134 ()) = (d134 a b).map e134 := by kernel_rfl
def s134 (C : akT a134 → Bool) (G : akT a134 → Bool) : FSpec := aspec a134 b134 e134 (fun x _ => C x) (fun x _ => G x)
theorem k134 {C : akT a134 → Bool} {G : akT a134 → Bool} (hd : ∀ (a : ByteArray) (b : Int), C (a, b, ()) = true → (d134 a b).val = some (G (a, b, ()))) (IO : ItOK Tryd.prog (E134) := by exact itOK_none rfl) (L : ∀ c, Tryd.f134.body = some c → LsOK (evI 2) ((E134).lend 0) c := by exact fun c _ => LsOK_none rfl c) : SpecOK Tryd.prog E0 134 (s134 C G) :=
  aspec_ok (ak := a134) (bl := b134) (e := e134) (c := fun x _ => C x) (g := fun x _ => G x) (E0 := E0) (E := E134) tab (.cons wk135 .nil) rfl rfl hm Tryd.func134 (by kernel_rfl) [PM.data Kd.bool] (fun X Y H => by obtain ⟨a, ⟨b, _⟩⟩ := X; exact val_of (t134 a b) (hd a b H)) IO L
end Go.Proofs.YtmnbcnhpklejcaaDoor
namespace U
def rng (lo hi fl : Int) : Bool := !(decide (hi < fl) || decide (1114111 < lo)) && (decide (lo < 55296) || decide (57343 < hi))
def floor (n : Nat) : Int := [(0 : Int), 0, 128, 2048, 65536].getD n 0
def beg (s : ByteArray) (n : Nat) : Bool := allN (fun i => cont (bt s ((i + 1 : Nat) : Int))) (s.size - 1) 0 &&
  rng (rv (strOf (Go.Proofs.YtmnbcnhpklejcaaDoor.fillTo (bytesL s) n 128))) (rv (strOf (Go.Proofs.YtmnbcnhpklejcaaDoor.fillTo (bytesL s) n 191))) (floor n)
end U
namespace Go.Proofs.YtmnbcnhpklejcaaDoor
abbrev w134 : FSpec := s134 (fun x => decide (1 ≤ ByteArray.size x.1 ∧ (ByteArray.size x.1 : Int) ≤ (x.2.1 : Int) ∧ 2 ≤ (x.2.1 : Int) ∧ (x.2.1 : Int) ≤ 4)) fun x => U.beg x.1 x.2.1.toNat
theorem bytesL_len (s : ByteArray) : (bytesL s).length = s.size := by unfold bytesL; rw [List.length_map]; rfl
theorem strOf_size (l : List Int) : (strOf l).size = l.length := by unfold strOf; simp [ByteArray.size]
theorem fillTo_len {l : List Int} {n : Nat} {c : Int} (h : l.length ≤ n) : (fillTo l n c).length = n := by simp [fillTo]; omega
theorem wk134 : SpecOK Tryd.prog E0 134 w134 := by
  refine k134 (fun s n H => ?_) (L := ls_ok (lcs := [lc Tryd.f134 0, lc Tryd.f134 1]) (rgs := []) (by kernel_rfl) (by kernel_rfl) ⟨L134_0, L134_1⟩ trivial)
  obtain ⟨h1, h2, h3, h4⟩ : 1 ≤ s.size ∧ (s.size : Int) ≤ n ∧ 2 ≤ n ∧ n ≤ 4 := of_decide_eq_true H
  obtain ⟨k, rfl⟩ := Int.eq_ofNat_of_zero_le (show 0 ≤ n by omega)
  show _ = some (U.beg s k)
  have hk : s.size ≤ k := by omega
  have hl : (bytesL s).length = s.size := bytesL_len s
  have f1 : (strOf (fillTo (bytesL s) k 128)).size = k := by rw [strOf_size, fillTo_len (by omega)]
  have f2 : (strOf (fillTo (bytesL s) k 191)).size = k := by rw [strOf_size, fillTo_len (by omega)]
  have a1 : decide ((k : Int) < (s.size : Int)) = false := decide_eq_false (by omega)
  have a2 : decide (1 ≤ s.size ∧ s.size ≤ 4 ∧ (1 : Int) = 1) = true := decide_eq_true ⟨h1, by omega, rfl⟩
  have a3 : decide (s.size ≤ 9223372036854775807) = true := decide_eq_true (by omega)
  have a4 : decide ((0 : Int) ≤ (k : Int) ∧ (k : Int) ≤ 4 ∧ (bytesL s).length = (bytesL s).length ∧ (bytesL s).length ≤ 4) = true := decide_eq_true ⟨by omega, by omega, rfl, by omega⟩
  have a5 : decide (1 ≤ k ∧ k ≤ 4) = true := decide_eq_true ⟨by omega, by omega⟩
  have i5 : inB (k : Int) 5 = true := inBi (by omega) (by omega)
  have hf : [(0 : Int), 0, 128, 2048, 65536].getD k 0 = U.floor k := rfl
  have h5 : s.size ≤ 4 := by omega
  have h6 : (bytesL s).length ≤ 4 := by omega
  have h7 : (0 : Int) ≤ (k : Int) := by omega
  simp only [d134, Tr.val, Int.toNat_natCast, f1, f2, a1, a3, a5, i5, hf, h1, h4, h5, h6, h7, and_self, decide_true, cond_true, cond_false]
  unfold U.beg U.rng
  cases allN (fun i => U.cont (bt s ((i + 1 : Nat) : Int))) (s.size - 1) 0 <;> cases decide (U.rv (strOf (fillTo (bytesL s) k 191)) < U.floor k) <;> cases decide (1114111 < U.rv (strOf (fillTo (bytesL s) k 128))) <;>
    cases decide (U.rv (strOf (fillTo (bytesL s) k 128)) < 55296) <;> rfl
abbrev G83 : List (Nat × FSpec) := [(133, w133), (134, w134), (135, w135)]
def live83 (key : Nat) : Lv :=
  bif Nat.beq key 7 then { ls := [0, 2, 3, 4] } else bif Nat.beq key 1007 then { ls := [0, 2, 3, 4] } else
  { ls := [] }
abbrev M83 (ls : Nat → VS → Option (Tr (Ex × VS))) : Env := (E0.withFns G83).loops live83 ls
@[reducible] def p83_0 : LP := { n := 50, sl := [.d (Kd.str), .c (Leaf.ptr ( 0) ( 0)), .d (.int .i64), .d (.int .i64)], bl := [(0, .box [.d (Kd.int IntKind.i32), .d (.int .i64), .d (.int .i64)])] }
def B83_0 (x0 : ByteArray) (x2 : Int) (x3 : Int) (h0_0 : Int) (h0_1 : Int) (h0_2 : Int) : Tr (p83_0.T ⊕ (ByteArray × Int × Int × Int × Int × Int)) :=
 let v1 : Int := (x3 + (1 : Int))
 let v2 : ByteArray := (x0.extract (0 : Nat) (IntKind.i64.wrap v1).toNat)
 Tr.ite (decide (x3 < x2)) (Tr.ite (decide (x3 < (↑x0.size : Int))) (Tr.ite (decide ((0 : Int) ≤ IntKind.i64.wrap v1 ∧ IntKind.i64.wrap v1 ≤ (↑x0.size : Int))) (Tr.ite (decide ((1 : Nat) ≤ v2.size ∧ (↑v2.size : Int) ≤ x2 ∧ (2 : Int) ≤ x2 ∧ x2 ≤ (4 : Int))) (Tr.ite (U.beg v2 x2.toNat) (Tr.ret (Sum.inl ((x0, x2, IntKind.i64.wrap v1, ()), (h0_0, h0_1, h0_2, ()), ()))) (Tr.ret (Sum.inr (x0, x2, x3, h0_0, h0_1, h0_2)))) Tr.fail) Tr.fail) (Tr.ret (Sum.inr (x0, x2, x3, h0_0, h0_1, h0_2)))) (Tr.ret (Sum.inr (x0, x2, x3, h0_0, h0_1, h0_2)))
def X83_0 (r : (ByteArray × Int × Int × Int × Int × Int)) : Ex × VS := Prod.mk (Ex.exit ( 0)) { n := 50, v := [Slot.av (AV.one (Leaf.dat Kd.str r.fst)), Slot.av (AV.one (Leaf.ptr ( 0) ( 0))), Slot.av (AV.one (Leaf.dat (.int .i64) r.snd.fst)), Slot.av (AV.one (Leaf.dat (.int .i64) r.snd.snd.fst))], h := [( 0, Blk.box [Leaf.dat (Kd.int IntKind.i32) r.snd.snd.snd.fst, Leaf.dat (.int .i64) r.snd.snd.snd.snd.fst, Leaf.dat (.int .i64) r.snd.snd.snd.snd.snd])] }
def b83_0 : p83_0.T → Tr (p83_0.T ⊕ (ByteArray × Int × Int × Int × Int × Int)) := fun ⟨⟨x0, ⟨x2, ⟨x3, _⟩⟩⟩, ⟨⟨h0_0, ⟨h0_1, ⟨h0_2, _⟩⟩⟩, _⟩⟩ => B83_0 x0 x2 x3 h0_0 h0_1 h0_2
theorem h83_0 (ls : Nat → VS → Option (Tr (Ex × VS))) (x : p83_0.T) : (evC (evI 2) (lc Tryd.f83 0) (Env.lend (M83 ls) 0) (unV (live83 7) (p83_0.V x))).map (decL 0 (live83 7) (live83 1007)) = (b83_0 x).map (encR p83_0.V X83_0) := by
  obtain ⟨⟨x0, ⟨x2, ⟨x3, _⟩⟩⟩, ⟨⟨h0_0, ⟨h0_1, ⟨h0_2, _⟩⟩⟩, _⟩⟩ := x; kernel_rfl
theorem c83_0 (x : p83_0.T) : canV 0 (live83 7) (unV (live83 7) (p83_0.V x)) = p83_0.V x := by
  obtain ⟨⟨x0, ⟨x2, ⟨x3, _⟩⟩⟩, ⟨⟨h0_0, ⟨h0_1, ⟨h0_2, _⟩⟩⟩, _⟩⟩ := x; kernel_rfl
theorem l83_0 {T : p83_0.T → Tr (ByteArray × Int × Int × Int × Int × Int)} {ls : Nat → VS → Option (Tr (Ex × VS))} (hls : ∀ x, (Env.lend (M83 ls) 0).ls 7 x = p83_0.ls (fun a => (T a).map X83_0) x) (hS : ∀ x r, (T x).val = some r → Rounds b83_0 x r) : LoopOK (evI 2) (Env.lend (M83 ls) 0) (lc Tryd.f83 0) :=
  loopA 7 (live83 7) (live83 1007) p83_0 b83_0 X83_0 T (by kernel_rfl) rfl rfl hls (h83_0 ls) c83_0 hS
end Go.Proofs.YtmnbcnhpklejcaaDoor
namespace U
def pref (s : ByteArray) (n : Nat) : Nat → Nat → Nat
  | 0, k => k
  | f + 1, k => bif decide (k < s.size) && beg (s.extract 0 (k + 1)) n then pref s n f (k + 1) else k
def firstR (s : ByteArray) : Int × Int × Int :=
  if s.size = 0 then (0, 0, 2) else if need (bt s 0) = 0 then (0, 1, 4) else
  let n := (need (bt s 0)).toNat
  let k := pref s n (n - 1) 1
  if k = n then (rv (s.extract 0 n), (n : Int), 0) else if k = s.size then (0, 0, 2) else (0, (k : Int), 4)
end U
namespace Go.Proofs.YtmnbcnhpklejcaaDoor
def T83 (x : p83_0.T) : Tr (ByteArray × Int × Int × Int × Int × Int) :=
  .ite (decide (1 ≤ (x.1.2.1 : Int) ∧ (x.1.2.1 : Int) ≤ 4 ∧ (x.1.2.2.1 : Int) = 1 ∧ 1 ≤ ByteArray.size x.1.1))
    (.ret (x.1.1, x.1.2.1, ((U.pref x.1.1 (Int.toNat x.1.2.1) (Int.toNat x.1.2.1 - 1) 1 : Nat) : Int), x.2.1.1, x.2.1.2.1, x.2.1.2.2.1)) .fail
theorem r83 (s : ByteArray) (n : Nat) (h0 h1 h2 : Int) (hn : n ≤ 4) : ∀ (f k : Nat), k + f = n → 1 ≤ k → k ≤ s.size → Rounds b83_0 ((s, (n : Int), (k : Int), ()), (h0, h1, h2, ()), ()) (s, (n : Int), ((U.pref s n f k : Nat) : Int), h0, h1, h2)
  | 0, k, h3, h4, h5 => by
    refine .exit ?_
    simp only [b83_0, B83_0, Tr.val, show ¬ ((k : Int) < (n : Int)) by omega, decide_false, cond_false, U.pref]
  | f + 1, k, h3, h4, h5 => by
    have w : IntKind.i64.wrap ((k : Int) + 1) = ((k + 1 : Nat) : Int) := wrap64_nat (by omega)
    simp only [U.pref]
    by_cases c1 : k < s.size
    · have hsz : (s.extract 0 (k + 1)).size = k + 1 := U.size_pre (by omega)
      cases c2 : U.beg (s.extract 0 (k + 1)) n with
      | true =>
        rw [decide_eq_true c1, Bool.and_self, cond_true]
        refine .step ?_ (r83 s n h0 h1 h2 hn f (k + 1) (by omega) (by omega) (by omega))
        simp only [b83_0, B83_0, Tr.val, w, Int.toNat_natCast, hsz, c2, show ((k : Int) < (n : Int)) by omega, show ((k : Int) < (s.size : Int)) by omega, show ((0 : Int) ≤ ((k + 1 : Nat) : Int)) by omega, show (((k + 1 : Nat) : Int) ≤ (s.size : Int)) by omega,
          show 1 ≤ k + 1 by omega, show (((k + 1 : Nat) : Int) ≤ (n : Int)) by omega, show ((2 : Int) ≤ (n : Int)) by omega, show ((n : Int) ≤ 4) by omega, and_self, decide_true, cond_true]
      | false =>
        rw [Bool.and_false, cond_false]
        refine .exit ?_
        simp only [b83_0, B83_0, Tr.val, w, Int.toNat_natCast, hsz, c2, show ((k : Int) < (n : Int)) by omega, show ((k : Int) < (s.size : Int)) by omega, show ((0 : Int) ≤ ((k + 1 : Nat) : Int)) by omega, show (((k + 1 : Nat) : Int) ≤ (s.size : Int)) by omega,
          show 1 ≤ k + 1 by omega, show (((k + 1 : Nat) : Int) ≤ (n : Int)) by omega, show ((2 : Int) ≤ (n : Int)) by omega, show ((n : Int) ≤ 4) by omega, and_self, decide_true, cond_true, cond_false]
    · rw [decide_eq_false c1, Bool.false_and, cond_false]
      refine .exit ?_
      simp only [b83_0, B83_0, Tr.val, show ((k : Int) < (n : Int)) by omega, show ¬ ((k : Int) < (s.size : Int)) by omega, decide_true, decide_false, cond_true, cond_false]
abbrev E83 : Env := M83 fun key x => bif Nat.beq key 7 then p83_0.ls (fun a => (T83 a).map X83_0) x else none
theorem L83 : LoopOK (evI 2) (E83.lend 0) (lc Tryd.f83 0) := by
  refine l83_0 (T := T83) (fun x => rfl) ?_
  rintro ⟨⟨s, n, k, z⟩, ⟨h0, h1, h2, z1⟩, z2⟩ r h
  obtain ⟨g1, g2⟩ := pre_val h
  obtain ⟨e1, e2, e3, e4⟩ := of_decide_eq_true g1
  dsimp only at e1 e2 e3 e4 g2
  subst e3
  cases g2
  obtain ⟨m, rfl⟩ := Int.eq_ofNat_of_zero_le (show (0 : Int) ≤ n from Int.le_trans (by omega) e1)
  have e1 : 1 ≤ m := Int.ofNat_le.1 e1
  have e2 : m ≤ 4 := Int.ofNat_le.1 e2
  exact r83 s m h0 h1 h2 e2 (m - 1) 1 (by omega) (by omega) e4
@[reducible] def fstk : Kd := .pr (.int .i32) (.pr (.int .i64) (.pr (.int .i64) .un))
def d83 (a : ByteArray) : Tr (Int × Int × Int) :=
 let v1 : Int := (bt a (0 : Int))
 let v2 : ByteArray := (a.extract (0 : Nat) (U.need v1).toNat)
 let v3 : Int := ((↑(U.pref a (U.need v1).toNat ((U.need v1).toNat - (1 : Nat)) (1 : Nat)) : Int))
 Tr.ite (decide ((↑a.size : Int) = (0 : Int))) (Tr.ret ((0 : Int), (0 : Int), (2 : Int))) (Tr.ite (inB (0 : Int) a.size) (Tr.ite (decide (U.need v1 = (0 : Int))) (Tr.ret ((0 : Int), (1 : Int), (4 : Int))) (Tr.ite (decide ((1 : Int) ≤ U.need v1 ∧ U.need v1 ≤ (4 : Int) ∧ (1 : Int) = (1 : Int) ∧ (1 : Nat) ≤ a.size)) (Tr.ite (decide (v3 = U.need v1)) (Tr.ite (decide ((0 : Int) ≤ U.need v1 ∧ U.need v1 ≤ (↑a.size : Int))) (Tr.ite (decide ((1 : Nat) ≤ v2.size ∧ v2.size ≤ (4 : Nat))) (Tr.ret (U.rv v2, U.need v1, (0 : Int))) Tr.fail) Tr.fail) (Tr.ite (decide (v3 = (↑a.size : Int))) (Tr.ret ((0 : Int), (0 : Int), (2 : Int))) (Tr.ret ((0 : Int), v3, (4 : Int))))) Tr.fail)) Tr.fail)
def e83 (r : Int × Int × Int) : FRes := { rs := Slot.av (AV.agg [Leaf.dat (Kd.int IntKind.i32) r.fst, Leaf.dat (.int .i64) r.snd.fst, Leaf.dat (.int .i64) r.snd.snd]), upd := [], new := [] }
@[reducible] def a83 : List AK := [AK.d Kd.str]
@[reducible] def b83 : List BK := []
theorem t83 (a : ByteArray) : evFn (E83) Tryd.f83 [PM.data fstk] (akAV a83 (a, ())) (bkBs b83 ()) = (d83 a).map e83 := by kernel_rfl
def s83 (C : akT a83 → Bool) (G : akT a83 → Int × Int × Int) : FSpec := aspec a83 b83 e83 (fun x _ => C x) (fun x _ => G x)
theorem k83 {C : akT a83 → Bool} {G : akT a83 → Int × Int × Int} (hd : ∀ (a : ByteArray), C (a, ()) = true → (d83 a).val = some (G (a, ()))) (IO : ItOK Tryd.prog (E83) := by exact itOK_none rfl) (L : ∀ c, Tryd.f83.body = some c → LsOK (evI 2) ((E83).lend 0) c := by exact fun c _ => LsOK_none rfl c) : SpecOK Tryd.prog E0 83 (s83 C G) :=
  aspec_ok (ak := a83) (bl := b83) (e := e83) (c := fun x _ => C x) (g := fun x _ => G x) (E0 := E0) (E := E83) tab (.cons wk133 (.cons wk134 (.cons wk135 .nil))) rfl rfl hm Tryd.func83 (by kernel_rfl) [PM.data fstk] (fun X Y H => by obtain ⟨a, _⟩ := X; exact val_of (t83 a) (hd a H)) IO L
abbrev w83 : FSpec := s83 (fun x => decide (ByteArray.size x.1 ≤ 1048576)) fun x => U.firstR x.1
theorem pref_le (s : ByteArray) (n : Nat) : ∀ f k, k ≤ s.size → U.pref s n f k ≤ s.size
  | 0, k, h => h
  | f + 1, k, h => by
    simp only [U.pref]
    by_cases c : k < s.size
    · have := pref_le s n f (k + 1) (by omega)
      cases U.beg (s.extract 0 (k + 1)) n <;> simp only [decide_eq_true c, Bool.and_true, Bool.and_false, cond_true, cond_false] <;> omega
    · simp only [decide_eq_false c, Bool.false_and, cond_false]; omega
theorem wk83 : SpecOK Tryd.prog E0 83 w83 := by
  refine k83 (fun s H => ?_) (L := ls_ok (lcs := [lc Tryd.f83 0]) (rgs := []) (by kernel_rfl) (by kernel_rfl) L83 trivial)
  have h0 : s.size ≤ 1048576 := of_decide_eq_true H
  show _ = some (U.firstR s)
  unfold U.firstR
  by_cases h1 : s.size = 0
  · have hd : decide ((s.size : Int) = 0) = true := decide_eq_true (by omega)
    simp only [d83, Tr.val, hd, cond_true, if_pos h1]
  · have i0 : inB 0 s.size = true := inBi (by omega) (by omega)
    have hN := U.need_cases (bt s 0)
    by_cases h2 : U.need (bt s 0) = 0
    · have hd : decide ((s.size : Int) = 0) = false := decide_eq_false (by omega)
      simp only [d83, Tr.val, hd, i0, h2, decide_true, cond_true, cond_false, if_neg h1, if_true]
    · obtain ⟨n, hn⟩ : ∃ n : Nat, U.need (bt s 0) = (n : Int) := Int.eq_ofNat_of_zero_le (by omega)
      have hn1 : 1 ≤ n ∧ n ≤ 4 := by omega
      have hd : decide ((s.size : Int) = 0) = false := decide_eq_false (by omega)
      have hd2 : decide ((n : Int) = 0) = false := decide_eq_false (by omega)
      have hd3 : ((1 : Int) ≤ (n : Int)) := by omega
      have hd4 : ((n : Int) ≤ 4) := by omega
      have hd5 : 1 ≤ s.size := by omega
      rw [hn] at h2
      simp only [d83, Tr.val, hd, i0, hn, hd2, hd3, hd4, hd5, Int.toNat_natCast, decide_true, and_self, cond_true, cond_false, if_neg h1, if_neg h2]
      by_cases h3 : U.pref s n (n - 1) 1 = n
      · have h4 := pref_le s n (n - 1) 1 hd5
        have hsz : (s.extract 0 n).size = n := U.size_pre (by omega)
        have hd6 : ((n : Int) ≤ (s.size : Int)) := by omega
        have hd7 : ((0 : Int) ≤ (n : Int)) := by omega
        simp only [h3, hsz, hd6, hd7, hn1.1, hn1.2, decide_true, and_self, cond_true, if_true]
      · have hd8 : decide (((U.pref s n (n - 1) 1 : Nat) : Int) = (n : Int)) = false := decide_eq_false (by omega)
        by_cases h4 : U.pref s n (n - 1) 1 = s.size
        · have hd9 : decide (((U.pref s n (n - 1) 1 : Nat) : Int) = (s.size : Int)) = true := decide_eq_true (by omega)
          simp only [hd8, hd9, cond_true, cond_false, if_neg h3, if_pos h4]
        · have hd9 : decide (((U.pref s n (n - 1) 1 : Nat) : Int) = (s.size : Int)) = false := decide_eq_false (by omega)
          simp only [hd8, hd9, cond_false, if_neg h3, if_neg h4]
end Go.Proofs.YtmnbcnhpklejcaaDoor
end
section
set_option linter.unusedVariables false
set_option linter.unusedSimpArgs false
set_option maxRecDepth 20000
open Go Go.Ev
namespace U
open Go.Proofs.YtmnbcnhpklejcaaDoor
theorem bt_strOf {l : List Int} (h : ∀ x ∈ l, 0 ≤ x ∧ x ≤ 255) {i : Nat} (hi : i < l.length) : bt (strOf l) (i : Int) = l.getD i 0 := by
  rw [bt_eq (by omega)]
  have e : bl (strOf l) = l.map fun n => UInt8.ofNat n.toNat := by unfold strOf; rw [bl_mk]
  obtain ⟨h0, h1⟩ := h l[i] (List.getElem_mem hi)
  rw [e, Int.toNat_natCast, getD_el (by simpa using hi), List.getElem_map, getD_el hi]
  show ((UInt8.ofNat l[i].toNat).toNat : Int) = l[i]
  rw [UInt8.toNat_ofNat']
  have : l[i].toNat % 2 ^ 8 = l[i].toNat := Nat.mod_eq_of_lt (by omega)
  rw [this]
  omega
theorem bytesL_at {s : ByteArray} {i : Nat} (hi : i < s.size) : (bytesL s).getD i 0 = bt s (i : Int) := by
  have h2 : i < s.data.toList.length := by
    have := bl_len s
    unfold bl at this
    omega
  rw [bt_eq (by omega), Int.toNat_natCast]
  unfold bytesL bl
  rw [List.getD_eq_getElem?_getD, List.getD_eq_getElem?_getD, List.getElem?_map, List.getElem?_eq_getElem h2]
  rfl
theorem bytesL_in {s : ByteArray} : ∀ x ∈ bytesL s, 0 ≤ x ∧ x ≤ 255 := by
  intro x hx
  unfold bytesL at hx
  obtain ⟨b, _, rfl⟩ := List.mem_map.1 hx
  have := UInt8.toNat_lt b
  omega
theorem fill_at {s : ByteArray} {n : Nat} {c : Int} (hc : 0 ≤ c ∧ c ≤ 255) (hs : s.size ≤ n) {i : Nat} (hi : i < n) : bt (strOf (fillTo (bytesL s) n c)) (i : Int) = if i < s.size then bt s (i : Int) else c := by
  have hl : (bytesL s).length = s.size := Ev.bytesL_len
  rw [bt_strOf (fun x hx => ?_) (by rw [fillTo_len (by omega)]; exact hi)]
  · unfold fillTo
    by_cases h : i < s.size
    · rw [if_pos h, ← bytesL_at h, List.getD_eq_getElem?_getD, List.getD_eq_getElem?_getD, List.getElem?_append_left (by omega)]
    · rw [if_neg h, List.getD_eq_getElem?_getD, List.getElem?_append_right (by omega), List.getElem?_replicate, if_pos (by omega)]
      rfl
  · rcases List.mem_append.1 hx with hx | hx
    · exact bytesL_in x hx
    · rw [List.eq_of_mem_replicate hx]; exact hc
theorem fill_size {s : ByteArray} {n : Nat} {c : Int} (hs : s.size ≤ n) : (strOf (fillTo (bytesL s) n c)).size = n := by
  rw [strOf_size, fillTo_len (by rw [Ev.bytesL_len]; exact hs)]
theorem rv2 {s : ByteArray} (h : s.size = 2) : rv s = if cont (bt s (1 : Nat)) = true then 64 * (bt s 0 - 192) + bt s (1 : Nat) - 128 else -1 := by
  unfold rv vL
  rw [h, if_neg (by omega)]
  simp only [vl, head, List.getD, show (2 : Nat) - 1 = 0 + 1 from rfl]
  by_cases h1 : cont (bt s (1 : Nat)) = true <;> simp_all
theorem rv3 {s : ByteArray} (h : s.size = 3) : rv s = if cont (bt s (1 : Nat)) = true ∧ cont (bt s (2 : Nat)) = true then 64 * (64 * (bt s 0 - 224) + bt s (1 : Nat) - 128) + bt s (2 : Nat) - 128 else -1 := by
  unfold rv vL
  rw [h, if_neg (by omega)]
  simp only [vl, head, List.getD, show (3 : Nat) - 1 = 0 + 1 + 1 from rfl]
  by_cases h1 : cont (bt s (1 : Nat)) = true <;> by_cases h2 : cont (bt s (2 : Nat)) = true <;> simp_all
theorem rv4 {s : ByteArray} (h : s.size = 4) : rv s = if cont (bt s (1 : Nat)) = true ∧ cont (bt s (2 : Nat)) = true ∧ cont (bt s (3 : Nat)) = true then 64 * (64 * (64 * (bt s 0 - 240) + bt s (1 : Nat) - 128) + bt s (2 : Nat) - 128) + bt s (3 : Nat) - 128 else -1 := by
  unfold rv vL
  rw [h, if_neg (by omega)]
  simp only [vl, head, List.getD, show (4 : Nat) - 1 = 0 + 1 + 1 + 1 from rfl]
  by_cases h1 : cont (bt s (1 : Nat)) = true <;> by_cases h2 : cont (bt s (2 : Nat)) = true <;> by_cases h3 : cont (bt s (3 : Nat)) = true <;> simp_all
theorem cont_iff {c : Int} : cont c = true ↔ 128 ≤ c ∧ c ≤ 191 := by simp [cont]
theorem beg2 {s : ByteArray} {n : Nat} (hn : need (bt s 0) = n) (h2 : 2 ≤ n) (hs : 2 ≤ s.size) : beg (s.extract 0 2) n = ok1 s := by
  have hz : (s.extract 0 2).size = 2 := size_pre hs
  have t0 : bt (s.extract 0 2) 0 = bt s 0 := bt_pre (i := 0) (by omega) hs
  have t1 : bt (s.extract 0 2) (1 : Nat) = bt s (1 : Nat) := bt_pre (i := 1) (by omega) hs
  have F : ∀ (c : Int), 0 ≤ c ∧ c ≤ 255 → ∀ i, i < n → bt (strOf (fillTo (bytesL (s.extract 0 2)) n c)) (i : Nat) = if i < 2 then bt (s.extract 0 2) (i : Nat) else c := fun c hc i hi => by
    rw [fill_at hc (by omega) hi, hz]
  have Z : ∀ c, (strOf (fillTo (bytesL (s.extract 0 2)) n c)).size = n := fun c => fill_size (by omega)
  have b1 := bt_ge s (1 : Nat)
  have b2 := bt_lt s (1 : Nat)
  have hN := need_cases (bt s 0)
  have e1 : bt s 1 = bt s (1 : Nat) := rfl
  unfold beg ok1
  rw [hz, e1]
  have ha : allN (fun i => cont (bt (s.extract 0 2) ((i + 1 : Nat) : Int))) (2 - 1) 0 = cont (bt s (1 : Nat)) := by
    show (cont (bt (s.extract 0 2) ((0 + 1 : Nat) : Int)) && true) = _
    rw [Bool.and_true]
    exact congrArg cont t1
  rw [ha]
  have hc8 : cont 128 = true := by decide
  have hc9 : cont 191 = true := by decide
  have f0 : ∀ c, 0 ≤ c ∧ c ≤ 255 → bt (strOf (fillTo (bytesL (s.extract 0 2)) n c)) 0 = bt s 0 := fun c hc => (F c hc 0 (by omega)).trans (by rw [if_pos (by omega)]; exact t0)
  have f1 : ∀ c, 0 ≤ c ∧ c ≤ 255 → bt (strOf (fillTo (bytesL (s.extract 0 2)) n c)) (1 : Nat) = bt s (1 : Nat) := fun c hc => (F c hc 1 (by omega)).trans (by rw [if_pos (by omega)]; exact t1)
  have f2 : ∀ c, 0 ≤ c ∧ c ≤ 255 → 3 ≤ n → bt (strOf (fillTo (bytesL (s.extract 0 2)) n c)) (2 : Nat) = c := fun c hc h => (F c hc 2 (by omega)).trans (by rw [if_neg (by omega)])
  have f3 : ∀ c, 0 ≤ c ∧ c ≤ 255 → 4 ≤ n → bt (strOf (fillTo (bytesL (s.extract 0 2)) n c)) (3 : Nat) = c := fun c hc h => (F c hc 3 (by omega)).trans (by rw [if_neg (by omega)])
  cases hcb : cont (bt s (1 : Nat)) with
  | false =>
    have h1 := lo_ge (bt s 0)
    have h2 := hi_le (bt s 0)
    have : ¬ (128 ≤ bt s (1 : Nat) ∧ bt s (1 : Nat) ≤ 191) := fun h => by rw [cont_iff.2 h] at hcb; cases hcb
    rw [Bool.false_and, eq_comm, Bool.and_eq_false_iff, decide_eq_false_iff_not, decide_eq_false_iff_not]
    omega
  | true =>
    have h1 := cont_iff.1 hcb
    rw [Bool.true_and]
    have hn3 : n = 2 ∨ n = 3 ∨ n = 4 := by omega
    rcases hn3 with rfl | rfl | rfl
    · rw [rv2 (Z 128), rv2 (Z 191), f0 _ (by omega), f0 _ (by omega), f1 _ (by omega), f1 _ (by omega), if_pos hcb]
      rw [Bool.eq_iff_iff, show floor 2 = 128 from rfl]
      simp only [rng, lo, hi, Bool.and_eq_true, Bool.not_eq_true', Bool.or_eq_false_iff, decide_eq_false_iff_not, decide_eq_true_eq, Bool.or_eq_true]
      repeat' split
      all_goals simp only [decide_eq_true_eq]
      all_goals omega
    · rw [rv3 (Z 128), rv3 (Z 191), f0 _ (by omega), f0 _ (by omega), f1 _ (by omega), f1 _ (by omega), f2 _ (by omega) (by omega), f2 _ (by omega) (by omega), if_pos ⟨hcb, hc8⟩, if_pos ⟨hcb, hc9⟩]
      rw [Bool.eq_iff_iff, show floor 3 = 2048 from rfl]
      simp only [rng, lo, hi, Bool.and_eq_true, Bool.not_eq_true', Bool.or_eq_false_iff, decide_eq_false_iff_not, decide_eq_true_eq, Bool.or_eq_true]
      repeat' split
      all_goals simp only [decide_eq_true_eq]
      all_goals omega
    · rw [rv4 (Z 128), rv4 (Z 191), f0 _ (by omega), f0 _ (by omega), f1 _ (by omega), f1 _ (by omega), f2 _ (by omega) (by omega), f2 _ (by omega) (by omega), f3 _ (by omega) (by omega), f3 _ (by omega) (by omega), if_pos ⟨hcb, hc8, hc8⟩, if_pos ⟨hcb, hc9, hc9⟩]
      rw [Bool.eq_iff_iff, show floor 4 = 65536 from rfl]
      simp only [rng, lo, hi, Bool.and_eq_true, Bool.not_eq_true', Bool.or_eq_false_iff, decide_eq_false_iff_not, decide_eq_true_eq, Bool.or_eq_true]
      repeat' split
      all_goals simp only [decide_eq_true_eq]
      all_goals omega
theorem beg3 {s : ByteArray} {n : Nat} (hn : need (bt s 0) = n) (h2 : 3 ≤ n) (hs : 3 ≤ s.size) (ho : ok1 s = true) : beg (s.extract 0 3) n = cont (bt s (2 : Nat)) := by
  have hz : (s.extract 0 3).size = 3 := size_pre hs
  have t0 : bt (s.extract 0 3) 0 = bt s 0 := bt_pre (i := 0) (by omega) hs
  have t1 : bt (s.extract 0 3) (1 : Nat) = bt s (1 : Nat) := bt_pre (i := 1) (by omega) hs
  have t2 : bt (s.extract 0 3) (2 : Nat) = bt s (2 : Nat) := bt_pre (i := 2) (by omega) hs
  have F : ∀ (c : Int), 0 ≤ c ∧ c ≤ 255 → ∀ i, i < n → bt (strOf (fillTo (bytesL (s.extract 0 3)) n c)) (i : Nat) = if i < 3 then bt (s.extract 0 3) (i : Nat) else c := fun c hc i hi => by
    rw [fill_at hc (by omega) hi, hz]
  have Z : ∀ c, (strOf (fillTo (bytesL (s.extract 0 3)) n c)).size = n := fun c => fill_size (by omega)
  have hN := need_cases (bt s 0)
  have b3 := bt_ge s (2 : Nat)
  have hl := lo_ge (bt s 0)
  have hh := hi_le (bt s 0)
  unfold ok1 at ho
  simp only [Bool.and_eq_true, decide_eq_true_eq] at ho
  have e1 : bt s 1 = bt s (1 : Nat) := rfl
  rw [e1] at ho
  have hcb : cont (bt s (1 : Nat)) = true := cont_iff.2 (by omega)
  unfold beg
  rw [hz]
  have ha : allN (fun i => cont (bt (s.extract 0 3) ((i + 1 : Nat) : Int))) (3 - 1) 0 = cont (bt s (2 : Nat)) := by
    show (cont (bt (s.extract 0 3) ((0 + 1 : Nat) : Int)) && (cont (bt (s.extract 0 3) ((1 + 1 : Nat) : Int)) && true)) = _
    rw [Bool.and_true, show cont (bt (s.extract 0 3) ((0 + 1 : Nat) : Int)) = true from (congrArg cont t1).trans hcb, Bool.true_and]
    exact congrArg cont t2
  rw [ha]
  have hc8 : cont 128 = true := by decide
  have hc9 : cont 191 = true := by decide
  have f0 : ∀ c, 0 ≤ c ∧ c ≤ 255 → bt (strOf (fillTo (bytesL (s.extract 0 3)) n c)) 0 = bt s 0 := fun c hc => (F c hc 0 (by omega)).trans (by rw [if_pos (by omega)]; exact t0)
  have f1 : ∀ c, 0 ≤ c ∧ c ≤ 255 → bt (strOf (fillTo (bytesL (s.extract 0 3)) n c)) (1 : Nat) = bt s (1 : Nat) := fun c hc => (F c hc 1 (by omega)).trans (by rw [if_pos (by omega)]; exact t1)
  have f2 : ∀ c, 0 ≤ c ∧ c ≤ 255 → bt (strOf (fillTo (bytesL (s.extract 0 3)) n c)) (2 : Nat) = bt s (2 : Nat) := fun c hc => (F c hc 2 (by omega)).trans (by rw [if_pos (by omega)]; exact t2)
  have f3 : ∀ c, 0 ≤ c ∧ c ≤ 255 → 4 ≤ n → bt (strOf (fillTo (bytesL (s.extract 0 3)) n c)) (3 : Nat) = c := fun c hc h => (F c hc 3 (by omega)).trans (by rw [if_neg (by omega)])
  cases hcb2 : cont (bt s (2 : Nat)) with
  | false => rfl
  | true =>
    have h1 := cont_iff.1 hcb2
    rw [Bool.true_and]
    have hn3 : n = 3 ∨ n = 4 := by omega
    rcases hn3 with rfl | rfl
    · rw [rv3 (Z 128), rv3 (Z 191), f0 _ (by omega), f0 _ (by omega), f1 _ (by omega), f1 _ (by omega), f2 _ (by omega), f2 _ (by omega), if_pos ⟨hcb, hcb2⟩]
      simp only [rng, show floor 3 = 2048 from rfl, Bool.and_eq_true, Bool.not_eq_true', Bool.or_eq_false_iff, decide_eq_false_iff_not, decide_eq_true_eq, Bool.or_eq_true]
      unfold lo hi at ho
      repeat' split at ho
      all_goals omega
    · rw [rv4 (Z 128), rv4 (Z 191), f0 _ (by omega), f0 _ (by omega), f1 _ (by omega), f1 _ (by omega), f2 _ (by omega), f2 _ (by omega), f3 _ (by omega) (by omega), f3 _ (by omega) (by omega), if_pos ⟨hcb, hcb2, hc8⟩, if_pos ⟨hcb, hcb2, hc9⟩]
      simp only [rng, show floor 4 = 65536 from rfl, Bool.and_eq_true, Bool.not_eq_true', Bool.or_eq_false_iff, decide_eq_false_iff_not, decide_eq_true_eq, Bool.or_eq_true]
      unfold lo hi at ho
      repeat' split at ho
      all_goals omega
theorem beg4 {s : ByteArray} (hn : need (bt s 0) = 4) (hs : 4 ≤ s.size) (ho : ok1 s = true) (hc : cont (bt s (2 : Nat)) = true) : beg (s.extract 0 4) 4 = cont (bt s (3 : Nat)) := by
  have hz : (s.extract 0 4).size = 4 := size_pre hs
  have t0 : bt (s.extract 0 4) 0 = bt s 0 := bt_pre (i := 0) (by omega) hs
  have t1 : bt (s.extract 0 4) (1 : Nat) = bt s (1 : Nat) := bt_pre (i := 1) (by omega) hs
  have t2 : bt (s.extract 0 4) (2 : Nat) = bt s (2 : Nat) := bt_pre (i := 2) (by omega) hs
  have t3 : bt (s.extract 0 4) (3 : Nat) = bt s (3 : Nat) := bt_pre (i := 3) (by omega) hs
  have F : ∀ (c : Int), 0 ≤ c ∧ c ≤ 255 → ∀ i, i < 4 → bt (strOf (fillTo (bytesL (s.extract 0 4)) 4 c)) (i : Nat) = bt (s.extract 0 4) (i : Nat) := fun c hc i hi => by
    rw [fill_at hc (by omega) hi, hz, if_pos hi]
  have Z : ∀ c, (strOf (fillTo (bytesL (s.extract 0 4)) 4 c)).size = 4 := fun c => fill_size (by omega)
  have hN := need_cases (bt s 0)
  have hl := lo_ge (bt s 0)
  have hh := hi_le (bt s 0)
  unfold ok1 at ho
  simp only [Bool.and_eq_true, decide_eq_true_eq] at ho
  have e1 : bt s 1 = bt s (1 : Nat) := rfl
  rw [e1] at ho
  have hcb : cont (bt s (1 : Nat)) = true := cont_iff.2 (by omega)
  unfold beg
  rw [hz]
  have ha : allN (fun i => cont (bt (s.extract 0 4) ((i + 1 : Nat) : Int))) (4 - 1) 0 = cont (bt s (3 : Nat)) := by
    show (cont (bt (s.extract 0 4) ((0 + 1 : Nat) : Int)) && (cont (bt (s.extract 0 4) ((1 + 1 : Nat) : Int)) && (cont (bt (s.extract 0 4) ((2 + 1 : Nat) : Int)) && true))) = _
    rw [Bool.and_true, show cont (bt (s.extract 0 4) ((0 + 1 : Nat) : Int)) = true from (congrArg cont t1).trans hcb, show cont (bt (s.extract 0 4) ((1 + 1 : Nat) : Int)) = true from (congrArg cont t2).trans hc, Bool.true_and, Bool.true_and]
    exact congrArg cont t3
  rw [ha]
  have f0 : ∀ c, 0 ≤ c ∧ c ≤ 255 → bt (strOf (fillTo (bytesL (s.extract 0 4)) 4 c)) 0 = bt s 0 := fun c hc => (F c hc 0 (by omega)).trans t0
  have f1 : ∀ c, 0 ≤ c ∧ c ≤ 255 → bt (strOf (fillTo (bytesL (s.extract 0 4)) 4 c)) (1 : Nat) = bt s (1 : Nat) := fun c hc => (F c hc 1 (by omega)).trans t1
  have f2 : ∀ c, 0 ≤ c ∧ c ≤ 255 → bt (strOf (fillTo (bytesL (s.extract 0 4)) 4 c)) (2 : Nat) = bt s (2 : Nat) := fun c hc => (F c hc 2 (by omega)).trans t2
  have f3 : ∀ c, 0 ≤ c ∧ c ≤ 255 → bt (strOf (fillTo (bytesL (s.extract 0 4)) 4 c)) (3 : Nat) = bt s (3 : Nat) := fun c hc => (F c hc 3 (by omega)).trans t3
  cases hcb2 : cont (bt s (3 : Nat)) with
  | false => rfl
  | true =>
    have h1 := cont_iff.1 hcb2
    have h2 := cont_iff.1 hc
    rw [Bool.true_and, rv4 (Z 128), rv4 (Z 191), f0 _ (by omega), f0 _ (by omega), f1 _ (by omega), f1 _ (by omega), f2 _ (by omega), f2 _ (by omega), f3 _ (by omega), f3 _ (by omega), if_pos ⟨hcb, hc, hcb2⟩]
    simp only [rng, show floor 4 = 65536 from rfl, Bool.and_eq_true, Bool.not_eq_true', Bool.or_eq_false_iff, decide_eq_false_iff_not, decide_eq_true_eq, Bool.or_eq_true]
    unfold lo hi at ho
    repeat' split at ho
    all_goals omega
theorem rvx1 {s : ByteArray} (h : 1 ≤ s.size) : rv (s.extract 0 1) = bt s 0 := by
  have hz : (s.extract 0 1).size = 1 := size_pre h
  unfold rv vL
  rw [if_pos hz]
  exact bt_pre (i := 0) (by omega) h
theorem rvx2 {s : ByteArray} (h : 2 ≤ s.size) (h1 : cont (bt s (1 : Nat)) = true) : rv (s.extract 0 2) = val2 s := by
  rw [rv2 (size_pre h), show bt (s.extract 0 2) (1 : Nat) = bt s (1 : Nat) from bt_pre (i := 1) (by omega) h, show bt (s.extract 0 2) 0 = bt s 0 from bt_pre (i := 0) (by omega) h, if_pos h1]
  unfold val2
  show _ = (bt s 0 - 192) * 64 + (bt s (1 : Nat) - 128)
  omega
theorem rvx3 {s : ByteArray} (h : 3 ≤ s.size) (h1 : cont (bt s (1 : Nat)) = true) (h2 : cont (bt s (2 : Nat)) = true) : rv (s.extract 0 3) = val3 s := by
  rw [rv3 (size_pre h), show bt (s.extract 0 3) (1 : Nat) = bt s (1 : Nat) from bt_pre (i := 1) (by omega) h, show bt (s.extract 0 3) (2 : Nat) = bt s (2 : Nat) from bt_pre (i := 2) (by omega) h, show bt (s.extract 0 3) 0 = bt s 0 from bt_pre (i := 0) (by omega) h, if_pos ⟨h1, h2⟩]
  unfold val3
  show _ = (bt s 0 - 224) * 4096 + (bt s (1 : Nat) - 128) * 64 + (bt s (2 : Nat) - 128)
  omega
theorem rvx4 {s : ByteArray} (h : 4 ≤ s.size) (h1 : cont (bt s (1 : Nat)) = true) (h2 : cont (bt s (2 : Nat)) = true) (h3 : cont (bt s (3 : Nat)) = true) : rv (s.extract 0 4) = val4 s := by
  rw [rv4 (size_pre h), show bt (s.extract 0 4) (1 : Nat) = bt s (1 : Nat) from bt_pre (i := 1) (by omega) h, show bt (s.extract 0 4) (2 : Nat) = bt s (2 : Nat) from bt_pre (i := 2) (by omega) h, show bt (s.extract 0 4) (3 : Nat) = bt s (3 : Nat) from bt_pre (i := 3) (by omega) h,
    show bt (s.extract 0 4) 0 = bt s 0 from bt_pre (i := 0) (by omega) h, if_pos ⟨h1, h2, h3⟩]
  unfold val4
  show _ = (bt s 0 - 240) * 262144 + (bt s (1 : Nat) - 128) * 4096 + (bt s (2 : Nat) - 128) * 64 + (bt s (3 : Nat) - 128)
  omega
theorem ok1_cont {s : ByteArray} (ho : ok1 s = true) : cont (bt s (1 : Nat)) = true := by
  have hl := lo_ge (bt s 0)
  have hh := hi_le (bt s 0)
  unfold ok1 at ho
  simp only [Bool.and_eq_true, decide_eq_true_eq] at ho
  exact cont_iff.2 ⟨by have := ho.1; show 128 ≤ bt s 1; omega, by have := ho.2; show bt s 1 ≤ 191; omega⟩
theorem firstR_eq (s : ByteArray) : firstR s = first s := by
  have c2 : bt s 2 = bt s (2 : Nat) := rfl
  have c3 : bt s 3 = bt s (3 : Nat) := rfl
  unfold firstR first
  by_cases h0 : s.size = 0
  · have : full s = false := by unfold full; rw [decide_eq_true h0]; rfl
    rw [if_pos h0, this]; rfl
  rw [if_neg h0]
  have d0 : decide (s.size = 0) = false := decide_eq_false h0
  rcases need_cases (bt s 0) with ⟨hn, hb⟩ | hn | ⟨hn, hb⟩ | ⟨hn, hb⟩ | ⟨hn, hb⟩
  · have f : full s = true := by unfold full; rw [d0, hn, decide_eq_true (show (1 : Int) ≤ (s.size : Int) by omega)]; rfl
    have d : dec s = (bt s 0, 1) := by unfold dec; rw [d0, hn]; rfl
    have l : isL s = true := by unfold isL; rw [d, decide_eq_false (show ¬ (bt s 0, (1 : Int)).1 = 65533 by show ¬ bt s 0 = 65533; omega)]; rfl
    rw [if_neg (by omega), f, l, d, hn]
    show (if pref s 1 0 1 = 1 then (rv (s.extract 0 1), (1 : Int), (0 : Int)) else if pref s 1 0 1 = s.size then (0, 0, 2) else (0, ((pref s 1 0 1 : Nat) : Int), (4 : Int))) = _
    rw [if_pos (show pref s 1 0 1 = 1 from rfl), rvx1 (by omega)]
    rfl
  · have f : full s = true := by unfold full; rw [d0, hn, decide_eq_true (show (0 : Int) ≤ (s.size : Int) by omega)]; rfl
    have d : dec s = (65533, 1) := by unfold dec; rw [d0, hn]; rfl
    have l : isL s = false := by unfold isL; rw [d]; rfl
    have b : bad s = 1 := by unfold bad; rw [hn]; rfl
    rw [if_pos hn, f, l, b]; rfl
  · rw [if_neg (by omega), hn]
    show (if pref s 2 1 1 = 2 then (rv (s.extract 0 2), (2 : Int), (0 : Int)) else if pref s 2 1 1 = s.size then (0, 0, 2) else (0, ((pref s 2 1 1 : Nat) : Int), (4 : Int))) = _
    by_cases h1 : 1 < s.size
    · have f : full s = true := by unfold full; rw [d0, hn, decide_eq_true (show (2 : Int) ≤ (s.size : Int) by omega)]; rfl
      have dz : decide ((s.size : Int) < 2) = false := decide_eq_false (by omega)
      cases ho : ok1 s with
      | true =>
        have p : pref s 2 1 1 = 2 := by simp only [pref, decide_eq_true h1, beg2 (n := 2) hn (by omega) (by omega), ho, Bool.and_self, cond_true]
        have d : dec s = (val2 s, 2) := by unfold dec; rw [d0, hn, dz, ho]; rfl
        have l : isL s = true := by unfold isL; rw [d, decide_eq_true (show (1 : Int) < ((val2 s, (2 : Int)) : Int × Int).2 from (by decide : (1 : Int) < 2)), Bool.or_true]
        rw [p, if_pos rfl, rvx2 (by omega) (ok1_cont ho), f, l, d]
        rfl
      | false =>
        have p : pref s 2 1 1 = 1 := by simp only [pref, decide_eq_true h1, beg2 (n := 2) hn (by omega) (by omega), ho, Bool.and_false, cond_false]
        have d : dec s = (65533, 1) := by unfold dec; rw [d0, hn, dz, ho]; rfl
        have l : isL s = false := by unfold isL; rw [d]; rfl
        have b : bad s = 1 := by unfold bad; rw [hn, ho]; rfl
        rw [p, if_neg (by omega), if_neg (by omega), f, l, b]; rfl
    · have p : pref s 2 1 1 = 1 := by simp only [pref, decide_eq_false h1, Bool.false_and, cond_false]
      have f : full s = false := by unfold full; rw [d0, hn, decide_eq_false (show ¬ (2 : Int) ≤ (s.size : Int) by omega), decide_eq_false h1, decide_eq_false (show ¬ 2 < s.size by omega)]; rfl
      rw [p, if_neg (by omega), if_pos (by omega), f]; rfl
  · rw [if_neg (by omega), hn]
    show (if pref s 3 2 1 = 3 then (rv (s.extract 0 3), (3 : Int), (0 : Int)) else if pref s 3 2 1 = s.size then (0, 0, 2) else (0, ((pref s 3 2 1 : Nat) : Int), (4 : Int))) = _
    by_cases h1 : 1 < s.size
    · cases ho : ok1 s with
      | true =>
        by_cases h2 : 2 < s.size
        · have f : full s = true := by unfold full; rw [d0, hn, decide_eq_true (show (3 : Int) ≤ (s.size : Int) by omega)]; rfl
          have dz : decide ((s.size : Int) < 3) = false := decide_eq_false (by omega)
          cases hc : cont (bt s (2 : Nat)) with
          | true =>
            have p : pref s 3 2 1 = 3 := by simp only [pref, decide_eq_true h1, decide_eq_true h2, beg2 (n := 3) hn (by omega) (by omega), beg3 (n := 3) hn (by omega) (by omega) ho, ho, hc, Bool.and_self, cond_true]
            have d : dec s = (val3 s, 3) := by unfold dec; rw [d0, hn, dz, ho, c2, hc]; rfl
            have l : isL s = true := by unfold isL; rw [d, decide_eq_true (show (1 : Int) < ((val3 s, (3 : Int)) : Int × Int).2 from (by decide : (1 : Int) < 3)), Bool.or_true]
            rw [p, if_pos rfl, rvx3 (by omega) (ok1_cont ho) hc, f, l, d]
            rfl
          | false =>
            have p : pref s 3 2 1 = 2 := by simp only [pref, decide_eq_true h1, decide_eq_true h2, beg2 (n := 3) hn (by omega) (by omega), beg3 (n := 3) hn (by omega) (by omega) ho, ho, hc, Bool.and_self, Bool.and_false, cond_true, cond_false]
            have d : dec s = (65533, 1) := by unfold dec; rw [d0, hn, dz, ho, c2, hc]; rfl
            have l : isL s = false := by unfold isL; rw [d]; rfl
            have b : bad s = 2 := by unfold bad; rw [hn, ho, c2, hc]; rfl
            rw [p, if_neg (by omega), if_neg (by omega), f, l, b]; rfl
        · have p : pref s 3 2 1 = 2 := by simp only [pref, decide_eq_true h1, decide_eq_false h2, beg2 (n := 3) hn (by omega) (by omega), ho, Bool.and_self, Bool.false_and, cond_true, cond_false]
          have f : full s = false := by unfold full; rw [d0, hn, decide_eq_false (show ¬ (3 : Int) ≤ (s.size : Int) by omega), decide_eq_true h1, decide_eq_false h2, ho]; rfl
          rw [p, if_neg (by omega), if_pos (by omega), f]; rfl
      | false =>
        have p : pref s 3 2 1 = 1 := by simp only [pref, decide_eq_true h1, beg2 (n := 3) hn (by omega) (by omega), ho, Bool.and_false, cond_false]
        have f : full s = true := by
          unfold full
          rw [d0, decide_eq_true h1, ho]
          cases decide (need (bt s 0) ≤ (s.size : Int)) <;> rfl
        have d : dec s = (65533, 1) := by
          unfold dec
          rw [d0, hn, ho]
          cases decide ((s.size : Int) < 3) <;> rfl
        have l : isL s = false := by unfold isL; rw [d]; rfl
        have b : bad s = 1 := by unfold bad; rw [hn, ho]; rfl
        rw [p, if_neg (by omega), if_neg (by omega), f, l, b]; rfl
    · have p : pref s 3 2 1 = 1 := by simp only [pref, decide_eq_false h1, Bool.false_and, cond_false]
      have f : full s = false := by unfold full; rw [d0, hn, decide_eq_false (show ¬ (3 : Int) ≤ (s.size : Int) by omega), decide_eq_false h1, decide_eq_false (show ¬ 2 < s.size by omega)]; rfl
      rw [p, if_neg (by omega), if_pos (by omega), f]; rfl
  · rw [if_neg (by omega), hn]
    show (if pref s 4 3 1 = 4 then (rv (s.extract 0 4), (4 : Int), (0 : Int)) else if pref s 4 3 1 = s.size then (0, 0, 2) else (0, ((pref s 4 3 1 : Nat) : Int), (4 : Int))) = _
    by_cases h1 : 1 < s.size
    · cases ho : ok1 s with
      | true =>
        by_cases h2 : 2 < s.size
        · cases hc : cont (bt s (2 : Nat)) with
          | true =>
            by_cases h3 : 3 < s.size
            · have f : full s = true := by unfold full; rw [d0, hn, decide_eq_true (show (4 : Int) ≤ (s.size : Int) by omega)]; rfl
              have dz : decide ((s.size : Int) < 4) = false := decide_eq_false (by omega)
              cases hd : cont (bt s (3 : Nat)) with
              | true =>
                have p : pref s 4 3 1 = 4 := by simp only [pref, decide_eq_true h1, decide_eq_true h2, decide_eq_true h3, beg2 (n := 4) hn (by omega) (by omega), beg3 (n := 4) hn (by omega) (by omega) ho, beg4 hn (by omega) ho hc, ho, hc, hd, Bool.and_self, cond_true]
                have d : dec s = (val4 s, 4) := by unfold dec; rw [d0, hn, dz, ho, c2, hc, c3, hd]; rfl
                have l : isL s = true := by unfold isL; rw [d, decide_eq_true (show (1 : Int) < ((val4 s, (4 : Int)) : Int × Int).2 from (by decide : (1 : Int) < 4)), Bool.or_true]
                rw [p, if_pos rfl, rvx4 (by omega) (ok1_cont ho) hc hd, f, l, d]
                rfl
              | false =>
                have p : pref s 4 3 1 = 3 := by simp only [pref, decide_eq_true h1, decide_eq_true h2, decide_eq_true h3, beg2 (n := 4) hn (by omega) (by omega), beg3 (n := 4) hn (by omega) (by omega) ho, beg4 hn (by omega) ho hc, ho, hc, hd, Bool.and_self, Bool.and_false, cond_true, cond_false]
                have d : dec s = (65533, 1) := by unfold dec; rw [d0, hn, dz, ho, c2, hc, c3, hd]; rfl
                have l : isL s = false := by unfold isL; rw [d]; rfl
                have b : bad s = 3 := by unfold bad; rw [hn, ho, c2, hc]; rfl
                rw [p, if_neg (by omega), if_neg (by omega), f, l, b]; rfl
            · have p : pref s 4 3 1 = 3 := by simp only [pref, decide_eq_true h1, decide_eq_true h2, decide_eq_false h3, beg2 (n := 4) hn (by omega) (by omega), beg3 (n := 4) hn (by omega) (by omega) ho, ho, hc, Bool.and_self, Bool.false_and, cond_true, cond_false]
              have f : full s = false := by unfold full; rw [d0, hn, decide_eq_false (show ¬ (4 : Int) ≤ (s.size : Int) by omega), decide_eq_true h1, decide_eq_true h2, ho, c2, hc]; rfl
              rw [p, if_neg (by omega), if_pos (by omega), f]; rfl
          | false =>
            have p : pref s 4 3 1 = 2 := by simp only [pref, decide_eq_true h1, decide_eq_true h2, beg2 (n := 4) hn (by omega) (by omega), beg3 (n := 4) hn (by omega) (by omega) ho, ho, hc, Bool.and_self, Bool.and_false, cond_true, cond_false]
            have f : full s = true := by
              unfold full
              rw [d0, decide_eq_true h1, decide_eq_true h2, ho, c2, hc]
              cases decide (need (bt s 0) ≤ (s.size : Int)) <;> rfl
            have d : dec s = (65533, 1) := by
              unfold dec
              rw [d0, hn, ho, c2, hc]
              cases decide ((s.size : Int) < 4) <;> rfl
            have l : isL s = false := by unfold isL; rw [d]; rfl
            have b : bad s = 2 := by unfold bad; rw [hn, ho, c2, hc]; rfl
            rw [p, if_neg (by omega), if_neg (by omega), f, l, b]; rfl
        · have p : pref s 4 3 1 = 2 := by simp only [pref, decide_eq_true h1, decide_eq_false h2, beg2 (n := 4) hn (by omega) (by omega), ho, Bool.and_self, Bool.false_and, cond_true, cond_false]
          have f : full s = false := by unfold full; rw [d0, hn, decide_eq_false (show ¬ (4 : Int) ≤ (s.size : Int) by omega), decide_eq_true h1, decide_eq_false h2, ho]; rfl
          rw [p, if_neg (by omega), if_pos (by omega), f]; rfl
      | false =>
        have p : pref s 4 3 1 = 1 := by simp only [pref, decide_eq_true h1, beg2 (n := 4) hn (by omega) (by omega), ho, Bool.and_false, cond_false]
        have f : full s = true := by
          unfold full
          rw [d0, decide_eq_true h1, ho]
          cases decide (need (bt s 0) ≤ (s.size : Int)) <;> rfl
        have d : dec s = (65533, 1) := by
          unfold dec
          rw [d0, hn, ho]
          cases decide ((s.size : Int) < 4) <;> rfl
        have l : isL s = false := by unfold isL; rw [d]; rfl
        have b : bad s = 1 := by unfold bad; rw [hn, ho]; rfl
        rw [p, if_neg (by omega), if_neg (by omega), f, l, b]; rfl
    · have p : pref s 4 3 1 = 1 := by simp only [pref, decide_eq_false h1, Bool.false_and, cond_false]
      have f : full s = false := by unfold full; rw [d0, hn, decide_eq_false (show ¬ (4 : Int) ≤ (s.size : Int) by omega), decide_eq_false h1, decide_eq_false (show ¬ 2 < s.size by omega)]; rfl
      rw [p, if_neg (by omega), if_pos (by omega), f]; rfl
end U
namespace Go.Proofs.YtmnbcnhpklejcaaDoor
open Go Go.Ev Go.RowKit
abbrev w83' : FSpec := s83 (fun x => decide (ByteArray.size x.1 ≤ 1048576)) fun x => U.first x.1
theorem wk83' : SpecOK Tryd.prog E0 83 w83' := by
  have e : w83' = w83 := by unfold w83' w83 s83; congr 1; funext x y; exact (U.firstR_eq x.1).symm
  rw [e]
  exact wk83
def d123 (a : List Cell) (b : Int) : Tr (Bool) :=
 let v1 : Int := ((↑a.length : Int))
 let v2 : Int := (b - (1 : Int))
 let v3 : Int := (b + (1 : Int))
 Tr.ite (inB b a.length) (Tr.ite (decide ((rget celk a b).snd.fst = (2 : Int))) (Tr.ite (decide (IntKind.i64.wrap v3 = v1)) (Tr.ret true) (Tr.ite (inB (IntKind.i64.wrap v3) a.length) (Tr.ret !decide ((rget celk a (IntKind.i64.wrap v3)).snd.fst = (0 : Int))) Tr.fail)) (Tr.ite (inB b a.length) (Tr.ite (decide ((rget celk a b).snd.fst = (0 : Int))) (Tr.ite (decide (b = (0 : Int))) (Tr.ret true) (Tr.ite (inB (IntKind.i64.wrap v2) a.length) (Tr.ret !decide ((rget celk a (IntKind.i64.wrap v2)).snd.fst = (2 : Int))) Tr.fail)) (Tr.ret false)) Tr.fail)) Tr.fail
def e123 (r : Bool) : FRes := { rs := Slot.av (AV.one (Leaf.dat Kd.bool r)), upd := [], new := [] }
@[reducible] def a123 : List AK := [AK.d celk.sl, AK.d (.int .i64)]
@[reducible] def b123 : List BK := []
theorem t123 (a : List Cell) (b : Int) : evFn (E0) Tryd.f123 [PM.data Kd.bool] (akAV a123 (a, b, ())) (bkBs b123 ()) = (d123 a b).map e123 := by kernel_rfl
def s123 (C : akT a123 → Bool) (G : akT a123 → Bool) : FSpec := aspec a123 b123 e123 (fun x _ => C x) (fun x _ => G x)
theorem k123 {C : akT a123 → Bool} {G : akT a123 → Bool} (hd : ∀ (a : List Cell) (b : Int), C (a, b, ()) = true → (d123 a b).val = some (G (a, b, ()))) (IO : ItOK Tryd.prog (E0) := by exact itOK_none rfl) (L : ∀ c, Tryd.f123.body = some c → LsOK (evI 2) ((E0).lend 0) c := by exact fun c _ => LsOK_none rfl c) : SpecOK Tryd.prog E0 123 (s123 C G) :=
  aspec_ok (ak := a123) (bl := b123) (e := e123) (c := fun x _ => C x) (g := fun x _ => G x) (E0 := E0) (E := E0) tab .nil rfl rfl hm Tryd.func123 (by kernel_rfl) [PM.data Kd.bool] (fun X Y H => by obtain ⟨a, ⟨b, _⟩⟩ := X; exact val_of (t123 a b) (hd a b H)) IO L
abbrev G28 : List (Nat × FSpec) := [(37, w37), (83, w83'), (84, w84)]
theorem AG28 : AllFn Tryd.prog E0 G28 := .cons wk37 (.cons wk83' (.cons wk84 .nil))
def live28 (key : Nat) : Lv :=
  bif Nat.beq key 10 then { ls := [4, 5] } else bif Nat.beq key 1010 then { ls := [2, 5] } else
  { ls := [] }
abbrev M28 (ls : Nat → VS → Option (Tr (Ex × VS))) : Env := (E0.withFns G28).loops live28 ls
@[reducible] def p28_0 : LP := { n := 73, sl := [.d (Kd.str), .d (.int .i64)], bl := [] }
def B28_0 (x0 : ByteArray) (x1 : Int) : Tr (p28_0.T ⊕ (Int ⊕ Int)) :=
 let v1 : Int := ((U.first x0).fst)
 let v2 : Int := ((U.first x0).snd.snd)
 let v3 : Int := ((U.first x0).snd.fst)
 Tr.ite (decide ((0 : Int) < (↑x0.size : Int))) (Tr.ite (decide (x0.size ≤ (1048576 : Nat))) (Tr.ite (!decide (v2 = (0 : Int))) (Tr.ret (Sum.inr (Sum.inl x1))) (Tr.ite (!decide (U.width v1 = (0 : Int))) (Tr.ret (Sum.inr (Sum.inl x1))) (Tr.ite (decide ((0 : Int) ≤ v3 ∧ v3 ≤ (↑x0.size : Int))) (Tr.ret (Sum.inl ((x0.extract v3.toNat x0.size, IntKind.i64.wrap (x1 + (1 : Int)), ()), ()))) Tr.fail))) Tr.fail) (Tr.ret (Sum.inr (Sum.inr x1)))
def X28_0 : (Int ⊕ Int) → Ex × VS
  | (.inl r) => Prod.mk Ex.ret { n := 73, v := [Slot.av (AV.one (Leaf.kb false)), Slot.av (AV.one (Leaf.dat (.int .i64) r))], h := [] }
  | (.inr r) => Prod.mk (Ex.exit ( 0)) { n := 73, v := [Slot.av (AV.one Leaf.undef), Slot.av (AV.one (Leaf.dat (.int .i64) r))], h := [] }
def b28_0 : p28_0.T → Tr (p28_0.T ⊕ (Int ⊕ Int)) := fun ⟨⟨x0, ⟨x1, _⟩⟩, _⟩ => B28_0 x0 x1
theorem h28_0 (ls : Nat → VS → Option (Tr (Ex × VS))) (x : p28_0.T) : (evC (evI 2) (lc Tryd.f28 0) (Env.lend (M28 ls) 0) (unV (live28 10) (p28_0.V x))).map (decL 0 (live28 10) (live28 1010)) = (b28_0 x).map (encR p28_0.V X28_0) := by
  obtain ⟨⟨x0, ⟨x1, _⟩⟩, _⟩ := x; kernel_rfl
theorem c28_0 (x : p28_0.T) : canV 0 (live28 10) (unV (live28 10) (p28_0.V x)) = p28_0.V x := by
  obtain ⟨⟨x0, ⟨x1, _⟩⟩, _⟩ := x; kernel_rfl
theorem l28_0 {T : p28_0.T → Tr (Int ⊕ Int)} {ls : Nat → VS → Option (Tr (Ex × VS))} (hls : ∀ x, (Env.lend (M28 ls) 0).ls 10 x = p28_0.ls (fun a => (T a).map X28_0) x) (hS : ∀ x r, (T x).val = some r → Rounds b28_0 x r) : LoopOK (evI 2) (Env.lend (M28 ls) 0) (lc Tryd.f28 0) :=
  loopA 10 (live28 10) (live28 1010) p28_0 b28_0 X28_0 T (by kernel_rfl) rfl rfl hls (h28_0 ls) c28_0 hS
end Go.Proofs.YtmnbcnhpklejcaaDoor
namespace U
def mL (s : ByteArray) (k : Nat) (n : Int) : Int ⊕ Int := match marksL k s n with
  | .inl p => .inl p.2
  | .inr n => .inr n
theorem marksL_bad : ∀ (k : Nat) (s : ByteArray) (n : Int) (p : Int × Int), marksL k s n = .inl p → p.1 = -1
  | 0, s, n, p, h => by cases h
  | k + 1, s, n, p, h => by
    simp only [marksL] at h
    split at h
    · cases h
    · split at h
      · exact marksL_bad k _ _ p h
      · cases h; rfl
theorem marksL_ge : ∀ (k : Nat) (s : ByteArray) (n m : Int), marksL k s n = .inr m → n ≤ m
  | 0, s, n, m, h => by cases h; omega
  | k + 1, s, n, m, h => by
    simp only [marksL] at h
    split at h
    · cases h; omega
    · split at h
      · have := marksL_ge k _ _ m h; omega
      · cases h
end U
namespace Go.Proofs.YtmnbcnhpklejcaaDoor
def T28 (x : p28_0.T) : Tr (Int ⊕ Int) := .ite (decide (ByteArray.size x.1.1 ≤ 1048576 ∧ x.1.2.1 = 0)) (.spl (U.mL x.1.1 (ByteArray.size x.1.1) 0) 0 0) .fail
abbrev E28 : Env := M28 fun key x => bif Nat.beq key 10 then p28_0.ls (fun a => (T28 a).map X28_0) x else none
theorem r28 : ∀ (k : Nat) (s : ByteArray) (n : Nat), s.size ≤ k → n + k ≤ 1048576 → Rounds b28_0 ((s, (n : Int), ()), ()) (U.mL s k n)
  | 0, s, n, h1, h2 => by
    refine .exit ?_
    simp only [b28_0, B28_0, Tr.val, show ¬ ((0 : Int) < (s.size : Int)) by omega, decide_false, cond_false]
    rfl
  | k + 1, s, n, h1, h2 => by
    by_cases h0 : s.size = 0
    · refine .exit ?_
      simp only [b28_0, B28_0, Tr.val, show ¬ ((0 : Int) < (s.size : Int)) by omega, decide_false, cond_false]
      unfold U.mL U.marksL
      rw [if_pos h0]
    · have hp : (0 : Int) < (s.size : Int) := by omega
      have hsz : s.size ≤ 1048576 := by omega
      unfold U.mL U.marksL
      rw [if_neg h0]
      by_cases h3 : (U.first s).2.2 = 0
      · by_cases h4 : U.width (U.first s).1 = 0
        · obtain ⟨a, b⟩ := U.first_ok h3
          rw [if_pos ⟨h3, h4⟩]
          refine .step (y := ((s.extract (U.first s).2.1.toNat s.size, ((n + 1 : Nat) : Int), ()), ())) ?_ ?_
          · have hb : (0 : Int) ≤ (U.first s).2.1 ∧ (U.first s).2.1 ≤ (s.size : Int) := ⟨by omega, b⟩
            simp only [b28_0, B28_0, Tr.val, h3, h4, hp, hsz, hb, decide_true, decide_false, Bool.not_false, Bool.not_true, cond_true, cond_false, wrap64_nat (show n ≤ 1048576 by omega), and_self]
          · refine r28 k _ (n + 1) ?_ (by omega)
            rw [← bl_len, bl_ext, List.length_drop, List.length_take, bl_len]
            omega
        · rw [if_neg (fun h => h4 h.2)]
          refine .exit ?_
          simp only [b28_0, B28_0, Tr.val, h3, h4, hp, hsz, decide_true, decide_false, Bool.not_false, Bool.not_true, cond_true, cond_false]
      · rw [if_neg (fun h => h3 h.1)]
        refine .exit ?_
        simp only [b28_0, B28_0, Tr.val, h3, hp, hsz, decide_true, decide_false, Bool.not_false, Bool.not_true, cond_true, cond_false]
theorem L28 : LoopOK (evI 2) (E28.lend 0) (lc Tryd.f28 0) := by
  refine l28_0 (T := T28) (fun x => rfl) ?_
  rintro ⟨⟨s, n, z⟩, z'⟩ r h
  obtain ⟨h1, h2⟩ := pre_val h
  rw [Tr.val_spl] at h2
  cases h2
  have h1 := of_decide_eq_true h1
  have h3 : n = (0 : Int) := h1.2
  subst h3
  exact r28 _ s 0 (Nat.le_refl _) (by have := h1.1; dsimp at this; omega)
def d28 (a1 : ByteArray) (a2 : Int) (a31 : Int) (a32 : Int) (a33 : Int) : Tr (Bool) :=
 let v1 : Int := ((U.first a1).fst)
 let v2 : Int := ((U.first a1).snd.snd)
 let v3 : Int := ((U.first a1).snd.fst)
 let v4 : ByteArray := (a1.extract v3.toNat a1.size)
 let v5 : Int := ((U.mL v4 v4.size (0 : Int)).getRight?.getD (0 : Int))
 Tr.ite (!U.look (a31, a32, a33, ())) (Tr.ret false) (Tr.ite (decide (a2 < (0 : Int))) (Tr.ret false) (Tr.ite (decide ((2 : Int) < a2)) (Tr.ret false) (Tr.ite (decide (a1 = { data := #[] })) (Tr.ret (decide (a2 < (2 : Int)))) (Tr.ite (decide (a1.size ≤ (1048576 : Nat))) (Tr.ite (!decide (v2 = (0 : Int))) (Tr.ret false) (Tr.ite (decide (a2 = (0 : Int))) (Tr.ret false) (Tr.ite (!decide (U.width v1 = a2)) (Tr.ret false) (Tr.ite (decide ((0 : Int) ≤ v3 ∧ v3 ≤ (↑a1.size : Int))) (Tr.ite (decide (v4.size ≤ (1048576 : Nat) ∧ (0 : Int) = (0 : Int))) (Tr.ite (U.mL v4 v4.size (0 : Int)).isLeft (Tr.ret false) (Tr.ret (decide (v5 ≤ (2 : Int))))) Tr.fail) Tr.fail)))) Tr.fail))))
def e28 (r : Bool) : FRes := { rs := Slot.av (AV.one (Leaf.dat Kd.bool r)), upd := [], new := [] }
@[reducible] def a28 : List AK := [AK.d celk]
@[reducible] def b28 : List BK := []
theorem t28 (a1 : ByteArray) (a2 : Int) (a31 : Int) (a32 : Int) (a33 : Int) : evFn (E28) Tryd.f28 [PM.data Kd.bool] (akAV a28 ((a1, a2, (a31, a32, a33, ()), ()), ())) (bkBs b28 ()) = (d28 a1 a2 a31 a32 a33).map e28 := by kernel_rfl
def s28 (C : akT a28 → Bool) (G : akT a28 → Bool) : FSpec := aspec a28 b28 e28 (fun x _ => C x) (fun x _ => G x)
theorem k28 {C : akT a28 → Bool} {G : akT a28 → Bool} (hd : ∀ (a1 : ByteArray) (a2 : Int) (a31 : Int) (a32 : Int) (a33 : Int), C ((a1, a2, (a31, a32, a33, ()), ()), ()) = true → (d28 a1 a2 a31 a32 a33).val = some (G ((a1, a2, (a31, a32, a33, ()), ()), ()))) (IO : ItOK Tryd.prog (E28) := by exact itOK_none rfl) (L : ∀ c, Tryd.f28.body = some c → LsOK (evI 2) ((E28).lend 0) c := by exact fun c _ => LsOK_none rfl c) : SpecOK Tryd.prog E0 28 (s28 C G) :=
  aspec_ok (ak := a28) (bl := b28) (e := e28) (c := fun x _ => C x) (g := fun x _ => G x) (E0 := E0) (E := E28) tab AG28 rfl rfl hm Tryd.func28 (by kernel_rfl) [PM.data Kd.bool] (fun X Y H => by obtain ⟨⟨a1, ⟨a2, ⟨⟨a31, ⟨a32, ⟨a33, _⟩⟩⟩, _⟩⟩⟩, _⟩ := X; exact val_of (t28 a1 a2 a31 a32 a33) (hd a1 a2 a31 a32 a33 H)) IO L
abbrev w28 : FSpec := s28 (fun x => decide (ByteArray.size x.1.1 ≤ 1048576)) fun x => U.cellR x.1
theorem wk28 : SpecOK Tryd.prog E0 28 w28 := by
  refine k28 (fun s w f g h H => ?_) (L := ls_ok (lcs := [lc Tryd.f28 0]) (rgs := []) (by kernel_rfl) (by kernel_rfl) L28 trivial)
  have H' : s.size ≤ 1048576 := of_decide_eq_true H
  show _ = some (U.cellR (s, w, (f, g, h, ()), ()))
  unfold U.cellR
  cases h5 : U.look (f, g, h, ()) with
  | false =>
    by_cases h0 : s.size = 0
    · simp only [d28, Tr.val, h5, Bool.not_false, cond_true, if_pos h0, Bool.false_and]
    · simp only [d28, Tr.val, h5, Bool.not_false, cond_true, if_neg h0, Bool.false_and, ite_self]
  | true =>
    by_cases h0 : s.size = 0
    · have := ba_nil h0
      subst this
      simp only [d28, Tr.val, h5, Bool.not_true, cond_false, if_pos h0, Bool.true_and, decide_true, cond_true, U.inn]
      by_cases w0 : w < 0
      · simp [w0, show ¬ 0 ≤ w by omega]
      · by_cases w2 : 2 < w
        · simp [w0, w2, show ¬ w ≤ 1 by omega]
        · by_cases w3 : w < 2
          · simp [w0, w2, w3, show 0 ≤ w by omega, show w ≤ 1 by omega]
          · simp [w0, w2, w3, show ¬ w ≤ 1 by omega]
    · have h1 := ba_ne h0
      by_cases h2 : (U.first s).2.2 = 0
      · obtain ⟨a, b⟩ := U.first_ok h2
        have hb : (0 : Int) ≤ (U.first s).2.1 ∧ (U.first s).2.1 ≤ (s.size : Int) := ⟨by omega, b⟩
        have hs : (s.extract (U.first s).2.1.toNat s.size).size ≤ 1048576 := by
          rw [← bl_len, bl_ext, List.length_drop, List.length_take, bl_len]
          omega
        by_cases w0 : w < 0
        · simp [d28, Tr.val, h5, w0, h0, U.inn, show ¬ 1 ≤ w by omega]
        by_cases w2 : 2 < w
        · simp [d28, Tr.val, h5, w0, w2, h0, U.inn, show ¬ w ≤ 2 by omega]
        by_cases w1 : w = 0
        · subst w1
          simp [d28, Tr.val, h5, h0, h1, h2, H', U.inn]
        have hw : U.inn w 1 2 = true := by unfold U.inn; rw [decide_eq_true (show 1 ≤ w by omega), decide_eq_true (show w ≤ 2 by omega)]; rfl
        by_cases h4 : U.width (U.first s).1 = w
        · simp only [d28, Tr.val, h5, h0, h1, h2, h4, w0, w1, w2, hw, hb, hs, H', decide_true, decide_false, cond_true, cond_false, Bool.not_true, Bool.not_false, if_true, if_false, and_self, Bool.true_and]
          unfold U.mL U.marks
          cases hm : U.marksL (s.extract (U.first s).2.1.toNat s.size).size (s.extract (U.first s).2.1.toNat s.size) 0 with
          | inl p =>
            have := U.marksL_bad _ _ _ _ hm
            simp [this, U.inn]
          | inr m =>
            have := U.marksL_ge _ _ _ _ hm
            simp [U.inn, this]
            try rfl
        · simp only [d28, Tr.val, h5, h0, h1, h2, h4, w0, w1, w2, hw, H', decide_true, decide_false, cond_true, cond_false, Bool.not_true, Bool.not_false, if_false, and_false]
      · by_cases w0 : w < 0
        · simp only [d28, Tr.val, h5, w0, h2, if_neg h0, decide_true, cond_true, cond_false, Bool.not_true, false_and, if_false]
        by_cases w2 : 2 < w
        · simp only [d28, Tr.val, h5, w0, w2, h2, if_neg h0, decide_true, decide_false, cond_true, cond_false, Bool.not_true, false_and, if_false]
        simp only [d28, Tr.val, h5, h1, h2, w0, w2, H', if_neg h0, decide_true, decide_false, cond_true, cond_false, Bool.not_true, Bool.not_false, if_false, false_and]
abbrev w123 : FSpec := s123 (fun x => decide (0 ≤ (x.2.1 : Int) ∧ (x.2.1 : Int) < (List.length (α := Cell) x.1 : Int) ∧ List.length (α := Cell) x.1 ≤ 1048576)) fun x => !U.whole x.1 x.2.1.toNat
theorem wk123 : SpecOK Tryd.prog E0 123 w123 := by
  refine k123 fun l i H => ?_
  obtain ⟨h0, h1, h2⟩ := of_decide_eq_true H
  dsimp only at h0 h1 h2
  obtain ⟨n, rfl⟩ := Int.eq_ofNat_of_zero_le h0
  show _ = some (!U.whole l n)
  have hn : n < l.length := Int.ofNat_lt.1 h1
  have w1 : IntKind.i64.wrap ((n : Int) + 1) = ((n + 1 : Nat) : Int) := wrap64_nat (by omega)
  unfold U.whole d123
  simp only [Tr.val, inB_nat hn, cond_true, w1, cw_eq]
  by_cases a : U.cw l n = 2
  · by_cases b : n + 1 < l.length
    · have i1 : inB ((n + 1 : Nat) : Int) l.length = true := inB_nat b
      have i2 : decide (((n + 1 : Nat) : Int) = (l.length : Int)) = false := decide_eq_false (by omega)
      simp only [a, b, i1, i2, cw_eq, decide_true, cond_true, cond_false, if_true, Bool.true_and]
    · have i2 : decide (((n + 1 : Nat) : Int) = (l.length : Int)) = true := decide_eq_true (by omega)
      simp only [a, b, i2, decide_true, decide_false, cond_true, if_true, Bool.false_and, Bool.not_false]
  · by_cases b : U.cw l n = 0
    · by_cases c : 0 < n
      · have w2 : IntKind.i64.wrap ((n : Int) - 1) = ((n - 1 : Nat) : Int) := by
          rw [wrap64_id (by omega) (by omega)]
          omega
        have i1 : inB ((n - 1 : Nat) : Int) l.length = true := inB_nat (by omega)
        have i2 : decide ((n : Int) = 0) = false := decide_eq_false (by omega)
        have a0 : ¬ (0 : Int) = 2 := by decide
        simp only [b, c, w2, i1, i2, cw_eq, a0, decide_true, decide_false, cond_true, cond_false, if_true, if_false, Bool.true_and]
      · have : n = 0 := by omega
        subst this
        simp [a, b]
    · simp [a, b]
abbrev G71 : List (Nat × FSpec) := [(28, w28), (123, w123)]
theorem AG71 : AllFn Tryd.prog E0 G71 := .cons wk28 (.cons wk123 .nil)
def live71 (key : Nat) : Lv :=
  bif Nat.beq key 2 then { ls := [1, 2, 8, 9, 10] } else bif Nat.beq key 1002 then { ls := [1, 2, 4] } else
  { ls := [] }
abbrev M71 (ls : Nat → VS → Option (Tr (Ex × VS))) : Env := (E0.withFns G71).loops live71 ls
@[reducible] def p71_0 : LP := { n := 30, sl := [.d (.int .i64), .c (Leaf.ptr ( 0) ( 0)), .d (celk.sl), .d (.int .i64), .d (.int .i64)], bl := [(0, .box [.d (celk.sl), .d (Kd.bool)])] }
def B71_0 (x0 : Int) (x2 : List Cell) (x3 : Int) (x4 : Int) (h0_0 : List Cell) (h0_1 : Bool) : Tr (p71_0.T ⊕ (Int × List Cell × Bool ⊕ Int × List Cell × Bool)) :=
 let v1 : Int := ((↑h0_0.length : Int))
 Tr.ite (decide (x4 < x3)) (Tr.ite (inB x4 x2.length) (Tr.ite (decide (ByteArray.size (rget celk x2 x4).fst ≤ (1048576 : Nat))) (Tr.ite (!U.cellR (rget celk x2 x4)) (Tr.ret (Sum.inr (Sum.inl (x0, h0_0, h0_1)))) (Tr.ite (decide ((0 : Int) ≤ x4 ∧ x4 < v1 ∧ h0_0.length ≤ (1048576 : Nat))) (Tr.ite (!U.whole h0_0 x4.toNat) (Tr.ret (Sum.inr (Sum.inl (x0, h0_0, h0_1)))) (Tr.ret (Sum.inl ((x0, x2, x3, IntKind.i64.wrap (x4 + (1 : Int)), ()), (h0_0, h0_1, ()), ())))) Tr.fail)) Tr.fail) Tr.fail) (Tr.ret (Sum.inr (Sum.inr (x0, h0_0, h0_1))))
def X71_0 : (Int × List Cell × Bool ⊕ Int × List Cell × Bool) → Ex × VS
  | (.inl r) => Prod.mk Ex.ret { n := 30, v := [Slot.av (AV.one (Leaf.dat (.int .i64) r.fst)), Slot.av (AV.one (Leaf.ptr ( 0) ( 0))), Slot.av (AV.one (Leaf.kb false))], h := [( 0, Blk.box [Leaf.dat celk.sl r.snd.fst, Leaf.dat Kd.bool r.snd.snd])] }
  | (.inr r) => Prod.mk (Ex.exit ( 0)) { n := 30, v := [Slot.av (AV.one (Leaf.dat (.int .i64) r.fst)), Slot.av (AV.one (Leaf.ptr ( 0) ( 0))), Slot.av (AV.one Leaf.undef)], h := [( 0, Blk.box [Leaf.dat celk.sl r.snd.fst, Leaf.dat Kd.bool r.snd.snd])] }
def b71_0 : p71_0.T → Tr (p71_0.T ⊕ (Int × List Cell × Bool ⊕ Int × List Cell × Bool)) := fun ⟨⟨x0, ⟨x2, ⟨x3, ⟨x4, _⟩⟩⟩⟩, ⟨⟨h0_0, ⟨h0_1, _⟩⟩, _⟩⟩ => B71_0 x0 x2 x3 x4 h0_0 h0_1
theorem h71_0 (ls : Nat → VS → Option (Tr (Ex × VS))) (x : p71_0.T) : (evC (evI 2) (lc Tryd.f71 0) (Env.lend (M71 ls) 0) (unV (live71 2) (p71_0.V x))).map (decL 0 (live71 2) (live71 1002)) = (b71_0 x).map (encR p71_0.V X71_0) := by
  obtain ⟨⟨x0, ⟨x2, ⟨x3, ⟨x4, _⟩⟩⟩⟩, ⟨⟨h0_0, ⟨h0_1, _⟩⟩, _⟩⟩ := x; kernel_rfl
theorem c71_0 (x : p71_0.T) : canV 0 (live71 2) (unV (live71 2) (p71_0.V x)) = p71_0.V x := by
  obtain ⟨⟨x0, ⟨x2, ⟨x3, ⟨x4, _⟩⟩⟩⟩, ⟨⟨h0_0, ⟨h0_1, _⟩⟩, _⟩⟩ := x; kernel_rfl
theorem l71_0 {T : p71_0.T → Tr (Int × List Cell × Bool ⊕ Int × List Cell × Bool)} {ls : Nat → VS → Option (Tr (Ex × VS))} (hls : ∀ x, (Env.lend (M71 ls) 0).ls 2 x = p71_0.ls (fun a => (T a).map X71_0) x) (hS : ∀ x r, (T x).val = some r → Rounds b71_0 x r) : LoopOK (evI 2) (Env.lend (M71 ls) 0) (lc Tryd.f71 0) :=
  loopA 2 (live71 2) (live71 1002) p71_0 b71_0 X71_0 T (by kernel_rfl) rfl rfl hls (h71_0 ls) c71_0 hS
def T71 (x : p71_0.T) : Tr (Int × List Cell × Bool ⊕ Int × List Cell × Bool) :=
  .ite (decide ((x.1.2.2.1 : Int) = (List.length (α := Cell) x.1.2.1 : Int) ∧ (x.1.2.2.2.1 : Int) = 0 ∧ List.length (α := Cell) x.1.2.1 ≤ List.length (α := Cell) x.2.1.1 ∧ List.length (α := Cell) x.2.1.1 ≤ 1048576) && U.okc x.1.2.1)
    (.ite (allN (fun i => U.cellR (List.getD (α := Cell) x.1.2.1 i U.dC) && U.whole x.2.1.1 i) (List.length (α := Cell) x.1.2.1) 0) (.ret (.inr (x.1.1, x.2.1.1, x.2.1.2.1))) (.ret (.inl (x.1.1, x.2.1.1, x.2.1.2.1)))) .fail
abbrev E71 : Env := M71 fun key x => bif Nat.beq key 2 then p71_0.ls (fun a => (T71 a).map X71_0) x else none
theorem L71 : LoopOK (evI 2) (E71.lend 0) (lc Tryd.f71 0) := by
  refine l71_0 (T := T71) (fun x => rfl) ?_
  rintro ⟨⟨c, l, n, i, z⟩, ⟨m, s, z1⟩, z2⟩ r h
  obtain ⟨h1, h2⟩ := pre_val h
  rw [Bool.and_eq_true] at h1
  obtain ⟨h1, hok⟩ := h1
  obtain ⟨e1, e2, e3, e4⟩ := of_decide_eq_true h1
  dsimp only at e1 e2 e3 e4 hok h2
  subst e1
  subst e2
  have := Rounds.all (B := b71_0) (N := l.length) (fun i => ((c, l, (l.length : Int), (i : Int), ()), (m, s, ()), ())) (fun i => U.cellR (l.getD i U.dC) && U.whole m i) (.inl (c, m, s)) (.inr (c, m, s)) (fun i hi => ?_) ?_
  · cases ha : allN (fun i => U.cellR (l.getD i U.dC) && U.whole m i) l.length 0 <;> simp only [ha, Tr.val, cond_true, cond_false] at h2 this <;> cases h2 <;> exact this
  · have h3 := U.okc_at hok hi
    simp only [b71_0, B71_0, Tr.val, inB_nat hi, rgetC, h3, Int.toNat_natCast, show ((i : Int) < (l.length : Int)) by omega, show ((0 : Int) ≤ (i : Int) ∧ (i : Int) < (m.length : Int) ∧ m.length ≤ 1048576) by omega, decide_true, cond_true, wrap64_nat (show i ≤ 1048576 by omega)]
    cases U.cellR (l.getD i U.dC) <;> cases U.whole m i <;> rfl
  · simp only [b71_0, B71_0, Tr.val, show ¬ ((l.length : Int) < (l.length : Int)) by omega, decide_false, cond_false]
def d71 (a1 : List Cell) (a2 : Bool) (b : Int) : Tr (Bool) :=
 let v1 : Int := ((↑a1.length : Int))
 let v2 : Int := ((↑a1.length : Int))
 Tr.ite (decide (v2 = v1 ∧ (0 : Int) = (0 : Int) ∧ a1.length ≤ a1.length ∧ a1.length ≤ (1048576 : Nat)) && U.okc a1) (Tr.ite (allN (fun (i : Nat) => U.cellR (a1.getD i U.dC) && U.whole a1 i) a1.length (0 : Nat)) (Tr.ret (decide (v2 = b))) (Tr.ret false)) Tr.fail
def e71 (r : Bool) : FRes := { rs := Slot.av (AV.one (Leaf.dat Kd.bool r)), upd := [], new := [] }
@[reducible] def a71 : List AK := [AK.d link, AK.d (.int .i64)]
@[reducible] def b71 : List BK := []
theorem t71 (a1 : List Cell) (a2 : Bool) (b : Int) : evFn (E71) Tryd.f71 [PM.data Kd.bool] (akAV a71 ((a1, a2, ()), b, ())) (bkBs b71 ()) = (d71 a1 a2 b).map e71 := by kernel_rfl
def s71 (C : akT a71 → Bool) (G : akT a71 → Bool) : FSpec := aspec a71 b71 e71 (fun x _ => C x) (fun x _ => G x)
theorem k71 {C : akT a71 → Bool} {G : akT a71 → Bool} (hd : ∀ (a1 : List Cell) (a2 : Bool) (b : Int), C ((a1, a2, ()), b, ()) = true → (d71 a1 a2 b).val = some (G ((a1, a2, ()), b, ()))) (IO : ItOK Tryd.prog (E71) := by exact itOK_none rfl) (L : ∀ c, Tryd.f71.body = some c → LsOK (evI 2) ((E71).lend 0) c := by exact fun c _ => LsOK_none rfl c) : SpecOK Tryd.prog E0 71 (s71 C G) :=
  aspec_ok (ak := a71) (bl := b71) (e := e71) (c := fun x _ => C x) (g := fun x _ => G x) (E0 := E0) (E := E71) tab AG71 rfl rfl hm Tryd.func71 (by kernel_rfl) [PM.data Kd.bool] (fun X Y H => by obtain ⟨⟨a1, ⟨a2, _⟩⟩, ⟨b, _⟩⟩ := X; exact val_of (t71 a1 a2 b) (hd a1 a2 b H)) IO L
abbrev w71 : FSpec := s71 (fun x => U.okc x.1.1) fun x => U.fitC x.1.1 && decide ((List.length (α := Cell) x.1.1 : Int) = (x.2.1 : Int))
theorem wk71 : SpecOK Tryd.prog E0 71 w71 := by
  refine k71 (fun l s n H => ?_) (L := ls_ok (lcs := [lc Tryd.f71 0]) (rgs := []) (by kernel_rfl) (by kernel_rfl) L71 trivial)
  have H : U.okc l = true := H
  have hl := U.okc_len H
  show _ = some (U.fitC l && decide ((l.length : Int) = n))
  unfold U.fitC
  simp only [d71, Tr.val, H, hl, Nat.le_refl, and_self, decide_true, Bool.and_self, cond_true]
  cases allN (fun i => U.cellR (l.getD i U.dC) && U.whole l i) l.length 0 <;> simp
end Go.Proofs.YtmnbcnhpklejcaaDoor
end
section
set_option linter.unusedVariables false
set_option linter.unusedSimpArgs false
set_option maxRecDepth 20000
open Go Go.Ev
namespace U
open Go.Proofs.YtmnbcnhpklejcaaDoor
theorem cutC_size (c : Cl) : (cutC c).1.size ≤ 20 := by
  show (c.1.extract 0 (min c.1.size 20)).size ≤ 20
  rw [← bl_len, bl_ext, List.length_drop, List.length_take, bl_len]
  omega
theorem cutL_ok (l : List Cl) : okc (cutL l) = true := by
  unfold okc cutL
  rw [Bool.and_eq_true, decide_eq_true_eq, List.all_eq_true]
  refine ⟨by rw [List.length_map, List.length_take]; omega, fun x hx => ?_⟩
  obtain ⟨y, _, rfl⟩ := List.mem_map.1 hx
  exact decide_eq_true (by have := cutC_size y; omega)
theorem few_len (l : List Ln) (n : Nat) : (few l n).length ≤ n := by unfold few; rw [List.length_map, List.length_take]; omega
theorem few_ok (l : List Ln) {n : Nat} (hn : n ≤ 1000) : okl (few l n) = true := by
  have := few_len l n
  unfold okl
  rw [Bool.and_eq_true, decide_eq_true_eq, List.all_eq_true]
  refine ⟨by omega, fun x hx => ?_⟩
  unfold few at hx
  obtain ⟨y, _, rfl⟩ := List.mem_map.1 hx
  exact cutL_ok _
end U
end
section
set_option linter.unusedVariables false
set_option linter.unusedSimpArgs false
set_option maxRecDepth 20000
open Go Go.Ev
namespace Go.Proofs.YtmnbcnhpklejcaaDoor
open Go.RowKit
def d88 (a1 : Int) (a2 : Int) (a3 : Int) : Tr (ByteArray × Int × Int × Int × Int) :=
 Tr.ret (ByteArray.empty, (1 : Int), (0 : Int), a2, (0 : Int))
def e88 (r : ByteArray × Int × Int × Int × Int) : FRes := { rs := Slot.av (AV.agg [Leaf.dat Kd.str r.fst, Leaf.dat (.int .i64) r.snd.fst, Leaf.dat (.int .i64) r.snd.snd.fst, Leaf.dat (.int .i64) r.snd.snd.snd.fst, Leaf.dat (.int .i64) r.snd.snd.snd.snd]), upd := [], new := [] }
@[reducible] def a88 : List AK := [AK.d attk]
@[reducible] def b88 : List BK := []
theorem t88 (a1 : Int) (a2 : Int) (a3 : Int) : evFn (E0) Tryd.f88 [PM.data celk] (akAV a88 ((a1, a2, a3, ()), ())) (bkBs b88 ()) = (d88 a1 a2 a3).map e88 := by kernel_rfl
def s88' (G : akT a88 → ByteArray × Int × Int × Int × Int) : FSpec := aspec0 a88 b88 e88 (fun x _ => G x)
theorem k88' {G : akT a88 → ByteArray × Int × Int × Int × Int} (hd : ∀ (a1 : Int) (a2 : Int) (a3 : Int), (d88 a1 a2 a3).val = some (G ((a1, a2, a3, ()), ()))) (IO : ItOK Tryd.prog (E0) := by exact itOK_none rfl) (L : ∀ c, Tryd.f88.body = some c → LsOK (evI 2) ((E0).lend 0) c := by exact fun c _ => LsOK_none rfl c) : SpecOK Tryd.prog E0 88 (s88' G) :=
  aspec0_ok (ak := a88) (bl := b88) (e := e88) (g := fun x _ => G x) (E0 := E0) (E := E0) tab .nil rfl rfl hm Tryd.func88 (by kernel_rfl) [PM.data celk] (fun X Y => by obtain ⟨⟨a1, ⟨a2, ⟨a3, _⟩⟩⟩, _⟩ := X; exact val_of (t88 a1 a2 a3) (hd a1 a2 a3)) IO L
abbrev w88 : FSpec := s88' fun x => (ByteArray.empty, (1 : Int), (0 : Int), x.1.2.1, (0 : Int))
theorem wk88 : SpecOK Tryd.prog E0 88 w88 := k88' fun a b c => rfl
end Go.Proofs.YtmnbcnhpklejcaaDoor
end
section
set_option linter.unusedVariables false
set_option linter.unusedSimpArgs false
set_option maxRecDepth 20000
set_option maxHeartbeats 4000000
open Go Go.Ev
namespace Go.Proofs.YtmnbcnhpklejcaaDoor
open Go.RowKit
def w161 : FSpec := { ps := [.raw], g := fun args bs => match args with
  | [.one (.ptr 0 0)] => some { rs := .av (.one (.ptr 0 0)), upd := bs }
  | _ => none }
theorem wk161 : SpecOK Tryd.prog E0 161 w161 := by
  intro F O args bs r hr
  unfold w161 at hr
  simp only at hr
  split at hr
  · cases hr
    intro hc w K A vs H hv
    cases hv with
    | cons h0 h1 =>
      cases h1
      rename_i v
      refine .inl ⟨v, w, ?_, K, A, by rw [List.append_nil]; exact H, by rw [List.append_nil]; exact Ext.refl _ _ _ _, by rw [List.append_nil]; exact h0, rfl⟩
      rw [run_callFunc_extern Tryd.func161 (by kernel_rfl) (by kernel_rfl) (by kernel_rfl) (e := Extern.AbiNoEscape.same) (by kernel_rfl)]
      rw [Lib.run_noEscape]
      rfl
  · cases hr
abbrev bldZ : List BK := [.tb 132 [.c .nils]]
def live149 (key : Nat) : Lv :=
  { ls := [] }
def d149 (h0_u : Bool) (h1 : List Int) : Tr (Bool × List Int) :=
 Tr.ite (!h0_u) (Tr.ret (true, h1)) (Tr.ite (!h0_u) Tr.fail (Tr.ret (h0_u, h1)))
def e149 (r : Bool × List Int) : FRes := { rs := Slot.tup [], upd := [Blk.tb ( 132) r.fst [Leaf.srow ( 1)], Blk.row ( 5) (Kd.int IntKind.u8) r.snd], new := [] }
@[reducible] def a149 : List AK := [AK.c (Leaf.ptr (0 : Nat) (0 : Nat))]
@[reducible] def b149 : List BK := [BK.tb (132 : TypeId) [SK.c (Leaf.srow (1 : Nat))], BK.row (5 : TypeId) (Kd.int IntKind.u8)]
theorem t149 (h0_u : Bool) (h1 : List Int) : evFn (Env.loops (Env.withFns E0 [((161 : Nat), w161)]) live149 fun (x : Nat) (x_1 : VS) => none) Tryd.f149 [] (akAV a149 ()) (bkBs b149 ((h0_u, ()), h1, ())) = (d149 h0_u h1).map e149 := by kernel_rfl
def s149' (G : akT a149 → bksT b149 → Bool × List Int) : FSpec := aspec0 a149 b149 e149 (G)
theorem k149' {G : akT a149 → bksT b149 → Bool × List Int} (hd : ∀ (h0_u : Bool) (h1 : List Int), (d149 h0_u h1).val = some (G () ((h0_u, ()), h1, ()))) (IO : ItOK Tryd.prog (Env.loops (Env.withFns E0 [((161 : Nat), w161)]) live149 fun (x : Nat) (x_1 : VS) => none) := by exact itOK_none rfl) (L : ∀ c, Tryd.f149.body = some c → LsOK (evI 2) ((Env.loops (Env.withFns E0 [((161 : Nat), w161)]) live149 fun (x : Nat) (x_1 : VS) => none).lend 2) c := by exact fun c _ => LsOK_none rfl c) : SpecOK Tryd.prog E0 149 (s149' G) :=
  aspec0_ok (ak := a149) (bl := b149) (e := e149) (g := G) (E0 := E0) (E := Env.loops (Env.withFns E0 [((161 : Nat), w161)]) live149 fun (x : Nat) (x_1 : VS) => none) tab (.cons wk161 .nil) rfl rfl hm Tryd.func149 (by kernel_rfl) [] (fun X Y => by obtain ⟨⟨h0_u, _⟩, ⟨h1, _⟩⟩ := Y; exact val_of (t149 h0_u h1) (hd h0_u h1)) IO L
abbrev w149 : FSpec := s149' fun _ y => (true, y.2.1)
theorem wk149 : SpecOK Tryd.prog E0 149 w149 := k149' fun u h => by cases u <;> rfl
namespace Z
def d149 (h0_u : Bool) : Tr (Bool) :=
 Tr.ite (!h0_u) (Tr.ret true) (Tr.ite (!h0_u) Tr.fail (Tr.ret h0_u))
def e149 (r : Bool) : FRes := { rs := Slot.tup [], upd := [Blk.tb ( 132) r [Leaf.nils]], new := [] }
@[reducible] def a149 : List AK := [AK.c (Leaf.ptr (0 : Nat) (0 : Nat))]
@[reducible] def b149 : List BK := [BK.tb (132 : TypeId) [SK.c Leaf.nils]]
theorem t149 (h0_u : Bool) : evFn (Env.withFns E0 [((161 : Nat), w161)]) Tryd.f149 [] (akAV a149 ()) (bkBs b149 ((h0_u, ()), ())) = (d149 h0_u).map e149 := by kernel_rfl
def s149' (G : akT a149 → bksT b149 → Bool) : FSpec := aspec0 a149 b149 e149 (G)
theorem k149' {G : akT a149 → bksT b149 → Bool} (hd : ∀ (h0_u : Bool), (d149 h0_u).val = some (G () ((h0_u, ()), ()))) (IO : ItOK Tryd.prog (Env.withFns E0 [((161 : Nat), w161)]) := by exact itOK_none rfl) (L : ∀ c, Tryd.f149.body = some c → LsOK (evI 2) ((Env.withFns E0 [((161 : Nat), w161)]).lend 1) c := by exact fun c _ => LsOK_none rfl c) : SpecOK Tryd.prog E0 149 (s149' G) :=
  aspec0_ok (ak := a149) (bl := b149) (e := e149) (g := G) (E0 := E0) (E := Env.withFns E0 [((161 : Nat), w161)]) tab (.cons wk161 .nil) rfl rfl hm Tryd.func149 (by kernel_rfl) [] (fun X Y => by obtain ⟨⟨h0_u, _⟩, _⟩ := Y; exact val_of (t149 h0_u) (hd h0_u)) IO L
abbrev w149 : FSpec := s149' fun _ _ => true
theorem wk149 : SpecOK Tryd.prog E0 149 w149 := k149' fun u => by cases u <;> rfl
end Z
def live112 (key : Nat) : Lv :=
  bif Nat.beq key 9996 then { ls := [14] } else
  { ls := [] }
def d112 (b : ByteArray) (h0_u : Bool) (h1 : List Int) : Tr (Int × Bool × List Int) :=
 Tr.ite (decide (List.length h1 + ByteArray.size b ≤ (140737488355328 : Nat))) (Tr.ret ((↑(ByteArray.size b) : Int), true, h1 ++ bytesL b)) Tr.fail
def e112 (r : Int × Bool × List Int) : FRes := { rs := Slot.tup [AV.one (Leaf.dat (.int .i64) r.fst), AV.one Leaf.nili], upd := [Blk.tb ( 132) r.snd.fst [Leaf.srow ( 2)], Blk.dead], new := [Blk.row ( 5) (Kd.int IntKind.u8) r.snd.snd] }
@[reducible] def a112 : List AK := [AK.c (Leaf.ptr (0 : Nat) (0 : Nat)), AK.d Kd.str]
@[reducible] def b112 : List BK := [BK.tb (132 : TypeId) [SK.c (Leaf.srow (1 : Nat))], BK.row (5 : TypeId) (Kd.int IntKind.u8)]
theorem t112 (b : ByteArray) (h0_u : Bool) (h1 : List Int) : evFn (Env.loops (Env.withFns E0 [((149 : Nat), w149)]) live112 fun (x : Nat) (x_1 : VS) => none) Tryd.f112 [PM.data (.int .i64), PM.raw] (akAV a112 (b, ())) (bkBs b112 ((h0_u, ()), h1, ())) = (d112 b h0_u h1).map e112 := by kernel_rfl
def s112 (C : akT a112 → bksT b112 → Bool) (G : akT a112 → bksT b112 → Int × Bool × List Int) : FSpec := aspec a112 b112 e112 (C) (G)
theorem k112 {C : akT a112 → bksT b112 → Bool} {G : akT a112 → bksT b112 → Int × Bool × List Int} (hd : ∀ (b : ByteArray) (h0_u : Bool) (h1 : List Int), C (b, ()) ((h0_u, ()), h1, ()) = true → (d112 b h0_u h1).val = some (G (b, ()) ((h0_u, ()), h1, ()))) (IO : ItOK Tryd.prog (Env.loops (Env.withFns E0 [((149 : Nat), w149)]) live112 fun (x : Nat) (x_1 : VS) => none) := by exact itOK_none rfl) (L : ∀ c, Tryd.f112.body = some c → LsOK (evI 2) ((Env.loops (Env.withFns E0 [((149 : Nat), w149)]) live112 fun (x : Nat) (x_1 : VS) => none).lend 2) c := by exact fun c _ => LsOK_none rfl c) : SpecOK Tryd.prog E0 112 (s112 C G) :=
  aspec_ok (ak := a112) (bl := b112) (e := e112) (c := C) (g := G) (E0 := E0) (E := Env.loops (Env.withFns E0 [((149 : Nat), w149)]) live112 fun (x : Nat) (x_1 : VS) => none) tab (.cons wk149 .nil) rfl rfl hm Tryd.func112 (by kernel_rfl) [PM.data (.int .i64), PM.raw] (fun X Y H => by obtain ⟨b, _⟩ := X; obtain ⟨⟨h0_u, _⟩, ⟨h1, _⟩⟩ := Y; exact val_of (t112 b h0_u h1) (hd b h0_u h1 H)) IO L
def live113 (key : Nat) : Lv :=
  bif Nat.beq key 9996 then { ls := [14] } else
  { ls := [] }
def d113 (b : Int) (h0_u : Bool) (h1 : List Int) : Tr (Bool × List Int) :=
 Tr.ite (decide ((List.length h1 + (1 : Nat)) * (1 : Nat) ≤ (140737488355328 : Nat))) (Tr.ret (true, h1 ++ [b])) Tr.fail
def e113 (r : Bool × List Int) : FRes := { rs := Slot.av (AV.one Leaf.nili), upd := [Blk.tb ( 132) r.fst [Leaf.srow ( 2)], Blk.dead], new := [Blk.row ( 5) (Kd.int IntKind.u8) r.snd] }
@[reducible] def a113 : List AK := [AK.c (Leaf.ptr (0 : Nat) (0 : Nat)), AK.d (Kd.int IntKind.u8)]
@[reducible] def b113 : List BK := [BK.tb (132 : TypeId) [SK.c (Leaf.srow (1 : Nat))], BK.row (5 : TypeId) (Kd.int IntKind.u8)]
theorem t113 (b : Int) (h0_u : Bool) (h1 : List Int) : evFn (Env.loops (Env.withFns E0 [((149 : Nat), w149)]) live113 fun (x : Nat) (x_1 : VS) => none) Tryd.f113 [PM.raw] (akAV a113 (b, ())) (bkBs b113 ((h0_u, ()), h1, ())) = (d113 b h0_u h1).map e113 := by kernel_rfl
def s113 (C : akT a113 → bksT b113 → Bool) (G : akT a113 → bksT b113 → Bool × List Int) : FSpec := aspec a113 b113 e113 (C) (G)
theorem k113 {C : akT a113 → bksT b113 → Bool} {G : akT a113 → bksT b113 → Bool × List Int} (hd : ∀ (b : Int) (h0_u : Bool) (h1 : List Int), C (b, ()) ((h0_u, ()), h1, ()) = true → (d113 b h0_u h1).val = some (G (b, ()) ((h0_u, ()), h1, ()))) (IO : ItOK Tryd.prog (Env.loops (Env.withFns E0 [((149 : Nat), w149)]) live113 fun (x : Nat) (x_1 : VS) => none) := by exact itOK_none rfl) (L : ∀ c, Tryd.f113.body = some c → LsOK (evI 2) ((Env.loops (Env.withFns E0 [((149 : Nat), w149)]) live113 fun (x : Nat) (x_1 : VS) => none).lend 2) c := by exact fun c _ => LsOK_none rfl c) : SpecOK Tryd.prog E0 113 (s113 C G) :=
  aspec_ok (ak := a113) (bl := b113) (e := e113) (c := C) (g := G) (E0 := E0) (E := Env.loops (Env.withFns E0 [((149 : Nat), w149)]) live113 fun (x : Nat) (x_1 : VS) => none) tab (.cons wk149 .nil) rfl rfl hm Tryd.func113 (by kernel_rfl) [PM.raw] (fun X Y H => by obtain ⟨b, _⟩ := X; obtain ⟨⟨h0_u, _⟩, ⟨h1, _⟩⟩ := Y; exact val_of (t113 b h0_u h1) (hd b h0_u h1 H)) IO L
def live114 (key : Nat) : Lv :=
  { ls := [] }
def d114 (h0_u : Bool) (h1 : List Int) : Tr (ByteArray × Bool) :=
 let v1 : Int := ((↑(List.length h1) : Int))
 let v2 : Int := ((↑(List.length h1) : Int))
 Tr.ite (decide (v2 = v1)) (Tr.ret (strOf h1, h0_u)) Tr.fail
def e114 (r : ByteArray × Bool) : FRes := { rs := Slot.av (AV.one (Leaf.dat Kd.str r.fst)), upd := [Blk.tb ( 132) r.snd [Leaf.srow ( 1)], Blk.dead], new := [] }
@[reducible] def a114 : List AK := [AK.c (Leaf.ptr (0 : Nat) (0 : Nat))]
@[reducible] def b114 : List BK := [BK.tb (132 : TypeId) [SK.c (Leaf.srow (1 : Nat))], BK.row (5 : TypeId) (Kd.int IntKind.u8)]
theorem t114 (h0_u : Bool) (h1 : List Int) : evFn (Env.loops (Env.withFns E0 [((149 : Nat), w149)]) live114 fun (x : Nat) (x_1 : VS) => none) Tryd.f114 [PM.data Kd.str] (akAV a114 ()) (bkBs b114 ((h0_u, ()), h1, ())) = (d114 h0_u h1).map e114 := by kernel_rfl
def s114' (G : akT a114 → bksT b114 → ByteArray × Bool) : FSpec := aspec0 a114 b114 e114 (G)
theorem k114' {G : akT a114 → bksT b114 → ByteArray × Bool} (hd : ∀ (h0_u : Bool) (h1 : List Int), (d114 h0_u h1).val = some (G () ((h0_u, ()), h1, ()))) (IO : ItOK Tryd.prog (Env.loops (Env.withFns E0 [((149 : Nat), w149)]) live114 fun (x : Nat) (x_1 : VS) => none) := by exact itOK_none rfl) (L : ∀ c, Tryd.f114.body = some c → LsOK (evI 2) ((Env.loops (Env.withFns E0 [((149 : Nat), w149)]) live114 fun (x : Nat) (x_1 : VS) => none).lend 2) c := by exact fun c _ => LsOK_none rfl c) : SpecOK Tryd.prog E0 114 (s114' G) :=
  aspec0_ok (ak := a114) (bl := b114) (e := e114) (g := G) (E0 := E0) (E := Env.loops (Env.withFns E0 [((149 : Nat), w149)]) live114 fun (x : Nat) (x_1 : VS) => none) tab (.cons wk149 .nil) rfl rfl hm Tryd.func114 (by kernel_rfl) [PM.data Kd.str] (fun X Y => by obtain ⟨⟨h0_u, _⟩, ⟨h1, _⟩⟩ := Y; exact val_of (t114 h0_u h1) (hd h0_u h1)) IO L
abbrev w112 : FSpec := s112 (fun x y => decide (List.length (α := Int) y.2.1 + ByteArray.size x.1 ≤ 140737488355328)) fun x y => ((ByteArray.size x.1 : Int), true, List.append (α := Int) y.2.1 (bytesL x.1))
theorem wk112 : SpecOK Tryd.prog E0 112 w112 := k112 fun b u h H => by
  simp only [d112, Tr.val, H, cond_true]
  rfl
abbrev w113 : FSpec := s113 (fun _ y => decide (List.length (α := Int) y.2.1 + 1 ≤ 140737488355328)) fun x y => (true, List.append (α := Int) y.2.1 [x.1])
theorem wk113 : SpecOK Tryd.prog E0 113 w113 := k113 fun b u h H => by
  have H : h.length + 1 ≤ 140737488355328 := of_decide_eq_true H
  simp only [d113, Tr.val, Nat.mul_one, H, decide_true, cond_true]
  rfl
abbrev w114 : FSpec := s114' fun _ y => (strOf y.2.1, y.1.1)
theorem wk114 : SpecOK Tryd.prog E0 114 w114 := k114' fun u h => by
  simp only [d114, Tr.val, decide_true, cond_true]
def live108 (key : Nat) : Lv :=
  bif Nat.beq key 20022 then { ls := [9999, 3, 6, 7, 8] } else bif Nat.beq key 40022 then { ls := [23] } else
  bif Nat.beq key 25006 then { ls := [9999, 3, 6, 7, 8, 22] } else bif Nat.beq key 45006 then { ls := [15, 16, 17, 18, 19, 20, 21, 22] } else
  bif Nat.beq key 20009 then { ls := [9999, 3, 6, 7, 8] } else bif Nat.beq key 40009 then { ls := [] } else
  bif Nat.beq key 3 then { ls := [3, 6, 7, 8], wd := [⟨3, some 0, .srow 5 (.int .u8)⟩] } else bif Nat.beq key 1003 then { ls := [3] } else
  bif Nat.beq key 9997 then { ls := [132] } else
  { ls := [] }
abbrev G108 : List (Nat × FSpec) := [(112, w112), (113, w113), (114, w114)]
theorem AG108 : AllFn Tryd.prog E0 G108 := .cons wk112 (.cons wk113 (.cons wk114 .nil))
abbrev M108 (ls : Nat → VS → Option (Tr (Ex × VS))) : Env := (E0.withFns G108).loops live108 ls
@[reducible] def p108_0 : LP := { n := 26, sl := [.c (Leaf.ptr ( 0) ( 0)), .d (Kd.sl celk), .d (.int .i64), .d (.int .i64)], bl := [(0, .tb 132 [.c (Leaf.srow ( 1))]), (1, .row 5 (Kd.int IntKind.u8))] }
def B108_0 (x1 : List Cell) (x2 : Int) (x3 : Int) (h0_u : Bool) (h1 : List Int) : Tr (p108_0.T ⊕ (Bool × List Int)) :=
 let v1 : List Int := (List.append h1 (bytesL (rget celk x1 x3).fst))
 Tr.ite (decide (x3 < x2)) (Tr.ite (inB x3 (List.length x1)) (Tr.ite (decide (List.length h1 + ByteArray.size (rget celk x1 x3).fst ≤ (140737488355328 : Nat))) (Tr.ite (decide ((rget celk x1 x3).fst = { data := #[] })) (Tr.ite (decide ((rget celk x1 x3).snd.fst = (1 : Int))) (Tr.ite (decide (List.length v1 + (1 : Nat) ≤ (140737488355328 : Nat))) (Tr.ret (Sum.inl ((x1, x2, IntKind.wrap IntKind.i64 (x3 + (1 : Int)), ()), (true, ()), List.append v1 [(32 : Int)], ()))) Tr.fail) (Tr.ret (Sum.inl ((x1, x2, IntKind.wrap IntKind.i64 (x3 + (1 : Int)), ()), (true, ()), v1, ())))) (Tr.ret (Sum.inl ((x1, x2, IntKind.wrap IntKind.i64 (x3 + (1 : Int)), ()), (true, ()), v1, ())))) Tr.fail) Tr.fail) (Tr.ret (Sum.inr (h0_u, h1)))
def X108_0 (r : (Bool × List Int)) : Ex × VS := Prod.mk (Ex.exit ( 0)) { n := 26, v := [Slot.av (AV.one (Leaf.ptr ( 0) ( 0)))], h := [( 0, Blk.tb ( 132) r.fst [Leaf.srow ( 1)]), ( 1, Blk.row ( 5) (Kd.int IntKind.u8) r.snd)] }
def b108_0 : p108_0.T → Tr (p108_0.T ⊕ (Bool × List Int)) := fun ⟨⟨x1, ⟨x2, ⟨x3, _⟩⟩⟩, ⟨⟨h0_u, _⟩, ⟨h1, _⟩⟩⟩ => B108_0 x1 x2 x3 h0_u h1
theorem h108_0 (ls : Nat → VS → Option (Tr (Ex × VS))) (x : p108_0.T) : (evC (evI 2) (lc Tryd.f108 0) (Env.lend (M108 ls) 0) (unV (live108 3) (p108_0.V x))).map (decL 0 (live108 3) (live108 1003)) = (b108_0 x).map (encR p108_0.V X108_0) := by
  obtain ⟨⟨x1, ⟨x2, ⟨x3, _⟩⟩⟩, ⟨⟨h0_u, _⟩, ⟨h1, _⟩⟩⟩ := x; kernel_rfl
theorem c108_0 (x : p108_0.T) : canV 0 (live108 3) (unV (live108 3) (p108_0.V x)) = p108_0.V x := by
  obtain ⟨⟨x1, ⟨x2, ⟨x3, _⟩⟩⟩, ⟨⟨h0_u, _⟩, ⟨h1, _⟩⟩⟩ := x; kernel_rfl
theorem l108_0 {T : p108_0.T → Tr (Bool × List Int)} {ls : Nat → VS → Option (Tr (Ex × VS))} (hls : ∀ x, (Env.lend (M108 ls) 0).ls 3 x = p108_0.ls (fun a => (T a).map X108_0) x) (hS : ∀ x r, (T x).val = some r → Rounds b108_0 x r) : LoopOK (evI 2) (Env.lend (M108 ls) 0) (lc Tryd.f108 0) :=
  loopA 3 (live108 3) (live108 1003) p108_0 b108_0 X108_0 T (by kernel_rfl) rfl rfl hls (h108_0 ls) c108_0 hS
end Go.Proofs.YtmnbcnhpklejcaaDoor
namespace U
open Go.Proofs.YtmnbcnhpklejcaaDoor
def sayC (c : ByteArray × Int × (Int × Int × Int × Unit) × Unit) : List Int := bytesL c.1 ++ bif (decide (c.1 = (⟨#[]⟩ : ByteArray)) && decide (c.2.1 = 1)) then [32] else []
def sayL (l : List (ByteArray × Int × (Int × Int × Int × Unit) × Unit)) : List Int := l.flatMap sayC
theorem say_fold (l : List (ByteArray × Int × (Int × Int × Int × Unit) × Unit)) : ∀ u (s : List Int), l.foldl (fun (s : Bool × List Int) c => (true, s.2 ++ sayC c)) (u, s) = (u || !decide (l.length = 0), s ++ sayL l) := by
  induction l with
  | nil => intro u s; simp [sayL]
  | cons c l ih =>
    intro u s
    rw [List.foldl_cons, ih]
    simp [sayL, List.flatMap_cons]
end U
namespace Go.Proofs.YtmnbcnhpklejcaaDoor
def T108 (x : p108_0.T) : Tr (Bool × List Int) :=
  .ite (decide ((x.1.2.2.1 : Int) = 0 ∧ (x.1.2.1 : Int) = (List.length (α := Cell) x.1.1 : Int) ∧ List.length (α := Cell) x.1.1 ≤ 1048576 ∧ List.length (α := Int) x.2.2.1 + List.length (α := Int) (U.sayL x.1.1) ≤ 140737488355328))
    (.ret (x.2.1.1 || !decide (List.length (α := Cell) x.1.1 = 0), List.append (α := Int) x.2.2.1 (U.sayL x.1.1))) .fail
abbrev E108 : Env := M108 fun key x => bif Nat.beq key 3 then p108_0.ls (fun a => (T108 a).map X108_0) x else none
theorem L108 : LoopOK (evI 2) (E108.lend 0) (lc Tryd.f108 0) := by
  refine l108_0 (T := T108) (fun x => rfl) ?_
  rintro ⟨⟨l, n, j, z⟩, ⟨u, z1⟩, h, z2⟩ r hh
  obtain ⟨g1, g2⟩ := pre_val hh
  have g1 : (j : Int) = 0 ∧ (n : Int) = (l.length : Int) ∧ l.length ≤ 1048576 ∧ h.length + (U.sayL l).length ≤ 140737488355328 := of_decide_eq_true g1
  obtain ⟨rfl, rfl, e3, e4⟩ := g1
  cases g2
  have := Rounds.fold0 (B := b108_0) l (fun i (s : Bool × List Int) => ((l, (l.length : Int), (i : Int), ()), (s.1, ()), s.2, ())) (fun (s : Bool × List Int) c => (true, s.2 ++ U.sayC c)) (fun s => s) (fun i s => s.2.length + (U.sayL (l.drop i)).length ≤ 140737488355328) (u, h) (by show h.length + (U.sayL (l.drop 0)).length ≤ _; rw [List.drop_zero]; exact e4) (fun i s hi hv => ?_) (fun s hv => ?_)
  · rw [U.say_fold] at this
    exact this
  · obtain ⟨su, ss⟩ := s
    have e : rget celk l (i : Int) = l[i] := by rw [rgetC]; exact getD_el hi
    have hd : l.drop i = l[i] :: l.drop (i + 1) := List.drop_eq_getElem_cons hi
    have hv : ss.length + (U.sayL (l.drop i)).length ≤ 140737488355328 := hv
    rw [hd] at hv
    have h5 : (U.sayL (l[i] :: l.drop (i + 1))).length = (U.sayC l[i]).length + (U.sayL (l.drop (i + 1))).length := by unfold U.sayL; rw [List.flatMap_cons, List.length_append]
    rw [h5] at hv
    generalize hc : l[i] = c at *
    obtain ⟨ct, cw, ca, cz⟩ := c
    have h6 : (U.sayC (ct, cw, ca, cz)).length = ct.size + (bif (decide (ct = (⟨#[]⟩ : ByteArray)) && decide (cw = 1)) then 1 else 0) := by
      unfold U.sayC
      rw [List.length_append, Go.Ev.bytesL_size]
      cases (decide (ct = (⟨#[]⟩ : ByteArray)) && decide (cw = 1)) <;> rfl
    have h7 : ss.length + ct.size ≤ 140737488355328 := by omega
    have w : IntKind.wrap IntKind.i64 ((i : Int) + 1) = ((i + 1 : Nat) : Int) := wrap64_nat (show i ≤ 1048576 by omega)
    generalize hq : (U.sayL (l.drop (i + 1))).length = q at *
    refine ⟨?_, by show (ss ++ U.sayC (ct, cw, ca, cz)).length + q ≤ _; rw [List.length_append]; omega⟩
    by_cases c1 : ct = (⟨#[]⟩ : ByteArray)
    · subst c1
      by_cases c2 : cw = 1
      · subst c2
        have h8 : (List.append ss (bytesL (⟨#[]⟩ : ByteArray))).length + 1 ≤ 140737488355328 := by
          show (ss ++ bytesL (⟨#[]⟩ : ByteArray)).length + 1 ≤ _
          rw [List.length_append, Go.Ev.bytesL_size]
          have h6' : (bif (decide ((⟨#[]⟩ : ByteArray) = (⟨#[]⟩ : ByteArray)) && decide ((1 : Int) = 1)) then 1 else 0 : Nat) = 1 := rfl
          rw [h6'] at h6
          omega
        simp only [b108_0, B108_0, Tr.val, inB_nat hi, e, h7, h8, w, show ((i : Int) < (l.length : Int)) by omega, decide_true, cond_true, U.sayC, Bool.and_self]
        rw [← List.append_assoc]
        rfl
      · have e0 : decide (cw = 1) = false := decide_eq_false c2
        simp only [b108_0, B108_0, Tr.val, inB_nat hi, e, h7, w, e0, show ((i : Int) < (l.length : Int)) by omega, decide_true, cond_true, cond_false, U.sayC, Bool.and_false, List.append_nil]
        rfl
    · have e0 : decide (ct = (⟨#[]⟩ : ByteArray)) = false := decide_eq_false c1
      simp only [b108_0, B108_0, Tr.val, inB_nat hi, e, h7, w, e0, show ((i : Int) < (l.length : Int)) by omega, decide_true, cond_true, cond_false, U.sayC, Bool.false_and, List.append_nil]
      rfl
  · simp only [b108_0, B108_0, Tr.val, show ¬ ((l.length : Int) < (l.length : Int)) by omega, decide_false, cond_false]
def d108 (a : List Cell) : Tr (ByteArray) :=
 let v1 : Int := ((↑(List.length a) : Int))
 let v2 : Int := ((↑(List.length a) : Int))
 Tr.ite (decide ((0 : Int) = (0 : Int) ∧ v2 = v1 ∧ List.length a ≤ (1048576 : Nat) ∧ (0 : Nat) + List.length (U.sayL a) ≤ (140737488355328 : Nat))) (Tr.ret (strOf (List.append [] (U.sayL a)))) Tr.fail
def e108 (r : ByteArray) : FRes := { rs := Slot.av (AV.one (Leaf.dat Kd.str r)), upd := [], new := [] }
@[reducible] def a108 : List AK := [AK.d (Kd.sl celk)]
@[reducible] def b108 : List BK := []
theorem t108 (a : List Cell) : evFn (E108) Tryd.f108 [PM.data Kd.str] (akAV a108 (a, ())) (bkBs b108 ()) = (d108 a).map e108 := by kernel_rfl
def s108 (C : akT a108 → Bool) (G : akT a108 → ByteArray) : FSpec := aspec a108 b108 e108 (fun x _ => C x) (fun x _ => G x)
theorem k108 {C : akT a108 → Bool} {G : akT a108 → ByteArray} (hd : ∀ (a : List Cell), C (a, ()) = true → (d108 a).val = some (G (a, ()))) (IO : ItOK Tryd.prog (E108) := by exact itOK_none rfl) (L : ∀ c, Tryd.f108.body = some c → LsOK (evI 2) ((E108).lend 0) c := by exact fun c _ => LsOK_none rfl c) : SpecOK Tryd.prog E0 108 (s108 C G) :=
  aspec_ok (ak := a108) (bl := b108) (e := e108) (c := fun x _ => C x) (g := fun x _ => G x) (E0 := E0) (E := E108) tab AG108 rfl rfl hm Tryd.func108 (by kernel_rfl) [PM.data Kd.str] (fun X Y H => by obtain ⟨a, _⟩ := X; exact val_of (t108 a) (hd a H)) IO L
abbrev w108 : FSpec := s108 (fun x => decide (List.length (α := Cell) x.1 ≤ 1048576 ∧ List.length (α := Int) (U.sayL x.1) ≤ 140737488355328)) fun x => strOf (U.sayL x.1)
theorem wk108 : SpecOK Tryd.prog E0 108 w108 := by
  refine k108 (fun l H => ?_) (L := ls_ok (lcs := [lc Tryd.f108 0]) (rgs := []) (by kernel_rfl) (by kernel_rfl) L108 trivial)
  have H : l.length ≤ 1048576 ∧ (U.sayL l).length ≤ 140737488355328 := of_decide_eq_true H
  obtain ⟨h1, h2⟩ := H
  simp only [d108, Tr.val, h1, h2, Nat.zero_add, and_self, decide_true, cond_true]
  rfl
end Go.Proofs.YtmnbcnhpklejcaaDoor
end
section
set_option linter.unusedVariables false
set_option linter.unusedSimpArgs false
set_option maxRecDepth 20000
set_option maxHeartbeats 4000000
namespace U
def pre (a b : ByteArray) : Bool := decide (b.size ≤ a.size) && decide (a.extract 0 b.size = b)
def orI : List Int → Int
  | [] => 0
  | y :: l => if y = 0 then orI l else y
def cmpI (a b : Int) : Int := if a < b then -1 else if b < a then 1 else 0
end U
open Go Go.Ev
namespace Go.Proofs.YtmnbcnhpklejcaaDoor
open Go.RowKit
def d145 (a : ByteArray) (b : ByteArray) : Tr (Bool) :=
 let v1 : ByteArray := (ByteArray.extract a (0 : Nat) (Int.toNat (↑(ByteArray.size b) : Int)))
 Tr.ite (decide ((↑(ByteArray.size b) : Int) ≤ (↑(ByteArray.size a) : Int))) (Tr.ite (decide ((0 : Int) ≤ (↑(ByteArray.size b) : Int) ∧ (↑(ByteArray.size b) : Int) ≤ (↑(ByteArray.size a) : Int))) (Tr.ret (decide (v1 = b))) Tr.fail) (Tr.ret false)
def e145 (r : Bool) : FRes := { rs := Slot.av (AV.one (Leaf.dat Kd.bool r)), upd := [], new := [] }
@[reducible] def a145 : List AK := [AK.d Kd.str, AK.d Kd.str]
@[reducible] def b145 : List BK := []
theorem t145 (a : ByteArray) (b : ByteArray) : evFn (E0) Tryd.f145 [PM.data Kd.bool] (akAV a145 (a, b, ())) (bkBs b145 ()) = (d145 a b).map e145 := by kernel_rfl
def s145' (G : akT a145 → Bool) : FSpec := aspec0 a145 b145 e145 (fun x _ => G x)
theorem k145' {G : akT a145 → Bool} (hd : ∀ (a : ByteArray) (b : ByteArray), (d145 a b).val = some (G (a, b, ()))) (IO : ItOK Tryd.prog (E0) := by exact itOK_none rfl) (L : ∀ c, Tryd.f145.body = some c → LsOK (evI 2) ((E0).lend 0) c := by exact fun c _ => LsOK_none rfl c) : SpecOK Tryd.prog E0 145 (s145' G) :=
  aspec0_ok (ak := a145) (bl := b145) (e := e145) (g := fun x _ => G x) (E0 := E0) (E := E0) tab .nil rfl rfl hm Tryd.func145 (by kernel_rfl) [PM.data Kd.bool] (fun X Y => by obtain ⟨a, ⟨b, _⟩⟩ := X; exact val_of (t145 a b) (hd a b)) IO L
abbrev w145 : FSpec := s145' fun x => U.pre x.1 x.2.1
theorem wk145 : SpecOK Tryd.prog E0 145 w145 := k145' fun a b => by
  show _ = some (U.pre a b)
  unfold U.pre
  by_cases h : b.size ≤ a.size
  · simp only [d145, Tr.val, h, Int.ofNat_le, Int.natCast_nonneg, Int.toNat_natCast, and_self, decide_true, cond_true, Bool.true_and]
  · simp only [d145, Tr.val, h, Int.ofNat_le, decide_false, cond_false, Bool.false_and]
def d107 (a : ByteArray) (b : ByteArray) : Tr (Bool) :=
 Tr.ret (U.pre a b)
def e107 (r : Bool) : FRes := { rs := Slot.av (AV.one (Leaf.dat Kd.bool r)), upd := [], new := [] }
@[reducible] def a107 : List AK := [AK.d Kd.str, AK.d Kd.str]
@[reducible] def b107 : List BK := []
theorem t107 (a : ByteArray) (b : ByteArray) : evFn (Env.withFns E0 [((145 : Nat), w145)]) Tryd.f107 [PM.data Kd.bool] (akAV a107 (a, b, ())) (bkBs b107 ()) = (d107 a b).map e107 := by kernel_rfl
def s107' (G : akT a107 → Bool) : FSpec := aspec0 a107 b107 e107 (fun x _ => G x)
theorem k107' {G : akT a107 → Bool} (hd : ∀ (a : ByteArray) (b : ByteArray), (d107 a b).val = some (G (a, b, ()))) (IO : ItOK Tryd.prog (Env.withFns E0 [((145 : Nat), w145)]) := by exact itOK_none rfl) (L : ∀ c, Tryd.f107.body = some c → LsOK (evI 2) ((Env.withFns E0 [((145 : Nat), w145)]).lend 0) c := by exact fun c _ => LsOK_none rfl c) : SpecOK Tryd.prog E0 107 (s107' G) :=
  aspec0_ok (ak := a107) (bl := b107) (e := e107) (g := fun x _ => G x) (E0 := E0) (E := Env.withFns E0 [((145 : Nat), w145)]) tab (.cons wk145 .nil) rfl rfl hm Tryd.func107 (by kernel_rfl) [PM.data Kd.bool] (fun X Y => by obtain ⟨a, ⟨b, _⟩⟩ := X; exact val_of (t107 a b) (hd a b)) IO L
abbrev w107 : FSpec := s107' fun x => U.pre x.1 x.2.1
theorem wk107 : SpecOK Tryd.prog E0 107 w107 := k107' fun a b => rfl
def d144 (a : Int) : Tr (Bool) :=
 Tr.ret !decide (a = a)
def e144 (r : Bool) : FRes := { rs := Slot.av (AV.one (Leaf.dat Kd.bool r)), upd := [], new := [] }
@[reducible] def a144 : List AK := [AK.d (.int .i64)]
@[reducible] def b144 : List BK := []
theorem t144 (a : Int) : evFn (E0) Tryd.f144 [PM.data Kd.bool] (akAV a144 (a, ())) (bkBs b144 ()) = (d144 a).map e144 := by kernel_rfl
def s144' (G : akT a144 → Bool) : FSpec := aspec0 a144 b144 e144 (fun x _ => G x)
theorem k144' {G : akT a144 → Bool} (hd : ∀ (a : Int), (d144 a).val = some (G (a, ()))) (IO : ItOK Tryd.prog (E0) := by exact itOK_none rfl) (L : ∀ c, Tryd.f144.body = some c → LsOK (evI 2) ((E0).lend 0) c := by exact fun c _ => LsOK_none rfl c) : SpecOK Tryd.prog E0 144 (s144' G) :=
  aspec0_ok (ak := a144) (bl := b144) (e := e144) (g := fun x _ => G x) (E0 := E0) (E := E0) tab .nil rfl rfl hm Tryd.func144 (by kernel_rfl) [PM.data Kd.bool] (fun X Y => by obtain ⟨a, _⟩ := X; exact val_of (t144 a) (hd a)) IO L
abbrev w144 : FSpec := s144' fun _ => false
theorem wk144 : SpecOK Tryd.prog E0 144 w144 := k144' fun a => by simp only [d144, Tr.val, decide_true, Bool.not_true]
def d106 (a : Int) (b : Int) : Tr (Int) :=
 Tr.ite false (Tr.ite false (Tr.ret (0 : Int)) (Tr.ret (-1 : Int))) (Tr.ite false (Tr.ret (1 : Int)) (Tr.ite (decide (a < b)) (Tr.ret (-1 : Int)) (Tr.ite (decide (b < a)) (Tr.ret (1 : Int)) (Tr.ret (0 : Int)))))
def e106 (r : Int) : FRes := { rs := Slot.av (AV.one (Leaf.dat (.int .i64) r)), upd := [], new := [] }
@[reducible] def a106 : List AK := [AK.d (.int .i64), AK.d (.int .i64)]
@[reducible] def b106 : List BK := []
theorem t106 (a : Int) (b : Int) : evFn (Env.withFns E0 [((144 : Nat), w144)]) Tryd.f106 [PM.data (.int .i64)] (akAV a106 (a, b, ())) (bkBs b106 ()) = (d106 a b).map e106 := by kernel_rfl
def s106' (G : akT a106 → Int) : FSpec := aspec0 a106 b106 e106 (fun x _ => G x)
theorem k106' {G : akT a106 → Int} (hd : ∀ (a : Int) (b : Int), (d106 a b).val = some (G (a, b, ()))) (IO : ItOK Tryd.prog (Env.withFns E0 [((144 : Nat), w144)]) := by exact itOK_none rfl) (L : ∀ c, Tryd.f106.body = some c → LsOK (evI 2) ((Env.withFns E0 [((144 : Nat), w144)]).lend 0) c := by exact fun c _ => LsOK_none rfl c) : SpecOK Tryd.prog E0 106 (s106' G) :=
  aspec0_ok (ak := a106) (bl := b106) (e := e106) (g := fun x _ => G x) (E0 := E0) (E := Env.withFns E0 [((144 : Nat), w144)]) tab (.cons wk144 .nil) rfl rfl hm Tryd.func106 (by kernel_rfl) [PM.data (.int .i64)] (fun X Y => by obtain ⟨a, ⟨b, _⟩⟩ := X; exact val_of (t106 a b) (hd a b)) IO L
abbrev w106 : FSpec := s106' fun x => U.cmpI x.1 x.2.1
theorem wk106 : SpecOK Tryd.prog E0 106 w106 := k106' fun a b => by
  show _ = some (U.cmpI a b)
  unfold U.cmpI
  by_cases h1 : a < b
  · simp only [d106, Tr.val, h1, decide_true, cond_true, cond_false, if_true]
  · by_cases h2 : b < a
    · simp only [d106, Tr.val, h1, h2, decide_true, decide_false, cond_true, cond_false, if_true, if_false]
    · simp only [d106, Tr.val, h1, h2, decide_false, cond_true, cond_false, if_false]
def live105 (key : Nat) : Lv :=
  bif Nat.beq key 3 then { ls := [3, 6, 7, 8] } else bif Nat.beq key 1003 then { ls := [2, 3] } else
  { ls := [] }
abbrev M105 (ls : Nat → VS → Option (Tr (Ex × VS))) : Env := E0.loops live105 ls
@[reducible] def p105_0 : LP := { n := 18, sl := [.d (.int .i64), .d (Kd.sl (.int .i64)), .d (.int .i64), .d (.int .i64)], bl := [] }
def B105_0 (x0 : Int) (x1 : List Int) (x2 : Int) (x3 : Int) : Tr (p105_0.T ⊕ (Int × Int ⊕ Int)) :=
 Tr.ite (decide (x3 < x2)) (Tr.ite (inB x3 (List.length x1)) (Tr.ite (!decide (rget (.int .i64) x1 x3 = x0)) (Tr.ret (Sum.inr (Sum.inl (rget (.int .i64) x1 x3, x0)))) (Tr.ret (Sum.inl ((x0, x1, x2, IntKind.wrap IntKind.i64 (x3 + (1 : Int)), ()), ())))) Tr.fail) (Tr.ret (Sum.inr (Sum.inr x0)))
def X105_0 : (Int × Int ⊕ Int) → Ex × VS
  | (.inl r) => Prod.mk Ex.ret { n := 18, v := [Slot.av (AV.one (Leaf.dat (.int .i64) r.fst)), Slot.av (AV.one (Leaf.dat (.int .i64) r.snd))], h := [] }
  | (.inr r) => Prod.mk (Ex.exit ( 0)) { n := 18, v := [Slot.av (AV.one Leaf.undef), Slot.av (AV.one (Leaf.dat (.int .i64) r))], h := [] }
def b105_0 : p105_0.T → Tr (p105_0.T ⊕ (Int × Int ⊕ Int)) := fun ⟨⟨x0, ⟨x1, ⟨x2, ⟨x3, _⟩⟩⟩⟩, _⟩ => B105_0 x0 x1 x2 x3
theorem h105_0 (ls : Nat → VS → Option (Tr (Ex × VS))) (x : p105_0.T) : (evC (evI 2) (lc Tryd.f105 0) (Env.lend (M105 ls) 0) (unV (live105 3) (p105_0.V x))).map (decL 0 (live105 3) (live105 1003)) = (b105_0 x).map (encR p105_0.V X105_0) := by
  obtain ⟨⟨x0, ⟨x1, ⟨x2, ⟨x3, _⟩⟩⟩⟩, _⟩ := x; kernel_rfl
theorem c105_0 (x : p105_0.T) : canV 0 (live105 3) (unV (live105 3) (p105_0.V x)) = p105_0.V x := by
  obtain ⟨⟨x0, ⟨x1, ⟨x2, ⟨x3, _⟩⟩⟩⟩, _⟩ := x; kernel_rfl
theorem l105_0 {T : p105_0.T → Tr (Int × Int ⊕ Int)} {ls : Nat → VS → Option (Tr (Ex × VS))} (hls : ∀ x, (Env.lend (M105 ls) 0).ls 3 x = p105_0.ls (fun a => (T a).map X105_0) x) (hS : ∀ x r, (T x).val = some r → Rounds b105_0 x r) : LoopOK (evI 2) (Env.lend (M105 ls) 0) (lc Tryd.f105 0) :=
  loopA 3 (live105 3) (live105 1003) p105_0 b105_0 X105_0 T (by kernel_rfl) rfl rfl hls (h105_0 ls) c105_0 hS
end Go.Proofs.YtmnbcnhpklejcaaDoor
namespace U
theorem or_foldE (l : List Int) : (match foldE (fun (_ : Unit) (y : Int) => (if y = 0 then .inl () else .inr (.inl (y, 0)) : Unit ⊕ (Int × Int ⊕ Int))) l () with | .inl _ => .inr 0 | .inr r => r) = (if orI l = 0 then .inr 0 else .inl (orI l, 0) : Int × Int ⊕ Int) := by
  induction l with
  | nil => rfl
  | cons y l ih =>
    by_cases h : y = 0
    · simp only [foldE, orI, h, if_true]
      exact ih
    · simp only [foldE, orI, h, if_false]
end U
namespace Go.Proofs.YtmnbcnhpklejcaaDoor
def T105 (x : p105_0.T) : Tr (Int × Int ⊕ Int) :=
  .ite (decide ((x.1.1 : Int) = 0 ∧ (x.1.2.2.2.1 : Int) = 0 ∧ (x.1.2.2.1 : Int) = (List.length (α := Int) x.1.2.1 : Int) ∧ List.length (α := Int) x.1.2.1 ≤ 1048576))
    (.ite (decide (U.orI x.1.2.1 = 0)) (.ret (.inr 0)) (.ret (.inl (U.orI x.1.2.1, 0)))) .fail
abbrev E105 : Env := M105 fun key x => bif Nat.beq key 3 then p105_0.ls (fun a => (T105 a).map X105_0) x else none
theorem L105 : LoopOK (evI 2) (E105.lend 0) (lc Tryd.f105 0) := by
  refine l105_0 (T := T105) (fun x => rfl) ?_
  rintro ⟨⟨o, l, n, j, z⟩, z1⟩ r hh
  obtain ⟨g1, g2⟩ := pre_val hh
  have g1 : (o : Int) = 0 ∧ (j : Int) = 0 ∧ (n : Int) = (l.length : Int) ∧ l.length ≤ 1048576 := of_decide_eq_true g1
  obtain ⟨rfl, rfl, rfl, e4⟩ := g1
  have g3 : r = (if U.orI l = 0 then .inr 0 else .inl (U.orI l, 0) : Int × Int ⊕ Int) := by
    by_cases h : U.orI l = 0
    · simp only [Tr.val, h, decide_true, cond_true] at g2
      cases g2
      rw [if_pos h]
    · simp only [Tr.val, h, decide_false, cond_false] at g2
      cases g2
      rw [if_neg h]
  subst g3
  have := Rounds.range0 (B := b105_0) l (fun i (s : Unit) => ((0, l, (l.length : Int), (i : Int), ()), ())) (fun (_ : Unit) (y : Int) => (if y = 0 then .inl () else .inr (.inl (y, 0)) : Unit ⊕ (Int × Int ⊕ Int))) (fun _ => .inr 0) (fun _ _ => True) (fun i s hi _ => ?_) (fun s _ => ?_) () trivial
  · have e2 := U.or_foldE l
    generalize hf : foldE (fun (_ : Unit) (y : Int) => (if y = 0 then .inl () else .inr (.inl (y, 0)) : Unit ⊕ (Int × Int ⊕ Int))) l () = F at this e2
    cases F with
    | inl s => rw [← e2]; exact this
    | inr s => rw [← e2]; exact this
  · have e : rget (.int .i64) l (i : Int) = l[i] := by rw [rget_nat]; exact getD_el hi
    have w : IntKind.wrap IntKind.i64 ((i : Int) + 1) = ((i + 1 : Nat) : Int) := wrap64_nat (show i ≤ 1048576 by omega)
    by_cases h : l[i] = 0
    · refine ⟨fun s' _ => ⟨?_, trivial⟩, fun r hr => by rw [if_pos h] at hr; cases hr⟩
      simp only [b105_0, B105_0, Tr.val, inB_nat hi, e, h, w, show ((i : Int) < (l.length : Int)) by omega, decide_true, cond_true, cond_false, Bool.not_true]
    · refine ⟨fun s' hr => (by rw [if_neg h] at hr; cases hr), fun r hr => ?_⟩
      rw [if_neg h] at hr
      cases hr
      simp only [b105_0, B105_0, Tr.val, inB_nat hi, e, h, show ((i : Int) < (l.length : Int)) by omega, decide_true, decide_false, cond_true, Bool.not_false]
  · simp only [b105_0, B105_0, Tr.val, show ¬ ((l.length : Int) < (l.length : Int)) by omega, decide_false, cond_false]
def d105 (a : List Int) : Tr (Int) :=
 let v1 : Int := ((↑(List.length a) : Int))
 let v2 : Int := ((↑(List.length a) : Int))
 Tr.ite (decide ((0 : Int) = (0 : Int) ∧ (0 : Int) = (0 : Int) ∧ v2 = v1 ∧ List.length a ≤ (1048576 : Nat))) (Tr.ite (decide (U.orI a = (0 : Int))) (Tr.ret (0 : Int)) (Tr.ret (U.orI a))) Tr.fail
def e105 (r : Int) : FRes := { rs := Slot.av (AV.one (Leaf.dat (.int .i64) r)), upd := [], new := [] }
@[reducible] def a105 : List AK := [AK.d (Kd.sl (.int .i64))]
@[reducible] def b105 : List BK := []
theorem t105 (a : List Int) : evFn (E105) Tryd.f105 [PM.data (.int .i64)] (akAV a105 (a, ())) (bkBs b105 ()) = (d105 a).map e105 := by kernel_rfl
def s105 (C : akT a105 → Bool) (G : akT a105 → Int) : FSpec := aspec a105 b105 e105 (fun x _ => C x) (fun x _ => G x)
theorem k105 {C : akT a105 → Bool} {G : akT a105 → Int} (hd : ∀ (a : List Int), C (a, ()) = true → (d105 a).val = some (G (a, ()))) (IO : ItOK Tryd.prog (E105) := by exact itOK_none rfl) (L : ∀ c, Tryd.f105.body = some c → LsOK (evI 2) ((E105).lend 0) c := by exact fun c _ => LsOK_none rfl c) : SpecOK Tryd.prog E0 105 (s105 C G) :=
  aspec_ok (ak := a105) (bl := b105) (e := e105) (c := fun x _ => C x) (g := fun x _ => G x) (E0 := E0) (E := E105) tab .nil rfl rfl hm Tryd.func105 (by kernel_rfl) [PM.data (.int .i64)] (fun X Y H => by obtain ⟨a, _⟩ := X; exact val_of (t105 a) (hd a H)) IO L
abbrev w105 : FSpec := s105 (fun x => decide (List.length (α := Int) x.1 ≤ 1048576)) fun x => U.orI x.1
theorem wk105 : SpecOK Tryd.prog E0 105 w105 := by
  refine k105 (fun l H => ?_) (L := ls_ok (lcs := [lc Tryd.f105 0]) (rgs := []) (by kernel_rfl) (by kernel_rfl) L105 trivial)
  have H : l.length ≤ 1048576 := of_decide_eq_true H
  by_cases h : U.orI l = 0
  · simp only [d105, Tr.val, H, h, and_self, decide_true, cond_true]
  · simp only [d105, Tr.val, H, h, and_self, decide_true, decide_false, cond_true, cond_false]
end Go.Proofs.YtmnbcnhpklejcaaDoor
end
section
set_option linter.unusedVariables false
set_option linter.unusedSimpArgs false
set_option maxRecDepth 20000
set_option maxHeartbeats 4000000
open Go Go.Ev
namespace U
def there (l : List Ln) (r c : Int) : Bool := decide (0 ≤ r) && (decide (r < (l.length : Int)) && (decide (0 ≤ c) && decide (c < ((l.getD r.toNat dL).1.length : Int))))
def behind (a b c d : Int) : Bool := decide (c < a) || (decide (a = c) && decide (d < b))
end U
namespace Go.Proofs.YtmnbcnhpklejcaaDoor
open Go.RowKit
def live43 (key : Nat) : Lv :=
  bif Nat.beq key 7 then { ls := [3, 6, 13, 14, 15, 28, 29, 30], wd := [⟨6, some 0, .row 48 celk⟩] } else bif Nat.beq key 1007 then { ls := [3, 6, 13, 14, 15] } else
  bif Nat.beq key 3 then { ls := [3, 13, 14, 15], wd := [⟨3, none, .row 34 link⟩] } else bif Nat.beq key 1003 then { ls := [3] } else
  { ls := [] }
abbrev M43 (ls : Nat → VS → Option (Tr (Ex × VS))) : Env := (E0.withFns []).loops live43 ls
@[reducible] def p43_0 : LP := { n := 55, sl := [.c (Leaf.row ( 0)), .d (Kd.sl link), .d (.int .i64), .d (.int .i64)], bl := [(0, .row 34 (link))] }
@[reducible] def p43_1 : LP := { n := 55, sl := [.c (Leaf.row ( 0)), .c (Leaf.ptr ( 1) ( 0)), .d (Kd.sl link), .d (.int .i64), .d (.int .i64), .d (Kd.sl celk), .d (.int .i64), .d (.int .i64)], bl := [(0, .row 34 (link)), (1, .box [.c (Leaf.row ( 2)), .d (Kd.bool)]), (2, .row 48 (celk))] }
def B43_1 (x2 : List Line) (x3 : Int) (x4 : Int) (x5 : List Cell) (x6 : Int) (x7 : Int) (h0 : List Line) (h1_1 : Bool) (h2 : List Cell) : Tr (p43_1.T ⊕ (List Line × Int × Int × List Line × Bool × List Cell)) :=
 let v1 : Int := ((↑(ByteArray.size (rget celk x5 x7).fst) : Int))
 let v2 : Int := (minI v1 (20 : Int))
 Tr.ite (decide (x7 < x6)) (Tr.ite (inB x7 (List.length x5)) (Tr.ite (decide ((0 : Int) ≤ v2 ∧ v2 ≤ v1)) (Tr.ite (decide ((List.length h2 + (1 : Nat)) * (48 : Nat) ≤ (140737488355328 : Nat))) (Tr.ret (Sum.inl ((x2, x3, x4, x5, x6, IntKind.wrap IntKind.i64 (x7 + (1 : Int)), ()), h0, (h1_1, ()), h2 ++ [(ByteArray.extract (rget celk x5 x7).fst (0 : Nat) (Int.toNat v2), (rget celk x5 x7).snd)], ()))) Tr.fail) Tr.fail) Tr.fail) (Tr.ret (Sum.inr (x2, x3, x4, h0, h1_1, h2)))
def X43_1 (r : (List Line × Int × Int × List Line × Bool × List Cell)) : Ex × VS := Prod.mk (Ex.exit ( 2)) { n := 55, v := [Slot.av (AV.one (Leaf.row ( 0))), Slot.av (AV.one (Leaf.ptr ( 1) ( 0))), Slot.av (AV.one (Leaf.dat (Kd.sl link) r.fst)), Slot.av (AV.one (Leaf.dat (.int .i64) r.snd.fst)), Slot.av (AV.one (Leaf.dat (.int .i64) r.snd.snd.fst))], h := [( 0, Blk.row ( 34) link r.snd.snd.snd.fst), ( 1, Blk.box [Leaf.row ( 2), Leaf.dat Kd.bool r.snd.snd.snd.snd.fst]), ( 2, Blk.row ( 48) celk r.snd.snd.snd.snd.snd)] }
def b43_1 : p43_1.T → Tr (p43_1.T ⊕ (List Line × Int × Int × List Line × Bool × List Cell)) := fun ⟨⟨x2, ⟨x3, ⟨x4, ⟨x5, ⟨x6, ⟨x7, _⟩⟩⟩⟩⟩⟩, ⟨h0, ⟨⟨h1_1, _⟩, ⟨h2, _⟩⟩⟩⟩ => B43_1 x2 x3 x4 x5 x6 x7 h0 h1_1 h2
theorem h43_1 (ls : Nat → VS → Option (Tr (Ex × VS))) (x : p43_1.T) : (evC (evI 2) (lc Tryd.f43 1) (Env.lend (M43 ls) 0) (unV (live43 7) (p43_1.V x))).map (decL 0 (live43 7) (live43 1007)) = (b43_1 x).map (encR p43_1.V X43_1) := by
  obtain ⟨⟨x2, ⟨x3, ⟨x4, ⟨x5, ⟨x6, ⟨x7, _⟩⟩⟩⟩⟩⟩, ⟨h0, ⟨⟨h1_1, _⟩, ⟨h2, _⟩⟩⟩⟩ := x; kernel_rfl
theorem c43_1 (x : p43_1.T) : canV 0 (live43 7) (unV (live43 7) (p43_1.V x)) = p43_1.V x := by
  obtain ⟨⟨x2, ⟨x3, ⟨x4, ⟨x5, ⟨x6, ⟨x7, _⟩⟩⟩⟩⟩⟩, ⟨h0, ⟨⟨h1_1, _⟩, ⟨h2, _⟩⟩⟩⟩ := x; kernel_rfl
theorem l43_1 {T : p43_1.T → Tr (List Line × Int × Int × List Line × Bool × List Cell)} {ls : Nat → VS → Option (Tr (Ex × VS))} (hls : ∀ x, (Env.lend (M43 ls) 0).ls 7 x = p43_1.ls (fun a => (T a).map X43_1) x) (hS : ∀ x r, (T x).val = some r → Rounds b43_1 x r) : LoopOK (evI 2) (Env.lend (M43 ls) 0) (lc Tryd.f43 1) :=
  loopA 7 (live43 7) (live43 1007) p43_1 b43_1 X43_1 T (by kernel_rfl) rfl rfl hls (h43_1 ls) c43_1 hS
def T43_1 (x : p43_1.T) : Tr (List Line × Int × Int × List Line × Bool × List Cell) :=
  .ite (decide ((x.1.2.2.2.2.1 : Int) = (List.length (α := Cell) x.1.2.2.2.1 : Int) ∧ (x.1.2.2.2.2.2.1 : Int) = 0 ∧ List.length (α := Cell) x.2.2.2.1 + List.length (α := Cell) x.1.2.2.2.1 ≤ 1048576))
    (.ret (x.1.1, x.1.2.1, x.1.2.2.1, x.2.1, x.2.2.1.1, x.2.2.2.1 ++ List.map (α := Cell) (β := Cell) U.cutC x.1.2.2.2.1)) .fail
abbrev N43 (ls : Nat → VS → Option (Tr (Ex × VS))) : Env := M43 fun key x => bif Nat.beq key 7 then p43_1.ls (fun a => (T43_1 a).map X43_1) x else ls key x
theorem L43_1 {ls : Nat → VS → Option (Tr (Ex × VS))} : LoopOK (evI 2) ((N43 ls).lend 0) (lc Tryd.f43 1) := by
  refine l43_1 (T := T43_1) (fun x => rfl) ?_
  rintro ⟨⟨x2, x3, x4, l, n, i, z⟩, h0, ⟨h1, z1⟩, h2, z2⟩ r h
  obtain ⟨g1, g2⟩ := pre_val h
  obtain ⟨e1, e2, e3⟩ := of_decide_eq_true g1
  dsimp only at e1 e2 e3 g2
  subst e1; subst e2
  cases g2
  have := Rounds.fold0 (B := b43_1) (σ := List Cell) l (fun i s => ((x2, x3, x4, l, (l.length : Int), (i : Int), ()), h0, (h1, ()), s, ())) (fun s c => s ++ [U.cutC c]) (fun s => (x2, x3, x4, h0, h1, s)) (fun i s => s.length + (l.length - i) ≤ 1048576) h2 (by omega) (fun i s hi hv => ?_) (fun s hv => ?_)
  · have e : ∀ (l : List Cell) (a : List Cell), l.foldl (fun s c => s ++ [U.cutC c]) a = a ++ l.map U.cutC := by
      intro l
      induction l with
      | nil => intro a; simp
      | cons x l ih => intro a; rw [List.foldl_cons, ih]; simp
    rw [e] at this
    exact this
  · have e : rget celk l (i : Int) = l[i] := by rw [rgetC]; exact getD_el hi
    have e6 : minI (l[i].1.size : Int) 20 = ((min l[i].1.size 20 : Nat) : Int) := minI_nat _ 20
    have e7 : (0 : Int) ≤ ((min l[i].1.size 20 : Nat) : Int) ∧ ((min l[i].1.size 20 : Nat) : Int) ≤ (l[i].1.size : Int) := by omega
    have e8 : (s.length + 1) * 48 ≤ 140737488355328 := by omega
    refine ⟨?_, by simp only [List.length_append, List.length_singleton]; omega⟩
    simp only [b43_1, B43_1, Tr.val, e, e6, e7, e8, inB_nat hi, Int.toNat_natCast, List.length_singleton, show ((i : Int) < (l.length : Int)) by omega, and_self, decide_true, cond_true, wrap64_nat (show i ≤ 1048576 by omega)]
    rfl
  · simp only [b43_1, B43_1, Tr.val, show ¬ ((l.length : Int) < (l.length : Int)) by omega, decide_false, cond_false]
def B43_0 (x1 : List Line) (x2 : Int) (x3 : Int) (h0 : List Line) : Tr (p43_0.T ⊕ (List Line)) :=
 let v1 : Int := ((↑(List.length (rget link x1 x3).fst) : Int))
 let v2 : Int := (minI v1 (82 : Int))
 let v3 : List Cell := (sub (rget link x1 x3).fst (0 : Nat) (Int.toNat v2))
 let v4 : Int := ((↑(List.length v3) : Int))
 let v5 : Int := ((↑(List.length v3) : Int))
 Tr.ite (decide (x3 < x2)) (Tr.ite (inB x3 (List.length x1)) (Tr.ite (decide ((0 : Int) ≤ v2 ∧ v2 ≤ v1)) (Tr.ite (decide (v5 = v4 ∧ (0 : Int) = (0 : Int) ∧ (0 : Nat) + List.length v3 ≤ (1048576 : Nat))) (Tr.ite (decide ((List.length h0 + (1 : Nat)) * (32 : Nat) ≤ (140737488355328 : Nat))) (Tr.ret (Sum.inl ((x1, x2, IntKind.wrap IntKind.i64 (x3 + (1 : Int)), ()), h0 ++ [(List.map U.cutC v3, (rget link x1 x3).snd)], ()))) Tr.fail) Tr.fail) Tr.fail) Tr.fail) (Tr.ret (Sum.inr h0))
def X43_0 (r : (List Line)) : Ex × VS := Prod.mk (Ex.exit ( 0)) { n := 55, v := [Slot.av (AV.one (Leaf.row ( 0)))], h := [( 0, Blk.row ( 34) link r)] }
def b43_0 : p43_0.T → Tr (p43_0.T ⊕ (List Line)) := fun ⟨⟨x1, ⟨x2, ⟨x3, _⟩⟩⟩, ⟨h0, _⟩⟩ => B43_0 x1 x2 x3 h0
theorem h43_0 (ls : Nat → VS → Option (Tr (Ex × VS))) (x : p43_0.T) : (evC (evI 2) (lc Tryd.f43 0) (Env.lend (N43 ls) 0) (unV (live43 3) (p43_0.V x))).map (decL 0 (live43 3) (live43 1003)) = (b43_0 x).map (encR p43_0.V X43_0) := by
  obtain ⟨⟨x1, ⟨x2, ⟨x3, _⟩⟩⟩, ⟨h0, _⟩⟩ := x; kernel_rfl
theorem c43_0 (x : p43_0.T) : canV 0 (live43 3) (unV (live43 3) (p43_0.V x)) = p43_0.V x := by
  obtain ⟨⟨x1, ⟨x2, ⟨x3, _⟩⟩⟩, ⟨h0, _⟩⟩ := x; kernel_rfl
theorem l43_0 {T : p43_0.T → Tr (List Line)} {ls : Nat → VS → Option (Tr (Ex × VS))} (hls : ∀ x, (Env.lend (N43 ls) 0).ls 3 x = p43_0.ls (fun a => (T a).map X43_0) x) (hS : ∀ x r, (T x).val = some r → Rounds b43_0 x r) : LoopOK (evI 2) (Env.lend (N43 ls) 0) (lc Tryd.f43 0) :=
  loopA 3 (live43 3) (live43 1003) p43_0 b43_0 X43_0 T (by kernel_rfl) rfl rfl hls (h43_0 ls) c43_0 hS
def T43_0 (x : p43_0.T) : Tr (List Line) :=
  .ite (decide ((x.1.2.1 : Int) = (List.length (α := Line) x.1.1 : Int) ∧ (x.1.2.2.1 : Int) = 0 ∧ List.length (α := Line) x.2.1 + List.length (α := Line) x.1.1 ≤ 1048576))
    (.ret (x.2.1 ++ List.map (α := Line) (β := Line) (fun y => (U.cutL y.1, y.2.1, ())) x.1.1)) .fail
abbrev E43 : Env := N43 fun key x => bif Nat.beq key 3 then p43_0.ls (fun a => (T43_0 a).map X43_0) x else none
theorem L43_0 : LoopOK (evI 2) (E43.lend 0) (lc Tryd.f43 0) := by
  refine l43_0 (T := T43_0) (fun x => rfl) ?_
  rintro ⟨⟨l, n, i, z⟩, h0, z2⟩ r h
  obtain ⟨g1, g2⟩ := pre_val h
  obtain ⟨e1, e2, e3⟩ := of_decide_eq_true g1
  dsimp only at e1 e2 e3 g2
  subst e1; subst e2
  cases g2
  have := Rounds.fold0 (B := b43_0) (σ := List Line) l (fun i s => ((l, (l.length : Int), (i : Int), ()), s, ())) (fun s y => s ++ [(U.cutL y.1, y.2.1, ())]) (fun s => s) (fun i s => s.length + (l.length - i) ≤ 1048576) h0 (by omega) (fun i s hi hv => ?_) (fun s hv => ?_)
  · have e : ∀ (l : List Line) (a : List Line), l.foldl (fun s y => s ++ [(U.cutL y.1, y.2.1, ())]) a = a ++ l.map (fun y => (U.cutL y.1, y.2.1, ())) := by
      intro l
      induction l with
      | nil => intro a; simp
      | cons x l ih => intro a; rw [List.foldl_cons, ih]; simp
    rw [e] at this
    exact this
  · have e : rget link l (i : Int) = l[i] := by rw [rgetL]; exact getD_el hi
    have e6 : minI (l[i].1.length : Int) 82 = ((min l[i].1.length 82 : Nat) : Int) := minI_nat _ 82
    have e7 : (0 : Int) ≤ ((min l[i].1.length 82 : Nat) : Int) ∧ ((min l[i].1.length 82 : Nat) : Int) ≤ (l[i].1.length : Int) := by omega
    have e8 : (s.length + 1) * 32 ≤ 140737488355328 := by omega
    have e9 : sub l[i].1 0 (min l[i].1.length 82) = l[i].1.take 82 := by
      unfold sub
      rw [List.drop_zero]
      rcases Nat.le_total l[i].1.length 82 with h | h
      · rw [Nat.min_eq_left h, List.take_length, List.take_of_length_le h]
      · rw [Nat.min_eq_right h]
    have e10 : 0 + (l[i].1.take 82).length ≤ 1048576 := by rw [List.length_take]; omega
    refine ⟨?_, by simp only [List.length_append, List.length_singleton]; omega⟩
    simp only [b43_0, B43_0, Tr.val, e, e6, e7, e8, e9, e10, inB_nat hi, Int.toNat_natCast, List.length_singleton, List.length_nil, show ((i : Int) < (l.length : Int)) by omega, and_self, decide_true, cond_true, wrap64_nat (show i ≤ 1048576 by omega)]
    rfl
  · simp only [b43_0, B43_0, Tr.val, show ¬ ((l.length : Int) < (l.length : Int)) by omega, decide_false, cond_false]
def d43 (a : List Line) : Tr (List Line) :=
 let v1 : Int := ((↑(List.length a) : Int))
 let v2 : Int := (minI v1 (30 : Int))
 let v3 : List Line := (sub a (0 : Nat) (Int.toNat v2))
 let v4 : Int := ((↑(List.length v3) : Int))
 let v5 : Int := ((↑(List.length v3) : Int))
 Tr.ite (decide ((0 : Int) ≤ v2 ∧ v2 ≤ v1)) (Tr.ite (decide (v5 = v4 ∧ (0 : Int) = (0 : Int) ∧ (0 : Nat) + List.length v3 ≤ (1048576 : Nat))) (Tr.ret (List.map (fun (y : Line) => (U.cutL y.fst, y.snd.fst, ())) v3)) Tr.fail) Tr.fail
def e43 (r : List Line) : FRes := { rs := Slot.av (AV.one (Leaf.dat (Kd.sl link) r)), upd := [], new := [] }
@[reducible] def a43 : List AK := [AK.d (Kd.sl link)]
@[reducible] def b43 : List BK := []
theorem t43 (a : List Line) : evFn (E43) Tryd.f43 [PM.data (Kd.sl link)] (akAV a43 (a, ())) (bkBs b43 ()) = (d43 a).map e43 := by kernel_rfl
def s43' (G : akT a43 → List Line) : FSpec := aspec0 a43 b43 e43 (fun x _ => G x)
theorem k43' {G : akT a43 → List Line} (hd : ∀ (a : List Line), (d43 a).val = some (G (a, ()))) (IO : ItOK Tryd.prog (E43) := by exact itOK_none rfl) (L : ∀ c, Tryd.f43.body = some c → LsOK (evI 2) ((E43).lend 0) c := by exact fun c _ => LsOK_none rfl c) : SpecOK Tryd.prog E0 43 (s43' G) :=
  aspec0_ok (ak := a43) (bl := b43) (e := e43) (g := fun x _ => G x) (E0 := E0) (E := E43) tab .nil rfl rfl hm Tryd.func43 (by kernel_rfl) [PM.data (Kd.sl link)] (fun X Y => by obtain ⟨a, _⟩ := X; exact val_of (t43 a) (hd a)) IO L
abbrev w43 : FSpec := s43' fun x => U.few x.1 30
theorem wk43 : SpecOK Tryd.prog E0 43 w43 := by
  refine k43' (fun l => ?_) (L := ls_ok (lcs := [lc Tryd.f43 0, lc Tryd.f43 1]) (rgs := []) (by kernel_rfl) (by kernel_rfl) ⟨L43_0, L43_1⟩ trivial)
  show _ = some (U.few l 30)
  have e6 : minI (l.length : Int) 30 = ((min l.length 30 : Nat) : Int) := minI_nat _ 30
  have e7 : (0 : Int) ≤ ((min l.length 30 : Nat) : Int) ∧ ((min l.length 30 : Nat) : Int) ≤ (l.length : Int) := by omega
  have e9 : sub l 0 (min l.length 30) = l.take 30 := by
    unfold sub
    rw [List.drop_zero]
    rcases Nat.le_total l.length 30 with h | h
    · rw [Nat.min_eq_left h, List.take_length, List.take_of_length_le h]
    · rw [Nat.min_eq_right h]
  have e10 : 0 + (l.take 30).length ≤ 1048576 := by rw [List.length_take]; omega
  simp only [d43, Tr.val, e6, e7, e9, e10, Int.toNat_natCast, List.length_nil, and_self, decide_true, cond_true, List.nil_append]
  rfl
def live46 (key : Nat) : Lv :=
  bif Nat.beq key 25001 then { ls := [9999, 6] } else bif Nat.beq key 45001 then { ls := [6, 7, 8, 9, 10, 11, 12, 13, 14, 15, 16, 17, 18, 19, 20, 21, 22, 23, 24, 25, 26, 27, 28] } else
  { ls := [] }
def d46 (a : List Line) (b : Int) (c : Int) : Tr (Bool) :=
 let v1 : Int := ((↑(List.length a) : Int))
 let v2 : Bool := (decide ((0 : Int) ≤ b))
 let v3 : Bool := (decide ((0 : Int) ≤ c))
 let v4 : Int := ((↑(List.length (rget link a b).fst) : Int))
 let v5 : Bool := (decide (b < v1))
 Tr.ite (bif v2 then bif v5 then bif v3 then inB b (List.length a) else true else true else true) (Tr.ret (bif v2 then bif v5 then bif v3 then decide (c < v4) else false else false else false)) Tr.fail
def e46 (r : Bool) : FRes := { rs := Slot.av (AV.one (Leaf.dat Kd.bool r)), upd := [], new := [] }
@[reducible] def a46 : List AK := [AK.d (Kd.sl link), AK.d (.int .i64), AK.d (.int .i64)]
@[reducible] def b46 : List BK := []
theorem t46 (a : List Line) (b : Int) (c : Int) : evFn (Env.loops E0 live46 fun (x : Nat) (x_1 : VS) => none) Tryd.f46 [PM.data Kd.bool] (akAV a46 (a, b, c, ())) (bkBs b46 ()) = (d46 a b c).map e46 := by kernel_rfl
def s46' (G : akT a46 → Bool) : FSpec := aspec0 a46 b46 e46 (fun x _ => G x)
theorem k46' {G : akT a46 → Bool} (hd : ∀ (a : List Line) (b : Int) (c : Int), (d46 a b c).val = some (G (a, b, c, ()))) (IO : ItOK Tryd.prog (Env.loops E0 live46 fun (x : Nat) (x_1 : VS) => none) := by exact itOK_none rfl) (L : ∀ c, Tryd.f46.body = some c → LsOK (evI 2) ((Env.loops E0 live46 fun (x : Nat) (x_1 : VS) => none).lend 0) c := by exact fun c _ => LsOK_none rfl c) : SpecOK Tryd.prog E0 46 (s46' G) :=
  aspec0_ok (ak := a46) (bl := b46) (e := e46) (g := fun x _ => G x) (E0 := E0) (E := Env.loops E0 live46 fun (x : Nat) (x_1 : VS) => none) tab .nil rfl rfl hm Tryd.func46 (by kernel_rfl) [PM.data Kd.bool] (fun X Y => by obtain ⟨a, ⟨b, ⟨c, _⟩⟩⟩ := X; exact val_of (t46 a b c) (hd a b c)) IO L
def live103 (key : Nat) : Lv :=
  bif Nat.beq key 25001 then { ls := [9999, 6] } else bif Nat.beq key 45001 then { ls := [6, 7, 8, 9, 10, 11, 12, 13, 14, 15, 16, 17, 18, 19, 20, 21, 22, 23, 24, 25, 26, 27, 28] } else
  { ls := [] }
def d103 (a : List Line) (b : Int) (c : Int) : Tr (Bool) :=
 let v1 : Int := ((↑(List.length a) : Int))
 let v2 : Bool := (decide ((0 : Int) ≤ c))
 let v3 : Bool := (decide ((0 : Int) ≤ b))
 let v4 : Int := ((↑(List.length (rget link a b).fst) : Int))
 let v5 : Bool := (decide (b < v1))
 Tr.ite (bif v3 then bif v5 then bif v2 then inB b (List.length a) else true else true else true) (Tr.ret (bif v3 then bif v5 then bif v2 then decide (c < v4) else false else false else false)) Tr.fail
def e103 (r : Bool) : FRes := { rs := Slot.av (AV.one (Leaf.dat Kd.bool r)), upd := [], new := [] }
@[reducible] def a103 : List AK := [AK.d (Kd.sl link), AK.d (.int .i64), AK.d (.int .i64)]
@[reducible] def b103 : List BK := []
theorem t103 (a : List Line) (b : Int) (c : Int) : evFn (Env.loops E0 live103 fun (x : Nat) (x_1 : VS) => none) Tryd.f103 [PM.data Kd.bool] (akAV a103 (a, b, c, ())) (bkBs b103 ()) = (d103 a b c).map e103 := by kernel_rfl
def s103' (G : akT a103 → Bool) : FSpec := aspec0 a103 b103 e103 (fun x _ => G x)
theorem k103' {G : akT a103 → Bool} (hd : ∀ (a : List Line) (b : Int) (c : Int), (d103 a b c).val = some (G (a, b, c, ()))) (IO : ItOK Tryd.prog (Env.loops E0 live103 fun (x : Nat) (x_1 : VS) => none) := by exact itOK_none rfl) (L : ∀ c, Tryd.f103.body = some c → LsOK (evI 2) ((Env.loops E0 live103 fun (x : Nat) (x_1 : VS) => none).lend 0) c := by exact fun c _ => LsOK_none rfl c) : SpecOK Tryd.prog E0 103 (s103' G) :=
  aspec0_ok (ak := a103) (bl := b103) (e := e103) (g := fun x _ => G x) (E0 := E0) (E := Env.loops E0 live103 fun (x : Nat) (x_1 : VS) => none) tab .nil rfl rfl hm Tryd.func103 (by kernel_rfl) [PM.data Kd.bool] (fun X Y => by obtain ⟨a, ⟨b, ⟨c, _⟩⟩⟩ := X; exact val_of (t103 a b c) (hd a b c)) IO L
def live50 (key : Nat) : Lv :=
  bif Nat.beq key 25001 then { ls := [9999, 8] } else bif Nat.beq key 45001 then { ls := [8, 9, 10, 11, 12, 13, 14, 15, 16, 17, 18, 19, 20, 21] } else
  { ls := [] }
def d50 (a : Int) (b : Int) (c : Int) (y : Int) : Tr (Bool) :=
 Tr.ret (bif decide (c < a) then true else bif decide (a = c) then decide (y < b) else false)
def e50 (r : Bool) : FRes := { rs := Slot.av (AV.one (Leaf.dat Kd.bool r)), upd := [], new := [] }
@[reducible] def a50 : List AK := [AK.d (.int .i64), AK.d (.int .i64), AK.d (.int .i64), AK.d (.int .i64)]
@[reducible] def b50 : List BK := []
theorem t50 (a : Int) (b : Int) (c : Int) (y : Int) : evFn (Env.loops E0 live50 fun (x : Nat) (x_1 : VS) => none) Tryd.f50 [PM.data Kd.bool] (akAV a50 (a, b, c, y, ())) (bkBs b50 ()) = (d50 a b c y).map e50 := by kernel_rfl
def s50' (G : akT a50 → Bool) : FSpec := aspec0 a50 b50 e50 (fun x _ => G x)
theorem k50' {G : akT a50 → Bool} (hd : ∀ (a : Int) (b : Int) (c : Int) (y : Int), (d50 a b c y).val = some (G (a, b, c, y, ()))) (IO : ItOK Tryd.prog (Env.loops E0 live50 fun (x : Nat) (x_1 : VS) => none) := by exact itOK_none rfl) (L : ∀ c, Tryd.f50.body = some c → LsOK (evI 2) ((Env.loops E0 live50 fun (x : Nat) (x_1 : VS) => none).lend 0) c := by exact fun c _ => LsOK_none rfl c) : SpecOK Tryd.prog E0 50 (s50' G) :=
  aspec0_ok (ak := a50) (bl := b50) (e := e50) (g := fun x _ => G x) (E0 := E0) (E := Env.loops E0 live50 fun (x : Nat) (x_1 : VS) => none) tab .nil rfl rfl hm Tryd.func50 (by kernel_rfl) [PM.data Kd.bool] (fun X Y => by obtain ⟨a, ⟨b, ⟨c, ⟨y, _⟩⟩⟩⟩ := X; exact val_of (t50 a b c y) (hd a b c y)) IO L
theorem there_eq (l : List Line) (r c : Int) : (Tr.ite (bif decide (0 ≤ r) then bif decide (r < (l.length : Int)) then bif decide (0 ≤ c) then inB r l.length else true else true else true) (Tr.ret (bif decide (0 ≤ r) then bif decide (r < (l.length : Int)) then bif decide (0 ≤ c) then decide (c < ((rget link l r).1.length : Int)) else false else false else false)) Tr.fail).val = some (U.there l r c) := by
  unfold U.there
  by_cases h1 : 0 ≤ r
  · by_cases h2 : r < (l.length : Int)
    · obtain ⟨n, rfl⟩ := Int.eq_ofNat_of_zero_le h1
      have i1 : inB (n : Int) l.length = true := inB_nat (by omega)
      by_cases h3 : 0 ≤ c
      · simp only [Tr.val, h1, h2, h3, i1, rgetL, decide_true, cond_true, Bool.true_and, Int.toNat_natCast]
      · simp only [Tr.val, h1, h2, h3, decide_true, decide_false, cond_true, cond_false, Bool.true_and, Bool.false_and]
    · simp only [Tr.val, h1, h2, decide_true, decide_false, cond_true, cond_false, Bool.true_and, Bool.false_and]
  · simp only [Tr.val, h1, decide_false, cond_true, cond_false, Bool.false_and]
abbrev w46 : FSpec := s46' fun x => U.there x.1 x.2.1 x.2.2.1
theorem wk46 : SpecOK Tryd.prog E0 46 w46 := k46' fun l r c => there_eq l r c
abbrev w103 : FSpec := s103' fun x => U.there x.1 x.2.1 x.2.2.1
theorem wk103 : SpecOK Tryd.prog E0 103 w103 := k103' fun l r c => there_eq l r c
abbrev w50 : FSpec := s50' fun x => U.behind x.1 x.2.1 x.2.2.1 x.2.2.2.1
theorem wk50 : SpecOK Tryd.prog E0 50 w50 := k50' fun a b c y => by
  show _ = some (U.behind a b c y)
  unfold U.behind
  simp only [d50, Tr.val]
  cases decide (c < a) <;> cases decide (a = c) <;> rfl
end Go.Proofs.YtmnbcnhpklejcaaDoor
end
section
set_option linter.unusedVariables false
set_option linter.unusedSimpArgs false
set_option maxRecDepth 20000
set_option maxHeartbeats 4000000
open Go Go.Ev
namespace U
open Go.Proofs.YtmnbcnhpklejcaaDoor
theorem strOf_app (a b : List Int) : strOf (a ++ b) = strOf a ++ strOf b := by
  apply ByteArray.ext
  simp [strOf]
theorem strOf_bytes (s : ByteArray) : strOf (bytesL s) = s := by
  apply ByteArray.ext
  unfold strOf bytesL
  rw [List.map_map]
  have e : ((fun n : Int => UInt8.ofNat n.toNat) ∘ fun b : UInt8 => (b.toNat : Int)) = id := by
    funext b
    simp
  rw [e, List.map_id]
theorem say_fold2 (l : List Cl) : ∀ (s : ByteArray), l.foldl (fun s c => s ++ strOf (sayC c)) s = s ++ strOf (sayL l) := by
  induction l with
  | nil => intro s; apply ByteArray.ext; simp [sayL, strOf]
  | cons c l ih =>
    intro s
    rw [List.foldl_cons, ih]
    unfold sayL
    rw [List.flatMap_cons, strOf_app, ByteArray.append_assoc]
theorem sayC_text (c : ByteArray × Int × (Int × Int × Int × Unit) × Unit) (h : (decide (c.1 = (⟨#[]⟩ : ByteArray)) && decide (c.2.1 = 1)) = false) : strOf (sayC c) = c.1 := by
  unfold sayC
  rw [h, cond_false, List.append_nil, strOf_bytes]
theorem sayC_blank (c : ByteArray × Int × (Int × Int × Int × Unit) × Unit) (h : (decide (c.1 = (⟨#[]⟩ : ByteArray)) && decide (c.2.1 = 1)) = true) : strOf (sayC c) = ⟨#[32]⟩ := by
  unfold sayC
  rw [h, cond_true]
  rw [Bool.and_eq_true] at h
  rw [of_decide_eq_true h.1]
  rfl
end U
namespace Go.Proofs.YtmnbcnhpklejcaaDoor
open Go.RowKit
def live57 (key : Nat) : Lv :=
  bif Nat.beq key 3 then { ls := [3, 6, 7, 8] } else bif Nat.beq key 1003 then { ls := [3] } else
  { ls := [] }
abbrev M57 (ls : Nat → VS → Option (Tr (Ex × VS))) : Env := E0.loops live57 ls
@[reducible] def p57_0 : LP := { n := 28, sl := [.d (Kd.str), .d (Kd.sl celk), .d (.int .i64), .d (.int .i64)], bl := [] }
def B57_0 (x0 : ByteArray) (x1 : List Cell) (x2 : Int) (x3 : Int) : Tr (p57_0.T ⊕ (ByteArray)) :=
 let v1 : ByteArray := (x0 ++ { data := #[OfNat.ofNat (32 : Nat)] })
 Tr.ite (decide (x3 < x2)) (Tr.ite (inB x3 (List.length x1)) (Tr.ite (decide ((rget celk x1 x3).fst = { data := #[] })) (Tr.ite (decide ((rget celk x1 x3).snd.fst = (1 : Int))) (Tr.ite (decide (ByteArray.size x0 + (1 : Nat) ≤ (9223372036854775807 : Nat))) (Tr.ite (decide (ByteArray.size v1 + ByteArray.size (rget celk x1 x3).fst ≤ (9223372036854775807 : Nat))) (Tr.ret (Sum.inl ((v1 ++ (rget celk x1 x3).fst, x1, x2, IntKind.wrap IntKind.i64 (x3 + (1 : Int)), ()), ()))) Tr.fail) Tr.fail) (Tr.ite (decide (ByteArray.size x0 + ByteArray.size (rget celk x1 x3).fst ≤ (9223372036854775807 : Nat))) (Tr.ret (Sum.inl ((x0 ++ (rget celk x1 x3).fst, x1, x2, IntKind.wrap IntKind.i64 (x3 + (1 : Int)), ()), ()))) Tr.fail)) (Tr.ite (decide (ByteArray.size x0 + ByteArray.size (rget celk x1 x3).fst ≤ (9223372036854775807 : Nat))) (Tr.ret (Sum.inl ((x0 ++ (rget celk x1 x3).fst, x1, x2, IntKind.wrap IntKind.i64 (x3 + (1 : Int)), ()), ()))) Tr.fail)) Tr.fail) (Tr.ret (Sum.inr x0))
def X57_0 (r : (ByteArray)) : Ex × VS := Prod.mk (Ex.exit ( 0)) { n := 28, v := [Slot.av (AV.one (Leaf.dat Kd.str r))], h := [] }
def b57_0 : p57_0.T → Tr (p57_0.T ⊕ (ByteArray)) := fun ⟨⟨x0, ⟨x1, ⟨x2, ⟨x3, _⟩⟩⟩⟩, _⟩ => B57_0 x0 x1 x2 x3
theorem h57_0 (ls : Nat → VS → Option (Tr (Ex × VS))) (x : p57_0.T) : (evC (evI 2) (lc Tryd.f57 0) (Env.lend (M57 ls) 0) (unV (live57 3) (p57_0.V x))).map (decL 0 (live57 3) (live57 1003)) = (b57_0 x).map (encR p57_0.V X57_0) := by
  obtain ⟨⟨x0, ⟨x1, ⟨x2, ⟨x3, _⟩⟩⟩⟩, _⟩ := x; kernel_rfl
theorem c57_0 (x : p57_0.T) : canV 0 (live57 3) (unV (live57 3) (p57_0.V x)) = p57_0.V x := by
  obtain ⟨⟨x0, ⟨x1, ⟨x2, ⟨x3, _⟩⟩⟩⟩, _⟩ := x; kernel_rfl
theorem l57_0 {T : p57_0.T → Tr (ByteArray)} {ls : Nat → VS → Option (Tr (Ex × VS))} (hls : ∀ x, (Env.lend (M57 ls) 0).ls 3 x = p57_0.ls (fun a => (T a).map X57_0) x) (hS : ∀ x r, (T x).val = some r → Rounds b57_0 x r) : LoopOK (evI 2) (Env.lend (M57 ls) 0) (lc Tryd.f57 0) :=
  loopA 3 (live57 3) (live57 1003) p57_0 b57_0 X57_0 T (by kernel_rfl) rfl rfl hls (h57_0 ls) c57_0 hS
def T57 (x : p57_0.T) : Tr ByteArray :=
  .ite (decide ((x.1.2.2.2.1 : Int) = 0 ∧ (x.1.2.2.1 : Int) = (List.length (α := Cell) x.1.2.1 : Int) ∧ List.length (α := Cell) x.1.2.1 ≤ 1048576 ∧ ByteArray.size x.1.1 + List.length (α := Int) (U.sayL x.1.2.1) ≤ 140737488355328))
    (.ret (x.1.1 ++ strOf (U.sayL x.1.2.1))) .fail
abbrev E57 : Env := M57 fun key x => bif Nat.beq key 3 then p57_0.ls (fun a => (T57 a).map X57_0) x else none
theorem L57 : LoopOK (evI 2) (E57.lend 0) (lc Tryd.f57 0) := by
  refine l57_0 (T := T57) (fun x => rfl) ?_
  rintro ⟨⟨h, l, n, j, z⟩, z1⟩ r hh
  obtain ⟨g1, g2⟩ := pre_val hh
  have g1 : (j : Int) = 0 ∧ (n : Int) = (l.length : Int) ∧ l.length ≤ 1048576 ∧ h.size + (U.sayL l).length ≤ 140737488355328 := of_decide_eq_true g1
  obtain ⟨rfl, rfl, e3, e4⟩ := g1
  cases g2
  have := Rounds.fold0 (B := b57_0) l (fun i (s : ByteArray) => ((s, l, (l.length : Int), (i : Int), ()), ())) (fun (s : ByteArray) c => s ++ strOf (U.sayC c)) (fun s => s) (fun i s => s.size + (U.sayL (l.drop i)).length ≤ 140737488355328) h (by show h.size + (U.sayL (l.drop 0)).length ≤ _; rw [List.drop_zero]; exact e4) (fun i s hi hv => ?_) (fun s hv => ?_)
  · rw [U.say_fold2] at this
    exact this
  · have e : rget celk l (i : Int) = l[i] := by rw [rgetC]; exact getD_el hi
    have hd : l.drop i = l[i] :: l.drop (i + 1) := List.drop_eq_getElem_cons hi
    have hv : s.size + (U.sayL (l.drop i)).length ≤ 140737488355328 := hv
    rw [hd] at hv
    have h5 : (U.sayL (l[i] :: l.drop (i + 1))).length = (U.sayC l[i]).length + (U.sayL (l.drop (i + 1))).length := by unfold U.sayL; rw [List.flatMap_cons, List.length_append]
    rw [h5] at hv
    generalize hc : l[i] = c at *
    generalize hq : (U.sayL (l.drop (i + 1))).length = q at *
    have h6 : (strOf (U.sayC c)).size = (U.sayC c).length := by simp [strOf, ByteArray.size]
    have w : IntKind.wrap IntKind.i64 ((i : Int) + 1) = ((i + 1 : Nat) : Int) := wrap64_nat (show i ≤ 1048576 by omega)
    refine ⟨?_, by show (s ++ strOf (U.sayC c)).size + q ≤ _; rw [ByteArray.size_append, h6]; omega⟩
    have lt : decide ((i : Int) < (l.length : Int)) = true := decide_eq_true (by omega)
    cases hb : (decide (c.1 = (⟨#[]⟩ : ByteArray)) && decide (c.2.1 = 1)) with
    | true =>
      rw [U.sayC_blank c hb]
      rw [Bool.and_eq_true] at hb
      obtain ⟨hb1, hb2⟩ := hb
      have hb3 : c.1 = (⟨#[]⟩ : ByteArray) := of_decide_eq_true hb1
      have h7 : (U.sayC c).length = 1 := by unfold U.sayC; rw [hb1, hb2, hb3]; rfl
      have h8 : s.size + 1 ≤ 9223372036854775807 := by omega
      have h9 : (s ++ (⟨#[OfNat.ofNat 32]⟩ : ByteArray)).size + c.1.size ≤ 9223372036854775807 := by rw [ByteArray.size_append, hb3]; show s.size + 1 + 0 ≤ _; omega
      have h10 : (s ++ (⟨#[OfNat.ofNat 32]⟩ : ByteArray)) ++ c.1 = s ++ ⟨#[32]⟩ := by rw [hb3]; apply ByteArray.ext; simp
      simp only [b57_0, B57_0, Tr.val, inB_nat hi, e, hb1, hb2, h8, h9, h10, w, lt, decide_true, cond_true]
    | false =>
      have h7 : (U.sayC c).length = c.1.size := by rw [← h6, U.sayC_text c hb]
      have h8 : s.size + c.1.size ≤ 9223372036854775807 := by omega
      rw [U.sayC_text c hb]
      cases hb1 : decide (c.1 = (⟨#[]⟩ : ByteArray)) with
      | true =>
        rw [hb1, Bool.true_and] at hb
        simp only [b57_0, B57_0, Tr.val, inB_nat hi, e, hb, hb1, h8, w, lt, decide_true, cond_true, cond_false]
      | false =>
        simp only [b57_0, B57_0, Tr.val, inB_nat hi, e, hb1, h8, w, lt, decide_true, cond_true, cond_false]
  · simp only [b57_0, B57_0, Tr.val, show ¬ ((l.length : Int) < (l.length : Int)) by omega, decide_false, cond_false]
def d57 (a : List Cell) : Tr (ByteArray) :=
 let v1 : Int := ((↑(List.length a) : Int))
 let v2 : Int := ((↑(List.length a) : Int))
 Tr.ite (decide ((0 : Int) = (0 : Int) ∧ v2 = v1 ∧ List.length a ≤ (1048576 : Nat) ∧ (0 : Nat) + List.length (U.sayL a) ≤ (140737488355328 : Nat))) (Tr.ret ({ data := #[] } ++ strOf (U.sayL a))) Tr.fail
def e57 (r : ByteArray) : FRes := { rs := Slot.av (AV.one (Leaf.dat Kd.str r)), upd := [], new := [] }
@[reducible] def a57 : List AK := [AK.d (Kd.sl celk)]
@[reducible] def b57 : List BK := []
theorem t57 (a : List Cell) : evFn (E57) Tryd.f57 [PM.data Kd.str] (akAV a57 (a, ())) (bkBs b57 ()) = (d57 a).map e57 := by kernel_rfl
def s57 (C : akT a57 → Bool) (G : akT a57 → ByteArray) : FSpec := aspec a57 b57 e57 (fun x _ => C x) (fun x _ => G x)
theorem k57 {C : akT a57 → Bool} {G : akT a57 → ByteArray} (hd : ∀ (a : List Cell), C (a, ()) = true → (d57 a).val = some (G (a, ()))) (IO : ItOK Tryd.prog (E57) := by exact itOK_none rfl) (L : ∀ c, Tryd.f57.body = some c → LsOK (evI 2) ((E57).lend 0) c := by exact fun c _ => LsOK_none rfl c) : SpecOK Tryd.prog E0 57 (s57 C G) :=
  aspec_ok (ak := a57) (bl := b57) (e := e57) (c := fun x _ => C x) (g := fun x _ => G x) (E0 := E0) (E := E57) tab .nil rfl rfl hm Tryd.func57 (by kernel_rfl) [PM.data Kd.str] (fun X Y H => by obtain ⟨a, _⟩ := X; exact val_of (t57 a) (hd a H)) IO L
abbrev w57 : FSpec := s57 (fun x => decide (List.length (α := Cell) x.1 ≤ 1048576 ∧ List.length (α := Int) (U.sayL x.1) ≤ 140737488355328)) fun x => strOf (U.sayL x.1)
theorem wk57 : SpecOK Tryd.prog E0 57 w57 := by
  refine k57 (fun l H => ?_) (L := ls_ok (lcs := [lc Tryd.f57 0]) (rgs := []) (by kernel_rfl) (by kernel_rfl) L57 trivial)
  have H : l.length ≤ 1048576 ∧ (U.sayL l).length ≤ 140737488355328 := of_decide_eq_true H
  obtain ⟨h1, h2⟩ := H
  have h3 : 0 + (U.sayL l).length ≤ 140737488355328 := by omega
  have h4 : (⟨#[]⟩ : ByteArray) ++ strOf (U.sayL l) = strOf (U.sayL l) := by apply ByteArray.ext; simp
  simp only [d57, Tr.val, h1, h3, h4, and_self, decide_true, cond_true]
def live45 (key : Nat) : Lv :=
  bif Nat.beq key 20028 then { ls := [9999, 0, 5, 6, 7] } else bif Nat.beq key 40028 then { ls := [2] } else
  bif Nat.beq key 25004 then { ls := [9999, 0, 5, 6, 7, 28] } else bif Nat.beq key 45004 then { ls := [11, 12, 13, 14, 15, 16, 17, 18, 19, 20, 21, 22, 23, 24, 25, 26, 27, 28] } else
  bif Nat.beq key 20008 then { ls := [9999, 0, 5, 6, 7] } else bif Nat.beq key 40008 then { ls := [] } else
  bif Nat.beq key 2 then { ls := [0, 5, 6, 7] } else bif Nat.beq key 1002 then { ls := [0, 2] } else
  { ls := [] }
abbrev M45 (ls : Nat → VS → Option (Tr (Ex × VS))) : Env := (E0.withFns [(71, w71)]).loops live45 ls
@[reducible] def p45_0 : LP := { n := 33, sl := [.d (Kd.sl link), .d (Kd.sl link), .d (.int .i64), .d (.int .i64)], bl := [] }
def B45_0 (x0 : List Line) (x1 : List Line) (x2 : Int) (x3 : Int) : Tr (p45_0.T ⊕ (List Line ⊕ List Line)) :=
 let v1 : Int := ((↑(List.length (rget link x1 x3).fst) : Int))
 let v2 : Int := ((↑(List.length (rget link x1 x3).fst) : Int))
 let v3 : Bool := (Kd.eqb (Kd.sl link) x0 x0 && (Kd.eqb (Kd.sl link) x1 x1 && (Kd.eqb (.int .i64) x2 x2 && Kd.eqb (.int .i64) x3 x3)))
 let v4 : Bool := (decide ((80 : Int) < v2))
 let v5 : Bool := (decide (v2 < (1 : Int)))
 Tr.ite (decide (x3 < x2)) (Tr.ite (inB x3 (List.length x1)) (Tr.ite ((bif v5 then true else (bif v4 then true else U.okc (rget link x1 x3).fst) && v3) && v3) (Tr.ite (bif v5 then true else bif v4 then true else !(U.fitC (rget link x1 x3).fst && decide (v1 = v2))) (Tr.ret (Sum.inr (Sum.inl x0))) (Tr.ret (Sum.inl ((x0, x1, x2, IntKind.wrap IntKind.i64 (x3 + (1 : Int)), ()), ())))) Tr.fail) Tr.fail) (Tr.ret (Sum.inr (Sum.inr x0)))
def X45_0 : (List Line ⊕ List Line) → Ex × VS
  | (.inl r) => Prod.mk Ex.ret { n := 33, v := [Slot.av (AV.one (Leaf.dat (Kd.sl link) r)), Slot.av (AV.one (Leaf.kb false))], h := [] }
  | (.inr r) => Prod.mk (Ex.exit ( 0)) { n := 33, v := [Slot.av (AV.one (Leaf.dat (Kd.sl link) r)), Slot.av (AV.one Leaf.undef)], h := [] }
def b45_0 : p45_0.T → Tr (p45_0.T ⊕ (List Line ⊕ List Line)) := fun ⟨⟨x0, ⟨x1, ⟨x2, ⟨x3, _⟩⟩⟩⟩, _⟩ => B45_0 x0 x1 x2 x3
theorem h45_0 (ls : Nat → VS → Option (Tr (Ex × VS))) (x : p45_0.T) : (evC (evI 2) (lc Tryd.f45 0) (Env.lend (M45 ls) 0) (unV (live45 2) (p45_0.V x))).map (decL 0 (live45 2) (live45 1002)) = (b45_0 x).map (encR p45_0.V X45_0) := by
  obtain ⟨⟨x0, ⟨x1, ⟨x2, ⟨x3, _⟩⟩⟩⟩, _⟩ := x; kernel_rfl
theorem c45_0 (x : p45_0.T) : canV 0 (live45 2) (unV (live45 2) (p45_0.V x)) = p45_0.V x := by
  obtain ⟨⟨x0, ⟨x1, ⟨x2, ⟨x3, _⟩⟩⟩⟩, _⟩ := x; kernel_rfl
theorem l45_0 {T : p45_0.T → Tr (List Line ⊕ List Line)} {ls : Nat → VS → Option (Tr (Ex × VS))} (hls : ∀ x, (Env.lend (M45 ls) 0).ls 2 x = p45_0.ls (fun a => (T a).map X45_0) x) (hS : ∀ x r, (T x).val = some r → Rounds b45_0 x r) : LoopOK (evI 2) (Env.lend (M45 ls) 0) (lc Tryd.f45 0) :=
  loopA 2 (live45 2) (live45 1002) p45_0 b45_0 X45_0 T (by kernel_rfl) rfl rfl hls (h45_0 ls) c45_0 hS
end Go.Proofs.YtmnbcnhpklejcaaDoor
namespace U
def mayR (y : Ln) : Bool := !decide ((y.1.length : Int) < 1) && (!decide ((80 : Int) < (y.1.length : Int)) && fitC y.1)
def mayL (l : List Ln) : Bool := allN (fun i => mayR (l.getD i dL)) l.length 0
end U
namespace Go.Proofs.YtmnbcnhpklejcaaDoor
def T45 (x : p45_0.T) : Tr (List Line ⊕ List Line) :=
  .ite (decide ((x.1.2.2.2.1 : Int) = 0 ∧ (x.1.2.2.1 : Int) = (List.length (α := Line) x.1.2.1 : Int)) && U.okl x.1.2.1)
    (.ite (U.mayL x.1.2.1) (.ret (.inr x.1.1)) (.ret (.inl x.1.1))) .fail
abbrev E45 : Env := M45 fun key x => bif Nat.beq key 2 then p45_0.ls (fun a => (T45 a).map X45_0) x else none
theorem L45 : LoopOK (evI 2) (E45.lend 0) (lc Tryd.f45 0) := by
  refine l45_0 (T := T45) (fun x => rfl) ?_
  rintro ⟨⟨l0, l, n, j, z⟩, z1⟩ r hh
  obtain ⟨g1, g2⟩ := pre_val hh
  rw [Bool.and_eq_true] at g1
  obtain ⟨g1, gk⟩ := g1
  have g1 : (j : Int) = 0 ∧ (n : Int) = (l.length : Int) := of_decide_eq_true g1
  obtain ⟨rfl, rfl⟩ := g1
  have e3 : l.length ≤ 1048576 := U.okl_len gk
  have g3 : r = (bif U.mayL l then .inr l0 else .inl l0) := by
    have g2 : (Tr.ite (U.mayL l) (.ret (.inr l0)) (.ret (.inl l0)) : Tr (List Line ⊕ List Line)).val = some r := g2
    cases h : U.mayL l <;> rw [h] at g2 <;> cases g2 <;> rfl
  subst g3
  have := Rounds.all (B := b45_0) (N := l.length) (fun i => ((l0, l, (l.length : Int), (i : Int), ()), ())) (fun i => U.mayR (l.getD i U.dL)) (.inl l0) (.inr l0) (fun i hi => ?_) ?_
  · exact this
  · have ok := U.okl_at gk hi
    have w : IntKind.wrap IntKind.i64 ((i : Int) + 1) = ((i + 1 : Nat) : Int) := wrap64_nat (show i ≤ 1048576 by omega)
    have lt : decide ((i : Int) < (l.length : Int)) = true := decide_eq_true (by omega)
    simp only [b45_0, B45_0, Tr.val, inB_nat hi, rgetL, eqb_self, ok, w, lt, Bool.and_true, Bool.and_self, Bool.cond_self, decide_true, cond_true]
    unfold U.mayR
    generalize decide (((l.getD i U.dL).1.length : Int) < 1) = p
    generalize decide ((80 : Int) < ((l.getD i U.dL).1.length : Int)) = q
    generalize U.fitC (l.getD i U.dL).1 = t
    cases p <;> cases q <;> cases t <;> rfl
  · simp only [b45_0, B45_0, Tr.val, show ¬ ((l.length : Int) < (l.length : Int)) by omega, decide_false, cond_false]
def d45 (a : List Line) : Tr (Bool) :=
 let v1 : Int := ((↑(List.length a) : Int))
 let v2 : Int := ((↑(List.length a) : Int))
 Tr.ite (decide ((0 : Int) = (0 : Int) ∧ v2 = v1) && U.okl a) (Tr.ite (U.mayL a) (Tr.ret (decide (v2 ≤ (200 : Int)))) (Tr.ret false)) Tr.fail
def e45 (r : Bool) : FRes := { rs := Slot.av (AV.one (Leaf.dat Kd.bool r)), upd := [], new := [] }
@[reducible] def a45 : List AK := [AK.d (Kd.sl link)]
@[reducible] def b45 : List BK := []
theorem t45 (a : List Line) : evFn (E45) Tryd.f45 [PM.data Kd.bool] (akAV a45 (a, ())) (bkBs b45 ()) = (d45 a).map e45 := by kernel_rfl
def s45 (C : akT a45 → Bool) (G : akT a45 → Bool) : FSpec := aspec a45 b45 e45 (fun x _ => C x) (fun x _ => G x)
theorem k45 {C : akT a45 → Bool} {G : akT a45 → Bool} (hd : ∀ (a : List Line), C (a, ()) = true → (d45 a).val = some (G (a, ()))) (IO : ItOK Tryd.prog (E45) := by exact itOK_none rfl) (L : ∀ c, Tryd.f45.body = some c → LsOK (evI 2) ((E45).lend 0) c := by exact fun c _ => LsOK_none rfl c) : SpecOK Tryd.prog E0 45 (s45 C G) :=
  aspec_ok (ak := a45) (bl := b45) (e := e45) (c := fun x _ => C x) (g := fun x _ => G x) (E0 := E0) (E := E45) tab (.cons wk71 .nil) rfl rfl hm Tryd.func45 (by kernel_rfl) [PM.data Kd.bool] (fun X Y H => by obtain ⟨a, _⟩ := X; exact val_of (t45 a) (hd a H)) IO L
abbrev w45 : FSpec := s45 (fun x => U.okl x.1) fun x => U.mayL x.1 && decide ((List.length (α := Line) x.1 : Int) ≤ 200)
theorem wk45 : SpecOK Tryd.prog E0 45 w45 := by
  refine k45 (fun l H => ?_) (L := ls_ok (lcs := [lc Tryd.f45 0]) (rgs := []) (by kernel_rfl) (by kernel_rfl) L45 trivial)
  have H : U.okl l = true := H
  show _ = some (U.mayL l && decide ((l.length : Int) ≤ 200))
  simp only [d45, Tr.val, H, and_self, decide_true, Bool.and_self, cond_true]
  cases U.mayL l <;> rfl
end Go.Proofs.YtmnbcnhpklejcaaDoor
namespace U
open Go.Proofs.YtmnbcnhpklejcaaDoor
theorem sayC_len (c : ByteArray × Int × (Int × Int × Int × Unit) × Unit) : (sayC c).length ≤ c.1.size + 1 := by
  unfold sayC
  rw [List.length_append, Go.Ev.bytesL_size]
  cases (decide (c.1 = (⟨#[]⟩ : ByteArray)) && decide (c.2.1 = 1)) <;> simp
theorem sayL_len (l : List Cl) (h : ∀ c ∈ l, c.1.size ≤ 1048576) : (sayL l).length ≤ l.length * 1048577 := by
  induction l with
  | nil => simp [sayL]
  | cons c l ih =>
    have e : (sayL (c :: l)).length = (sayC c).length + (sayL l).length := by unfold sayL; rw [List.flatMap_cons, List.length_append]
    have h1 := sayC_len c
    have h2 := h c (List.mem_cons_self)
    have h3 := ih fun x hx => h x (List.mem_cons_of_mem _ hx)
    rw [e, List.length_cons, Nat.add_mul]
    omega
theorem okc_say {l : List Cl} (h : okc l = true) (k : Nat) : (l.drop k).length ≤ 1048576 ∧ (sayL (l.drop k)).length ≤ 140737488355328 := by
  have h0 := okc_len h
  have h1 : (l.drop k).length ≤ 1048576 := by rw [List.length_drop]; omega
  refine ⟨h1, Nat.le_trans (sayL_len _ fun c hc => ?_) (by omega)⟩
  simp only [okc, Bool.and_eq_true, decide_eq_true_eq, List.all_eq_true] at h
  exact h.2 c (List.mem_of_mem_drop hc)
theorem there_nat {l : List Ln} {r c : Int} (h : there l r c = true) : ∃ n m : Nat, r = (n : Int) ∧ c = (m : Int) ∧ n < l.length ∧ m < (l.getD n dL).1.length := by
  unfold there at h
  simp only [Bool.and_eq_true, decide_eq_true_eq] at h
  obtain ⟨h1, h2, h3, h4⟩ := h
  obtain ⟨n, rfl⟩ := Int.eq_ofNat_of_zero_le h1
  obtain ⟨m, rfl⟩ := Int.eq_ofNat_of_zero_le h3
  exact ⟨n, m, rfl, rfl, by omega, by rw [Int.toNat_natCast] at h4; omega⟩
end U
end
