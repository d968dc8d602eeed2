/- Part 3 of what the proof leans on: an evaluator of Go code over plain data, with its soundness; contracts of functions; laws of plain data. -/
import Derived.Test.YtmnbcnhpklejcaaDoorZk2
section
set_option linter.unusedVariables false
set_option linter.unusedSimpArgs false
set_option maxRecDepth 20000
namespace Go.Ev
def ib (b : Bool) : SRes := { rs := one (.dat .bool b) }
def ii (n : Int) : SRes := { rs := one (.dat (.int .i64) n) }
@[reducible] def spk : Kd := .pr (.int .i32) (.pr (.int .i32) .un)
end Go.Ev
namespace U
open Go Go.Ev
def valid (r : Int) : Bool := (decide (0 ≤ r) && decide (r < 55296)) || (decide (57343 < r) && decide (r ≤ 1114111))
def zero : List (Int × Int × Unit) := [(768, 879, ()), (8203, 8205, ()), (65024, 65039, ())]
def wide : List (Int × Int × Unit) := [(4352, 4447, ()), (12353, 19903, ()), (19968, 40959, ()), (44032, 55203, ()), (63744, 64255, ()), (65281, 65376, ()), (127744, 129791, ()), (131072, 262141, ())]
def inn (a b c : Int) : Bool := decide (b ≤ a) && decide (a ≤ c)
def span (x : Int × Int × Unit) (r : Int) : Bool := decide (x.1 ≤ r) && decide (r ≤ x.2.1)
end U
namespace Go.Proofs.YtmnbcnhpklejcaaDoor
open Go.Ev Go.RowKit
abbrev rb (b : Bool) : FRes := ⟨one (.dat .bool b), [], []⟩
abbrev ri (n : Int) : FRes := ⟨one (.dat (.int .i64) n), [], []⟩
def w154 : FSpec := dspec [.str] fun x => ib (U.full x.1)
def w169 : FSpec := dspec [.str] fun x => { rs := .tup [.one (.dat (.int .i32) (U.dec x.1).1), .one (.dat (.int .i64) (U.dec x.1).2)] }
def w156 : FSpec := dspec [.int .i32] fun x => ib (U.valid x.1)
def w158 : FSpec := dspec [] fun _ => { rs := one (.dat (.sl spk) U.zero) }
def w159 : FSpec := dspec [] fun _ => { rs := one (.dat (.sl spk) U.wide) }
def w138 : FSpec := dspec [.int .i64, .int .i64, .int .i64] fun x => ib (U.inn x.1 x.2.1 x.2.2.1)
def w171 : FSpec := bspec [.d spk, .c (.ptr 0 0)] [.box [.d (.int .i32)]] fun x y => { rs := one (.dat .bool (U.span x.1 y.1.1)), upd := [.box [.dat (.int .i32) y.1.1]] }
theorem inB_true {i : Int} {n : Nat} (h : 0 ≤ i ∧ i < n) : inB i n = true := by simp [inB, h]
theorem wrap32_id {n : Int} (h0 : -2147483648 ≤ n) (h1 : n ≤ 2147483647) : IntKind.i32.wrap n = n := by
  rw [IntKind.wrap_i32]; omega
theorem m63 {x : Int} (h0 : 0 ≤ x) (h1 : x ≤ 255) : IntKind.u8.wrap (((BitVec.ofInt 8 x &&& BitVec.ofInt 8 63).toNat : Int)) = x % 64 := u8_and63 x h0 (by omega)
theorem m31 {x : Int} (h0 : 0 ≤ x) (h1 : x ≤ 255) : IntKind.u8.wrap (((BitVec.ofInt 8 x &&& BitVec.ofInt 8 31).toNat : Int)) = x % 32 := u8_and31 x h0 (by omega)
theorem m15 {x : Int} (h0 : 0 ≤ x) (h1 : x ≤ 255) : IntKind.u8.wrap (((BitVec.ofInt 8 x &&& BitVec.ofInt 8 15).toNat : Int)) = x % 16 := u8_and15 x h0 (by omega)
theorem m7 {x : Int} (h0 : 0 ≤ x) (h1 : x ≤ 255) : IntKind.u8.wrap (((BitVec.ofInt 8 x &&& BitVec.ofInt 8 7).toNat : Int)) = x % 8 := u8_and7 x h0 (by omega)
theorem o6 {x y : Int} (hx0 : 0 ≤ x) (hx : x % 64 = 0) (hx1 : x < 2147483648) (h0 : 0 ≤ y) (h1 : y < 64) : IntKind.i32.wrap (((BitVec.ofInt 32 x ||| BitVec.ofInt 32 y).toNat : Int)) = x + y := i32_or6 x y hx0 hx hx1 h0 h1
theorem o12 {x y : Int} (hx0 : 0 ≤ x) (hx : x % 4096 = 0) (hx1 : x < 2147483648) (h0 : 0 ≤ y) (h1 : y < 4096) : IntKind.i32.wrap (((BitVec.ofInt 32 x ||| BitVec.ofInt 32 y).toNat : Int)) = x + y := i32_or12 x y hx0 hx hx1 h0 h1
theorem o18 {x y : Int} (hx0 : 0 ≤ x) (hx : x % 262144 = 0) (hx1 : x < 2147483648) (h0 : 0 ≤ y) (h1 : y < 262144) : IntKind.i32.wrap (((BitVec.ofInt 32 x ||| BitVec.ofInt 32 y).toNat : Int)) = x + y := i32_or18 x y hx0 hx hx1 h0 h1
theorem v154 (s : ByteArray) : (evFn (E0.withFns []) Tryd.f154 [.data .bool] (toAVs [.str] (s, ())) []).val = some (rb (U.full s)) := by
  have b0 := bt_ge s 0
  have b1 := bt_lt s 0
  obtain ⟨x0, x1, big, hq, f0, f1, hl, hh, hx⟩ := U.row b0 b1
  have hq' : IntKind.i64.wrap (IntKind.u8.wrap (((BitVec.ofInt 8 (rget (.int .u8) U.firstL (bt s 0)) &&& BitVec.ofInt 8 7).toNat : Int))) = _ := hq
  rw [t154 s rfl rfl rfl rfl rfl]
  unfold U.full
  rw [hq']
  have i0 : inB (bt s 0) 256 = true := inB_true ⟨b0, by omega⟩
  have i1 : inB ((rget (.int .u8) U.firstL (bt s 0) : Int).fdiv 16) 16 = true := inB_true ⟨f0, f1⟩
  by_cases c0 : s.size = 0
  · simp [Tr.val, c0]; rfl
  have c0' : ¬ ((s.size : Int) = 0) := by omega
  have i2 : inB 0 s.size = true := inB_true ⟨by omega, by omega⟩
  rcases U.need_cases (bt s 0) with ⟨hn, hc⟩ | hn | hn
  · have e : ¬ (s.size : Int) < 1 := by omega
    have e1 : (decide ((0 : Int) ≤ (s.size : Int))) = true := by simp
    have e2 : (decide ((1 : Int) ≤ (s.size : Int))) = true := by simp; omega
    simp only [Tr.val, c0, c0', i0, i2, hn, hc, if_true, e1, e2, decide_false, cond_false, cond_true]
    rfl
  · have e2 : (decide ((1 : Int) ≤ (s.size : Int))) = true := by simp; omega
    have e3 : (decide ((0 : Int) ≤ (s.size : Int))) = true := by simp
    have hc : ¬ bt s 0 < 128 := by
      intro h
      unfold U.need at hn
      rw [if_pos h] at hn
      omega
    simp only [Tr.val, c0, c0', i0, i2, hn, hc, if_false, e2, e3, decide_false, cond_false, cond_true, if_pos (show (0 : Int) ≤ 1 by omega)]
    rfl
  · have hn2 : 2 ≤ U.need (bt s 0) := by omega
    have hc : ¬ bt s 0 < 128 := by omega
    have hn1 : ¬ U.need (bt s 0) ≤ 1 := by omega
    have hlo := hl hn2
    have hhi := hh hn2
    simp only [Tr.val, c0, c0', i0, i1, i2, hc, hn1, if_false, hlo, hhi, decide_false, cond_false, cond_true]
    by_cases c1 : U.need (bt s 0) ≤ (s.size : Int)
    · simp only [c1, decide_true, cond_true]; try rfl
    · simp only [c1, decide_false, cond_false]
      unfold U.ok1 U.cont
      by_cases c2 : 1 < s.size
      · have c2' : (1 : Int) < (s.size : Int) := by omega
        have i3 : inB 1 s.size = true := inB_true ⟨by omega, by omega⟩
        by_cases c3 : bt s 1 < U.lo (bt s 0)
        · have c4 : ¬ U.lo (bt s 0) ≤ bt s 1 := by omega
          simp only [c2, c2', i3, c3, c4, decide_true, decide_false, cond_true, cond_false, Bool.false_and, Bool.not_false, Bool.and_self]; try rfl
        · have c4 : U.lo (bt s 0) ≤ bt s 1 := by omega
          by_cases c5 : U.hi (bt s 0) < bt s 1
          · have c6 : ¬ bt s 1 ≤ U.hi (bt s 0) := by omega
            simp only [c2, c2', i3, c3, c4, c5, c6, decide_true, decide_false, cond_true, cond_false, Bool.and_false, Bool.not_false, Bool.and_self]; try rfl
          · have c6 : bt s 1 ≤ U.hi (bt s 0) := by omega
            by_cases c7 : 2 < s.size
            · have c7' : (2 : Int) < (s.size : Int) := by omega
              have i4 : inB 2 s.size = true := inB_true ⟨by omega, by omega⟩
              by_cases c8 : bt s 2 < 128
              · have c9 : ¬ 128 ≤ bt s 2 := by omega
                simp only [c2, c2', i3, i4, c3, c4, c5, c6, c7, c7', c8, c9, decide_true, decide_false, cond_true, cond_false, Bool.and_false, Bool.false_and, Bool.not_false, Bool.not_true, Bool.and_self]; try rfl
              · have c9 : 128 ≤ bt s 2 := by omega
                by_cases c10 : 191 < bt s 2
                · have c11 : ¬ bt s 2 ≤ 191 := by omega
                  simp only [c2, c2', i3, i4, c3, c4, c5, c6, c7, c7', c8, c9, c10, c11, decide_true, decide_false, cond_true, cond_false, Bool.and_false, Bool.false_and, Bool.not_false, Bool.not_true, Bool.and_self]; try rfl
                · have c11 : bt s 2 ≤ 191 := by omega
                  simp only [c2, c2', i3, i4, c3, c4, c5, c6, c7, c7', c8, c9, c10, c11, decide_true, decide_false, cond_true, cond_false, Bool.and_false, Bool.false_and, Bool.not_false, Bool.not_true, Bool.and_self]; try rfl
            · have c7' : ¬ (2 : Int) < (s.size : Int) := by omega
              simp only [c2, c2', i3, c3, c4, c5, c6, c7, c7', decide_true, decide_false, cond_true, cond_false, Bool.and_false, Bool.false_and, Bool.not_false, Bool.not_true, Bool.and_self]; try rfl
      · have c2' : ¬ (1 : Int) < (s.size : Int) := by omega
        have c7 : ¬ 2 < s.size := by omega
        have c7' : ¬ (2 : Int) < (s.size : Int) := by omega
        simp only [c2, c2', c7, c7', decide_true, decide_false, cond_true, cond_false, Bool.and_false, Bool.false_and, Bool.not_false, Bool.not_true, Bool.and_self]; try rfl
theorem wk154 : SpecOK Tryd.prog E0 154 w154 := by
  refine dspec_ok (E0 := E0) (E := E0.withFns []) (fns := []) tab .nil rfl rfl hm Tryd.func154 (by kernel_rfl) [.data .bool] (fun x hx => ?_)
  obtain ⟨s, z⟩ := x
  exact v154 s
abbrev rd (x : Int × Int) : FRes := ⟨.tup [.one (.dat (.int .i32) x.1), .one (.dat (.int .i64) x.2)], [], []⟩
theorem keepb : ∀ x : Fin 256, IntKind.i32.wrap (((BitVec.ofInt 32 (IntKind.i32.wrap (((BitVec.ofInt 32 (IntKind.i32.wrap ((x.val : Nat) : Int)) &&& ~~~BitVec.ofInt 32 ((IntKind.i32.wrap (IntKind.i32.wrap 240 * 2147483648)).fdiv 2147483648)).toNat : Int))) |||
    BitVec.ofInt 32 (IntKind.i32.wrap (((BitVec.ofInt 32 65533 &&& BitVec.ofInt 32 ((IntKind.i32.wrap (IntKind.i32.wrap 240 * 2147483648)).fdiv 2147483648)).toNat : Int)))).toNat : Int)) = ((x.val : Nat) : Int) := by decide +kernel
theorem dropb : ∀ x : Fin 256, IntKind.i32.wrap (((BitVec.ofInt 32 (IntKind.i32.wrap (((BitVec.ofInt 32 (IntKind.i32.wrap ((x.val : Nat) : Int)) &&& ~~~BitVec.ofInt 32 ((IntKind.i32.wrap (IntKind.i32.wrap 241 * 2147483648)).fdiv 2147483648)).toNat : Int))) |||
    BitVec.ofInt 32 (IntKind.i32.wrap (((BitVec.ofInt 32 65533 &&& BitVec.ofInt 32 ((IntKind.i32.wrap (IntKind.i32.wrap 241 * 2147483648)).fdiv 2147483648)).toNat : Int)))).toNat : Int)) = 65533 := by decide +kernel
theorem keep_b {b : Int} (h0 : 0 ≤ b) (h1 : b ≤ 255) : IntKind.i32.wrap (((BitVec.ofInt 32 (IntKind.i32.wrap (((BitVec.ofInt 32 (IntKind.i32.wrap b) &&& ~~~BitVec.ofInt 32 ((IntKind.i32.wrap (IntKind.i32.wrap 240 * 2147483648)).fdiv 2147483648)).toNat : Int))) |||
    BitVec.ofInt 32 (IntKind.i32.wrap (((BitVec.ofInt 32 65533 &&& BitVec.ofInt 32 ((IntKind.i32.wrap (IntKind.i32.wrap 240 * 2147483648)).fdiv 2147483648)).toNat : Int)))).toNat : Int)) = b := by
  obtain ⟨n, rfl⟩ := Int.eq_ofNat_of_zero_le h0
  exact keepb ⟨n, by omega⟩
theorem drop_b {b : Int} (h0 : 0 ≤ b) (h1 : b ≤ 255) : IntKind.i32.wrap (((BitVec.ofInt 32 (IntKind.i32.wrap (((BitVec.ofInt 32 (IntKind.i32.wrap b) &&& ~~~BitVec.ofInt 32 ((IntKind.i32.wrap (IntKind.i32.wrap 241 * 2147483648)).fdiv 2147483648)).toNat : Int))) |||
    BitVec.ofInt 32 (IntKind.i32.wrap (((BitVec.ofInt 32 65533 &&& BitVec.ofInt 32 ((IntKind.i32.wrap (IntKind.i32.wrap 241 * 2147483648)).fdiv 2147483648)).toNat : Int)))).toNat : Int)) = 65533 := by
  obtain ⟨n, rfl⟩ := Int.eq_ofNat_of_zero_le h0
  exact dropb ⟨n, by omega⟩
theorem lo_ge (c : Int) : 128 ≤ U.lo c := by
  unfold U.lo
  repeat' split
  all_goals omega
theorem hi_le (c : Int) : U.hi c ≤ 191 := by
  unfold U.hi
  repeat' split
  all_goals omega
theorem v169 (s : ByteArray) : (evFn (E0.withFns []) Tryd.f169 [.data (.int .i32), .data (.int .i64)] (toAVs [.str] (s, ())) []).val = some (rd (U.dec s)) := by
  have b0 := bt_ge s 0
  have b1 := bt_lt s 0
  have b2 := bt_ge s 1
  have b3 := bt_lt s 1
  have b4 := bt_ge s 2
  have b5 := bt_lt s 2
  have b6 := bt_ge s 3
  have b7 := bt_lt s 3
  obtain ⟨x0, x1, big, hq, f0, f1, hl, hh, hx⟩ := U.row b0 b1
  have hq' : IntKind.i64.wrap (IntKind.u8.wrap (((BitVec.ofInt 8 (rget (.int .u8) U.firstL (bt s 0)) &&& BitVec.ofInt 8 7).toNat : Int))) = _ := hq
  rw [t169 s rfl rfl rfl rfl rfl rfl rfl rfl rfl rfl rfl]
  unfold U.dec
  rw [hq', m63 b2 b3, m63 b4 b5, m63 b6 b7, m31 b0 b1, m15 b0 b1, m7 b0 b1]
  have i0 : inB (bt s 0) 256 = true := inB_true ⟨b0, by omega⟩
  have i1 : inB ((rget (.int .u8) U.firstL (bt s 0) : Int).fdiv 16) 16 = true := inB_true ⟨f0, f1⟩
  by_cases c0 : s.size = 0
  · have c0' : (s.size : Int) < 1 := by omega
    simp only [Tr.val, c0, c0', decide_true, cond_true]; rfl
  have c0' : ¬ (s.size : Int) < 1 := by omega
  have i2 : inB 0 s.size = true := inB_true ⟨by omega, by omega⟩
  rcases U.need_cases (bt s 0) with ⟨hn, hc⟩ | hn | hn
  · have hbig := big.2 (by omega)
    have hxx := hx (by omega)
    rw [if_pos hc] at hxx
    simp only [Tr.val, c0, c0', i0, i2, hn, hxx, keep_b b0 b1, decide_false, decide_true, cond_false, cond_true, show ¬ ((1 : Int) = 0) by omega, show (240 : Int) ≤ 240 by omega]
  · have hc : ¬ bt s 0 < 128 := by
      intro h
      unfold U.need at hn
      rw [if_pos h] at hn
      omega
    have hxx := hx (by omega)
    rw [if_neg hc] at hxx
    simp only [Tr.val, c0, c0', i0, i2, hn, hxx, drop_b b0 b1, decide_false, decide_true, cond_false, cond_true, show (240 : Int) ≤ 241 by omega]
  · have hn2 : 2 ≤ U.need (bt s 0) := by omega
    have hc : ¬ bt s 0 < 128 := by omega
    have hn1 : ¬ U.need (bt s 0) ≤ 1 := by omega
    have hn0 : ¬ U.need (bt s 0) = 0 := by omega
    have hn11 : ¬ U.need (bt s 0) = 1 := by omega
    have hbig : ¬ (240 : Int) ≤ (rget (.int .u8) U.firstL (bt s 0) : Int) := fun h => hn1 (big.1 h)
    have hlo := hl hn2
    have hhi := hh hn2
    simp only [Tr.val, c0, c0', i0, i1, i2, hc, hn1, hn0, hn11, hbig, if_false, hlo, hhi, decide_false, decide_true, cond_false, cond_true]
    by_cases c1 : (s.size : Int) < U.need (bt s 0)
    · simp only [c1, decide_true, cond_true]
    · have i3 : inB 1 s.size = true := inB_true ⟨by omega, by omega⟩
      simp only [c1, i3, decide_false, cond_false, cond_true]
      unfold U.ok1 U.cont
      by_cases c3 : bt s 1 < U.lo (bt s 0)
      · have c4 : ¬ U.lo (bt s 0) ≤ bt s 1 := by omega
        simp only [c3, c4, decide_true, decide_false, cond_true, cond_false, Bool.false_and, Bool.not_false]
      · have c4 : U.lo (bt s 0) ≤ bt s 1 := by omega
        by_cases c5 : U.hi (bt s 0) < bt s 1
        · have c6 : ¬ bt s 1 ≤ U.hi (bt s 0) := by omega
          simp only [c3, c4, c5, c6, decide_true, decide_false, cond_true, cond_false, Bool.and_false, Bool.not_false]
        · have c6 : bt s 1 ≤ U.hi (bt s 0) := by omega
          have l1 := lo_ge (bt s 0)
          have l2 := hi_le (bt s 0)
          simp only [c3, c4, c5, c6, decide_true, decide_false, cond_true, cond_false, Bool.and_self, Bool.not_true]
          have w1 : IntKind.i32.wrap (bt s 1 % 64) = bt s 1 - 128 := by rw [wrap32_id (by omega) (by omega)]; omega
          by_cases d2 : U.need (bt s 0) = 2
          · have e0 : IntKind.i32.wrap (bt s 0 % 32) = bt s 0 - 192 := by rw [wrap32_id (by omega) (by omega)]; omega
            have e1 : IntKind.i32.wrap ((bt s 0 - 192) * 64) = (bt s 0 - 192) * 64 := wrap32_id (by omega) (by omega)
            simp only [d2, w1, e0, e1, decide_true, cond_true, show (2 : Int) ≤ 2 by omega]
            rw [o6 (by omega) (by omega) (by omega) (by omega) (by omega)]
            rfl
          · have d2' : ¬ U.need (bt s 0) ≤ 2 := by omega
            have i4 : inB 2 s.size = true := inB_true ⟨by omega, by omega⟩
            simp only [d2, d2', i4, decide_false, cond_false, cond_true]
            by_cases c8 : bt s 2 < 128
            · have c9 : ¬ 128 ≤ bt s 2 := by omega
              simp only [c8, c9, decide_true, decide_false, cond_true, cond_false, Bool.false_and, Bool.not_false]
            · have c9 : 128 ≤ bt s 2 := by omega
              by_cases c10 : 191 < bt s 2
              · have c11 : ¬ bt s 2 ≤ 191 := by omega
                simp only [c8, c9, c10, c11, decide_true, decide_false, cond_true, cond_false, Bool.and_false, Bool.not_false]
              · have c11 : bt s 2 ≤ 191 := by omega
                simp only [c8, c9, c10, c11, decide_true, decide_false, cond_true, cond_false, Bool.and_self, Bool.not_true]
                have w2 : IntKind.i32.wrap (bt s 2 % 64) = bt s 2 - 128 := by rw [wrap32_id (by omega) (by omega)]; omega
                have w11 : IntKind.i32.wrap ((bt s 1 - 128) * 64) = (bt s 1 - 128) * 64 := wrap32_id (by omega) (by omega)
                by_cases d3 : U.need (bt s 0) = 3
                · have e0 : IntKind.i32.wrap (bt s 0 % 16) = bt s 0 - 224 := by rw [wrap32_id (by omega) (by omega)]; omega
                  have e1 : IntKind.i32.wrap ((bt s 0 - 224) * 4096) = (bt s 0 - 224) * 4096 := wrap32_id (by omega) (by omega)
                  simp only [d3, w1, w2, w11, e0, e1, decide_true, cond_true, show (3 : Int) ≤ 3 by omega]
                  rw [o12 (x := (bt s 0 - 224) * 4096) (y := (bt s 1 - 128) * 64) (by omega) (by omega) (by omega) (by omega) (by omega), o6 (x := (bt s 0 - 224) * 4096 + (bt s 1 - 128) * 64) (y := bt s 2 - 128) (by omega) (by omega) (by omega) (by omega) (by omega)]
                  rfl
                · have d3' : ¬ U.need (bt s 0) ≤ 3 := by omega
                  have d4 : U.need (bt s 0) = 4 := by omega
                  have i5 : inB 3 s.size = true := inB_true ⟨by omega, by omega⟩
                  simp only [d3, d3', i5, decide_false, cond_false, cond_true]
                  by_cases c12 : bt s 3 < 128
                  · have c13 : ¬ 128 ≤ bt s 3 := by omega
                    simp only [c12, c13, decide_true, decide_false, cond_true, cond_false, Bool.false_and, Bool.not_false]
                  · have c13 : 128 ≤ bt s 3 := by omega
                    by_cases c14 : 191 < bt s 3
                    · have c15 : ¬ bt s 3 ≤ 191 := by omega
                      simp only [c12, c13, c14, c15, decide_true, decide_false, cond_true, cond_false, Bool.and_false, Bool.not_false]
                    · have c15 : bt s 3 ≤ 191 := by omega
                      have e0 : IntKind.i32.wrap (bt s 0 % 8) = bt s 0 - 240 := by rw [wrap32_id (by omega) (by omega)]; omega
                      have e1 : IntKind.i32.wrap ((bt s 0 - 240) * 262144) = (bt s 0 - 240) * 262144 := wrap32_id (by omega) (by omega)
                      have w12 : IntKind.i32.wrap ((bt s 1 - 128) * 4096) = (bt s 1 - 128) * 4096 := wrap32_id (by omega) (by omega)
                      have w21 : IntKind.i32.wrap ((bt s 2 - 128) * 64) = (bt s 2 - 128) * 64 := wrap32_id (by omega) (by omega)
                      have w3 : IntKind.i32.wrap (bt s 3 % 64) = bt s 3 - 128 := by rw [wrap32_id (by omega) (by omega)]; omega
                      simp only [c12, c13, c14, c15, w1, w2, w12, w21, w3, e0, e1, decide_true, decide_false, cond_true, cond_false, Bool.and_self, Bool.not_true]
                      rw [o18 (x := (bt s 0 - 240) * 262144) (y := (bt s 1 - 128) * 4096) (by omega) (by omega) (by omega) (by omega) (by omega), o12 (x := (bt s 0 - 240) * 262144 + (bt s 1 - 128) * 4096) (y := (bt s 2 - 128) * 64) (by omega) (by omega) (by omega) (by omega) (by omega), o6 (x := (bt s 0 - 240) * 262144 + (bt s 1 - 128) * 4096 + (bt s 2 - 128) * 64) (y := bt s 3 - 128) (by omega) (by omega) (by omega) (by omega) (by omega)]
                      rfl
theorem wk169 : SpecOK Tryd.prog E0 169 w169 := by
  refine dspec_ok (E0 := E0) (E := E0.withFns []) (fns := []) tab .nil rfl rfl hm Tryd.func169 (by kernel_rfl) [.data (.int .i32), .data (.int .i64)] (fun x hx => ?_)
  obtain ⟨s, z⟩ := x
  exact v169 s
end Go.Proofs.YtmnbcnhpklejcaaDoor

end
section
set_option linter.unusedVariables false
set_option linter.unusedSimpArgs false
set_option maxRecDepth 20000
namespace U
open Go Go.Ev
abbrev Sp := Int × Int × Unit
def fi (l : List Sp) (r : Int) : Option Nat := findN (fun j => span (l.getD j (0, 0, ())) r) l.length 0
def idx (l : List Sp) (r : Int) : Int := match fi l r with
  | some j => (j : Int)
  | none => -1
def within (l : List Sp) (r : Int) : Bool := l.any fun x => span x r
theorem idx_within (l : List Sp) (r : Int) : decide (0 ≤ idx l r) = within l r := by
  have h := find_any (fun x => span x r) (0, 0, ()) l
  have h' : (fi l r).isSome = within l r := h
  rw [← h']
  unfold idx
  cases fi l r with
  | none => rfl
  | some j => exact decide_eq_true (by show (0 : Int) ≤ (j : Int); omega)
end U
namespace Go.Proofs.YtmnbcnhpklejcaaDoor
open Go.Ev Go.RowKit
def w155 : FSpec := w169
def w177 : FSpec := bspec [.d (.sl spk), .c (.fn 171 [0])] [.box [.d (.int .i32)]] fun x y => { c := some (decide (List.length x.1 ≤ 1048576)), rs := one (.dat (.int .i64) (U.idx x.1 y.1.1)), upd := [.box [.dat (.int .i32) y.1.1]] }
def w170 : FSpec := bspec [.d (.sl spk), .c (.fn 171 [0])] [.box [.d (.int .i32)]] fun x y => { c := some (decide (List.length x.1 ≤ 1048576)), rs := one (.dat .bool (U.within x.1 y.1.1)), upd := [.box [.dat (.int .i32) y.1.1]] }
def w157 : FSpec := dspec [.sl spk, .int .i32] fun x => { c := some (decide (List.length x.1 ≤ 1048576)), rs := one (.dat .bool (U.within x.1 x.2.1)) }
def F1 : List (Nat × FSpec) := [(169, w169)]
def F2 : List (Nat × FSpec) := [(171, w171)]
def F3 : List (Nat × FSpec) := [(177, w177)]
def F4 : List (Nat × FSpec) := [(170, w170)]
def F5 : List (Nat × FSpec) := [(156, w156), (157, w157), (158, w158), (159, w159)]
def live177 (key : Nat) : Lv := bif Nat.beq key 2 then { ls := [0, 1, 7, 8] } else bif Nat.beq key 1002 then { ls := [4] } else { ls := [] }
@[reducible] def p177 : LP := { n := 19, sl := [.d (.sl spk), .c (.fn 171 [0]), .d (.int .i64), .d (.int .i64)], bl := [(0, .box [.d (.int .i32)])] }
def B177 (x : p177.T) : Tr (p177.T ⊕ (Ex × VS)) :=
  .ite (decide ((x.1.2.2.1 : Int) < (x.1.2.1 : Int))) (.ite (inB x.1.2.2.1 (List.length (α := U.Sp) x.1.1)) (.ite (U.span ((rget spk x.1.1 x.1.2.2.1).1, (rget spk x.1.1 x.1.2.2.1).2.1, ()) x.2.1.1)
    (.ret (.inr (.ret, ⟨19, [dI .i64 x.1.2.2.1], [(0, .box [.dat (.int .i32) x.2.1.1])]⟩)))
    (.ret (.inl ((x.1.1, x.1.2.1, IntKind.i64.wrap (x.1.2.2.1 + 1), ()), x.2)))) .fail)
    (.ret (.inr (.exit 0, ⟨19, [hole0], [(0, .box [.dat (.int .i32) x.2.1.1])]⟩)))
def tr177 (x : p177.T) : Tr (Ex × VS) :=
  .ite (decide ((x.1.2.1 : Int) = (List.length (α := U.Sp) x.1.1 : Int) ∧ (x.1.2.2.1 : Int) = 0 ∧ List.length (α := U.Sp) x.1.1 ≤ 1048576))
    (.ite ((U.fi x.1.1 x.2.1.1).isSome)
      (.ret (.ret, ⟨19, [dI .i64 (((U.fi x.1.1 x.2.1.1).getD 0 : Nat) : Int)], [(0, .box [.dat (.int .i32) x.2.1.1])]⟩))
      (.ret (.exit 0, ⟨19, [hole0], [(0, .box [.dat (.int .i32) x.2.1.1])]⟩))) .fail
def ls177 (key : Nat) (x : VS) : Option (Tr (Ex × VS)) := bif Nat.beq key 2 then p177.ls tr177 x else none
abbrev E177 : Env := (E0.withFns F2).loops live177 ls177
theorem hB177 (x : p177.T) : (evC (evI 2) (lc Tryd.f177 0) (E177.lend 1) (unV [0, 1, 7, 8] (p177.V x))).map (decL 1 [0, 1, 7, 8] [4]) = (B177 x).map (encL p177.V) := by
  obtain ⟨⟨xs, n, i, z⟩, ⟨r, z'⟩, z''⟩ := x
  kernel_rfl
theorem hc177 (x : p177.T) : canV 1 [0, 1, 7, 8] (unV [0, 1, 7, 8] (p177.V x)) = p177.V x := by
  obtain ⟨⟨xs, n, i, z⟩, ⟨r, z'⟩, z''⟩ := x
  kernel_rfl
theorem run177 (xs : List U.Sp) (r : Int) (z z' z'' : Unit) (hl : xs.length ≤ 1048576) : runB B177 (xs.length + 1) ((xs, (xs.length : Int), 0, z), (r, z'), z'') =
    some (outN (U.fi xs r) (fun j => (Ex.ret, ⟨19, [dI .i64 (j : Int)], [(0, .box [.dat (.int .i32) r])]⟩)) (Ex.exit 0, ⟨19, [hole0], [(0, .box [.dat (.int .i32) r])]⟩)) := by
  refine runB_find (B := B177) (N := xs.length) (fun i => ((xs, (xs.length : Int), (i : Int), z), (r, z'), z'')) _ (fun j => (Ex.ret, ⟨19, [dI .i64 (j : Int)], [(0, .box [.dat (.int .i32) r])]⟩)) _ (fun i hi => ?_) ?_ xs.length 0 (by omega)
  · have h1 : decide ((i : Int) < (xs.length : Int)) = true := decide_eq_true (by omega)
    have h2 : inB (i : Int) xs.length = true := inB_nat hi
    simp only [B177, Tr.val, h1, h2, cond_true, rget_nat, wrap64_nat (show i ≤ 1048576 by omega)]
    show (bif U.span (xs.getD i (0, 0, ())) r then _ else _) = _
    cases U.span (xs.getD i (0, 0, ())) r <;> rfl
  · have h1 : decide ((xs.length : Int) < (xs.length : Int)) = false := decide_eq_false (by omega)
    simp only [B177, Tr.val, h1, cond_false]
theorem loop177 : LoopOK (evI 2) (E177.lend 1) (lc Tryd.f177 0) := by
  refine loopP 2 { ls := [0, 1, 7, 8] } { ls := [4] } p177 B177 tr177 (by kernel_rfl) rfl rfl (fun x => rfl) hB177 hc177 ?_
  rintro ⟨⟨xs, n, i, z⟩, ⟨r, z'⟩, z''⟩ q hq
  simp only [tr177, Tr.val] at hq
  cases hd : decide ((n : Int) = (List.length (α := U.Sp) xs : Int) ∧ (i : Int) = 0 ∧ List.length (α := U.Sp) xs ≤ 1048576) with
  | false => rw [hd] at hq; cases hq
  | true =>
    rw [hd] at hq
    have hd' : (n : Int) = (List.length (α := U.Sp) xs : Int) ∧ (i : Int) = 0 ∧ List.length (α := U.Sp) xs ≤ 1048576 := of_decide_eq_true hd
    obtain ⟨rfl, rfl, hl⟩ := hd'
    refine ⟨List.length (α := U.Sp) xs + 1, (run177 xs r z z' z'' hl).trans ?_⟩
    rw [← hq]
    cases U.fi xs r <;> rfl
theorem t177 (xs : List U.Sp) (r : Int) : evFn E177 Tryd.f177 [.data (.int .i64)] (akAV [.d (.sl spk), .c (.fn 171 [0])] (xs, ())) (bkBs [.box [.d (.int .i32)]] ((r, ()), ())) =
    .ite (decide ((xs.length : Int) = (xs.length : Int) ∧ (0 : Int) = 0 ∧ xs.length ≤ 1048576))
      (.ite ((U.fi xs r).isSome) (.ret ⟨one (.dat (.int .i64) (((U.fi xs r).getD 0 : Nat) : Int)), [.box [.dat (.int .i32) r]], []⟩) (.ret ⟨one (.dat (.int .i64) (-1 : Int)), [.box [.dat (.int .i32) r]], []⟩)) .fail := by kernel_rfl
theorem wk171 : SpecOK Tryd.prog E0 171 w171 := by
  refine bspec_ok (E0 := E0) (E := E0.withFns []) (fns := []) tab .nil rfl rfl hm Tryd.func171 (by kernel_rfl) [.data .bool] (fun x y hc => ?_)
  obtain ⟨⟨a, b, z⟩, z'⟩ := x
  obtain ⟨⟨r, z''⟩, z3⟩ := y
  have e : evFn (E0.withFns []) Tryd.f171 [.data .bool] (akAV [.d spk, .c (.ptr 0 0)] ((a, b, z), z')) (bkBs [.box [.d (.int .i32)]] ((r, z''), z3)) = _ := t171 a b r
  rw [e]
  show Tr.val _ = some (⟨one (.dat .bool (decide (a ≤ r) && decide (r ≤ b))), [.box [.dat (.int .i32) r]], []⟩ : FRes)
  cases h : decide (a ≤ r) <;> simp only [Tr.val, h, cond_true, cond_false, Bool.true_and, Bool.false_and] <;> rfl
theorem A2 : AllFn Tryd.prog E0 F2 := .cons wk171 .nil
theorem wk177 : SpecOK Tryd.prog E0 177 w177 := by
  refine bspec_ok (E0 := E0) (E := E177) (fns := F2) tab A2 rfl rfl hm Tryd.func177 (by kernel_rfl) [.data (.int .i64)] (fun x y hc => ?_) (L := ls_ok (lcs := [lc Tryd.f177 0]) (rgs := []) (by kernel_rfl) (by kernel_rfl) loop177 trivial)
  obtain ⟨xs, z⟩ := x
  obtain ⟨⟨r, z'⟩, z''⟩ := y
  have hl : xs.length ≤ 1048576 := by simpa using hc
  have e := t177 xs r
  refine (congrArg Tr.val e).trans ?_
  rw [show (decide ((xs.length : Int) = (xs.length : Int) ∧ (0 : Int) = 0 ∧ xs.length ≤ 1048576)) = true from by simpa using hl]
  show Tr.val _ = some (⟨one (.dat (.int .i64) (U.idx xs r)), [.box [.dat (.int .i32) r]], []⟩ : FRes)
  unfold U.idx
  cases U.fi xs r <;> rfl
theorem A3 : AllFn Tryd.prog E0 F3 := .cons wk177 .nil
theorem wk170 : SpecOK Tryd.prog E0 170 w170 := by
  refine bspec_ok (E0 := E0) (E := E0.withFns F3) (fns := F3) tab A3 rfl rfl hm Tryd.func170 (by kernel_rfl) [.data .bool] (fun x y hc => ?_)
  obtain ⟨xs, z⟩ := x
  obtain ⟨⟨r, z'⟩, z''⟩ := y
  have hl : (decide (xs.length ≤ 1048576)) = true := by simpa using hc
  have e : evFn (E0.withFns F3) Tryd.f170 [.data .bool] (akAV [.d (.sl spk), .c (.fn 171 [0])] (xs, ())) (bkBs [.box [.d (.int .i32)]] ((r, ()), ())) =
    .ite (decide (xs.length ≤ (1048576 : Nat))) (.ret ⟨one (.dat .bool (decide ((0 : Int) ≤ U.idx xs r))), [.box [.dat (.int .i32) r]], []⟩) .fail := by kernel_rfl
  refine (congrArg Tr.val e).trans ?_
  rw [hl, U.idx_within]
  rfl
theorem A4 : AllFn Tryd.prog E0 F4 := .cons wk170 .nil
theorem wk157 : SpecOK Tryd.prog E0 157 w157 := by
  refine dspec_ok (E0 := E0) (E := E0.withFns F4) (fns := F4) tab A4 rfl rfl hm Tryd.func157 (by kernel_rfl) [.data .bool] (fun x hc => ?_)
  obtain ⟨xs, r, z⟩ := x
  have hl : (decide (xs.length ≤ 1048576)) = true := by simpa using hc
  have e : evFn (E0.withFns F4) Tryd.f157 [.data .bool] (toAVs [.sl spk, .int .i32] (xs, r, z)) [] = .ite (decide (xs.length ≤ (1048576 : Nat))) (.ret ⟨one (.dat .bool (U.within xs r)), [], []⟩) .fail := by kernel_rfl
  rw [e, hl]
  rfl
theorem wk156 : SpecOK Tryd.prog E0 156 w156 := by
  refine dspec_ok (E0 := E0) (E := E0.withFns []) (fns := []) tab .nil rfl rfl hm Tryd.func156 (by kernel_rfl) [.data .bool] (fun x hc => ?_)
  obtain ⟨n, z⟩ := x
  have e : evFn (E0.withFns []) Tryd.f156 [.data .bool] (toAVs [.int .i32] (n, z)) [] = _ := t156 n
  rw [e]
  show Tr.val _ = some (rb (U.valid n))
  unfold U.valid
  by_cases a : (0 : Int) ≤ n <;> by_cases b : n < 55296 <;> by_cases c : (57343 : Int) < n <;> by_cases d : n ≤ 1114111 <;>
    simp only [Tr.val, a, b, c, d, decide_true, decide_false, cond_true, cond_false, Bool.true_and, Bool.and_true, Bool.false_and, Bool.and_false, Bool.or_true, Bool.true_or, Bool.or_false, Bool.or_self] <;> rfl
theorem wk158 : SpecOK Tryd.prog E0 158 w158 := by
  refine dspec_ok (E0 := E0) (E := E0.withFns []) (fns := []) tab .nil rfl rfl hm Tryd.func158 (by kernel_rfl) [.data (.sl spk)] (fun x hc => ?_)
  rw [show toAVs [] x = toAVs [] () from rfl, t158]
  rfl
theorem wk159 : SpecOK Tryd.prog E0 159 w159 := by
  refine dspec_ok (E0 := E0) (E := E0.withFns []) (fns := []) tab .nil rfl rfl hm Tryd.func159 (by kernel_rfl) [.data (.sl spk)] (fun x hc => ?_)
  rw [show toAVs [] x = toAVs [] () from rfl, t159]
  rfl
theorem A5 : AllFn Tryd.prog E0 F5 := .cons wk156 (.cons wk157 (.cons wk158 (.cons wk159 .nil)))
theorem wk138 : SpecOK Tryd.prog E0 138 w138 := by
  refine dspec_ok (E0 := E0) (E := E0.withFns []) (fns := []) tab .nil rfl rfl hm Tryd.func138 (by kernel_rfl) [.data .bool] (fun x hc => ?_)
  obtain ⟨a, b, c, z⟩ := x
  have e : evFn (E0.withFns []) Tryd.f138 [.data .bool] (toAVs [.int .i64, .int .i64, .int .i64] (a, b, c, z)) [] = _ := t138 a b c
  rw [e]
  show Tr.val _ = some (rb (U.inn a b c))
  unfold U.inn
  by_cases h : b ≤ a <;> simp only [Tr.val, h, decide_true, decide_false, cond_true, cond_false, Bool.true_and, Bool.false_and] <;> rfl
end Go.Proofs.YtmnbcnhpklejcaaDoor

end
section
set_option linter.unusedVariables false
set_option linter.unusedSimpArgs false
set_option maxRecDepth 20000
namespace U
open Go Go.Ev
def width (r : Int) : Int := bif !valid r || (decide (r < 32) || (decide (127 ≤ r) && decide (r < 160))) then -1 else bif within zero r then 0 else bif within wide r then 2 else 1
def bad (s : ByteArray) : Int := bif decide (need (bt s 0) = 0) then 1 else bif !ok1 s then 1 else bif !cont (bt s 2) then 2 else 3
def isL (s : ByteArray) : Bool := !decide ((dec s).1 = 65533) || decide (1 < (dec s).2)
def first (s : ByteArray) : Int × Int × Int := bif !full s then (0, 0, 2) else bif isL s then ((dec s).1, (dec s).2, 0) else (0, bad s, 4)
def look (a : Int × Int × Int × Unit) : Bool := inn a.1 0 256 && (inn a.2.1 0 256 && inn a.2.2.1 0 255)
end U
namespace Go.Proofs.YtmnbcnhpklejcaaDoor
open Go.Ev Go.RowKit
@[reducible] def attk : Kd := .pr (.int .i64) (.pr (.int .i64) (.pr (.int .i64) .un))
@[reducible] def celk : Kd := .pr .str (.pr (.int .i64) (.pr attk .un))
@[reducible] def link : Kd := .pr (.sl celk) (.pr .bool .un)
def w140 : FSpec := dspec [.int .i32] fun x => ii (U.width x.1)
def w139 : FSpec := dspec [.str] fun x => { c := some (decide (ByteArray.size x.1 ≤ 1048576)), rs := .tup [.one (.dat (.int .i32) (U.first x.1).1), .one (.dat (.int .i64) (U.first x.1).2.1), .one (.dat (.int .i64) (U.first x.1).2.2)] }
def w94 : FSpec := dspec [attk] fun x => ib (U.look x.1)
def F6 : List (Nat × FSpec) := [(154, w154), (155, w155)]
def F7 : List (Nat × FSpec) := [(138, w138)]
def live139 (key : Nat) : Lv := bif Nat.beq key 6 then { ls := [0, 6] } else bif Nat.beq key 1006 then { ls := [6] } else { ls := [] }
abbrev E139 : Env := { (E0.withFns F6).loops live139 (fun _ _ => none) with fuel := 4 }
end Go.Proofs.YtmnbcnhpklejcaaDoor

end
section
set_option linter.unusedVariables false
set_option maxRecDepth 20000
namespace Go.Proofs.YtmnbcnhpklejcaaDoor
open Go.Ev Go.RowKit
theorem t140 (r : Int)
    : evFn (E0.withFns F5) Tryd.f140 [PM.data (Kd.int IntKind.i64)] (toAVs [Kd.int IntKind.i32] (r, ())) [] =
Tr.ite (!U.valid r) (Tr.ret { rs := Slot.av (AV.one (Leaf.dat (Kd.int IntKind.i64) (-1 : Int))), upd := [], new := [] })
  (Tr.ite (decide (r < (32 : Int))) (Tr.ret { rs := Slot.av (AV.one (Leaf.dat (Kd.int IntKind.i64) (-1 : Int))), upd := [], new := [] })
    (Tr.ite (decide ((127 : Int) ≤ r))
      (Tr.ite (decide (r < (160 : Int))) (Tr.ret { rs := Slot.av (AV.one (Leaf.dat (Kd.int IntKind.i64) (-1 : Int))), upd := [], new := [] })
        (Tr.ite true
          (Tr.ite (U.within U.zero r) (Tr.ret { rs := Slot.av (AV.one (Leaf.dat (Kd.int IntKind.i64) (0 : Int))), upd := [], new := [] })
            (Tr.ite true
              (Tr.ite (U.within U.wide r) (Tr.ret { rs := Slot.av (AV.one (Leaf.dat (Kd.int IntKind.i64) (2 : Int))), upd := [], new := [] })
                (Tr.ret { rs := Slot.av (AV.one (Leaf.dat (Kd.int IntKind.i64) (1 : Int))), upd := [], new := [] }))
              Tr.fail))
          Tr.fail))
      (Tr.ite true
        (Tr.ite (U.within U.zero r) (Tr.ret { rs := Slot.av (AV.one (Leaf.dat (Kd.int IntKind.i64) (0 : Int))), upd := [], new := [] })
          (Tr.ite true
            (Tr.ite (U.within U.wide r) (Tr.ret { rs := Slot.av (AV.one (Leaf.dat (Kd.int IntKind.i64) (2 : Int))), upd := [], new := [] })
              (Tr.ret { rs := Slot.av (AV.one (Leaf.dat (Kd.int IntKind.i64) (1 : Int))), upd := [], new := [] }))
            Tr.fail))
        Tr.fail))) := by
  kernel_rfl
theorem t139 (s : ByteArray) {v1 : Int} {v2 : Int} {v3 : Int} {v4 : Int}
    (h1 : ((U.dec s).snd + (1 : Int)) = v1)
    (h2 : (IntKind.i64.wrap v1 + (1 : Int)) = v2)
    (h3 : (IntKind.i64.wrap v2 + (1 : Int)) = v3)
    (h4 : (IntKind.i64.wrap v3 + (1 : Int)) = v4)
    : evFn E139 Tryd.f139 [PM.data (Kd.int IntKind.i32), PM.data (Kd.int IntKind.i64), PM.data (Kd.int IntKind.i64)] (toAVs [Kd.str] (s, ())) [] =
Tr.ite (!U.full s)
  (Tr.ret
    { rs := Slot.tup [AV.one (Leaf.dat (Kd.int IntKind.i32) (0 : Int)), AV.one (Leaf.dat (Kd.int IntKind.i64) (0 : Int)), AV.one (Leaf.dat (Kd.int IntKind.i64) (2 : Int))], upd := [], new := [] })
  (Tr.ite (!decide ((U.dec s).fst = (65533 : Int)))
    (Tr.ret
      { rs := Slot.tup [AV.one (Leaf.dat (Kd.int IntKind.i32) (U.dec s).fst), AV.one (Leaf.dat (Kd.int IntKind.i64) (U.dec s).snd), AV.one (Leaf.dat (Kd.int IntKind.i64) (0 : Int))], upd := [],
        new := [] })
    (Tr.ite (decide ((1 : Int) < (U.dec s).snd))
      (Tr.ret
        { rs := Slot.tup [AV.one (Leaf.dat (Kd.int IntKind.i32) (U.dec s).fst), AV.one (Leaf.dat (Kd.int IntKind.i64) (U.dec s).snd), AV.one (Leaf.dat (Kd.int IntKind.i64) (0 : Int))], upd := [],
          new := [] })
      (Tr.ite (decide ((U.dec s).snd < (↑s.size : Int)))
        (Tr.ite (decide ((0 : Int) ≤ IntKind.i64.wrap v1 ∧ IntKind.i64.wrap v1 ≤ (↑s.size : Int)))
          (Tr.ite (!U.full (s.extract (0 : Nat) (IntKind.i64.wrap v1).toNat))
            (Tr.ite (decide (IntKind.i64.wrap v1 < (↑s.size : Int)))
              (Tr.ite (decide ((0 : Int) ≤ IntKind.i64.wrap v2 ∧ IntKind.i64.wrap v2 ≤ (↑s.size : Int)))
                (Tr.ite (!U.full (s.extract (0 : Nat) (IntKind.i64.wrap v2).toNat))
                  (Tr.ite (decide (IntKind.i64.wrap v2 < (↑s.size : Int)))
                    (Tr.ite (decide ((0 : Int) ≤ IntKind.i64.wrap v3 ∧ IntKind.i64.wrap v3 ≤ (↑s.size : Int)))
                      (Tr.ite (!U.full (s.extract (0 : Nat) (IntKind.i64.wrap v3).toNat))
                        (Tr.ite (decide (IntKind.i64.wrap v3 < (↑s.size : Int)))
                          (Tr.ite (decide ((0 : Int) ≤ IntKind.i64.wrap v4 ∧ IntKind.i64.wrap v4 ≤ (↑s.size : Int)))
                            (Tr.ite (!U.full (s.extract (0 : Nat) (IntKind.i64.wrap v4).toNat)) Tr.fail
                              (Tr.ret
                                {
                                  rs :=
                                    Slot.tup
                                      [AV.one (Leaf.dat (Kd.int IntKind.i32) (0 : Int)), AV.one (Leaf.dat (Kd.int IntKind.i64) (IntKind.i64.wrap v3)),
                                        AV.one (Leaf.dat (Kd.int IntKind.i64) (4 : Int))],
                                  upd := [], new := [] }))
                            Tr.fail)
                          (Tr.ret
                            {
                              rs :=
                                Slot.tup
                                  [AV.one (Leaf.dat (Kd.int IntKind.i32) (0 : Int)), AV.one (Leaf.dat (Kd.int IntKind.i64) (IntKind.i64.wrap v3)), AV.one (Leaf.dat (Kd.int IntKind.i64) (4 : Int))],
                              upd := [], new := [] }))
                        (Tr.ret
                          {
                            rs :=
                              Slot.tup
                                [AV.one (Leaf.dat (Kd.int IntKind.i32) (0 : Int)), AV.one (Leaf.dat (Kd.int IntKind.i64) (IntKind.i64.wrap v2)), AV.one (Leaf.dat (Kd.int IntKind.i64) (4 : Int))],
                            upd := [], new := [] }))
                      Tr.fail)
                    (Tr.ret
                      {
                        rs :=
                          Slot.tup [AV.one (Leaf.dat (Kd.int IntKind.i32) (0 : Int)), AV.one (Leaf.dat (Kd.int IntKind.i64) (IntKind.i64.wrap v2)), AV.one (Leaf.dat (Kd.int IntKind.i64) (4 : Int))],
                        upd := [], new := [] }))
                  (Tr.ret
                    { rs := Slot.tup [AV.one (Leaf.dat (Kd.int IntKind.i32) (0 : Int)), AV.one (Leaf.dat (Kd.int IntKind.i64) (IntKind.i64.wrap v1)), AV.one (Leaf.dat (Kd.int IntKind.i64) (4 : Int))],
                      upd := [], new := [] }))
                Tr.fail)
              (Tr.ret
                { rs := Slot.tup [AV.one (Leaf.dat (Kd.int IntKind.i32) (0 : Int)), AV.one (Leaf.dat (Kd.int IntKind.i64) (IntKind.i64.wrap v1)), AV.one (Leaf.dat (Kd.int IntKind.i64) (4 : Int))],
                  upd := [], new := [] }))
            (Tr.ret
              { rs := Slot.tup [AV.one (Leaf.dat (Kd.int IntKind.i32) (0 : Int)), AV.one (Leaf.dat (Kd.int IntKind.i64) (U.dec s).snd), AV.one (Leaf.dat (Kd.int IntKind.i64) (4 : Int))], upd := [],
                new := [] }))
          Tr.fail)
        (Tr.ret
          { rs := Slot.tup [AV.one (Leaf.dat (Kd.int IntKind.i32) (0 : Int)), AV.one (Leaf.dat (Kd.int IntKind.i64) (U.dec s).snd), AV.one (Leaf.dat (Kd.int IntKind.i64) (4 : Int))], upd := [],
            new := [] })))) := by
  subst h1; subst h2; subst h3; subst h4; kernel_rfl
theorem t155 (s : ByteArray) {v1 : Int}
    (h1 : (bt s (0 : Int)) = v1)
    : evFn (E0.withFns F1) Tryd.f155 [PM.data (Kd.int IntKind.i32), PM.data (Kd.int IntKind.i64)] (toAVs [Kd.str] (s, ())) [] =
Tr.ite (!decide (s = { data := #[] }))
  (Tr.ite (inB (0 : Int) s.size)
    (Tr.ite (decide (v1 < (128 : Int)))
      (Tr.ite (inB (0 : Int) s.size) (Tr.ret { rs := Slot.tup [AV.one (Leaf.dat (Kd.int IntKind.i32) (IntKind.i32.wrap v1)), AV.one (Leaf.dat (Kd.int IntKind.i64) (1 : Int))], upd := [], new := [] })
        Tr.fail)
      (Tr.ret { rs := Slot.tup [AV.one (Leaf.dat (Kd.int IntKind.i32) (U.dec s).fst), AV.one (Leaf.dat (Kd.int IntKind.i64) (U.dec s).snd)], upd := [], new := [] }))
    Tr.fail)
  (Tr.ret { rs := Slot.tup [AV.one (Leaf.dat (Kd.int IntKind.i32) (U.dec s).fst), AV.one (Leaf.dat (Kd.int IntKind.i64) (U.dec s).snd)], upd := [], new := [] }) := by
  subst h1; kernel_rfl
theorem t94 (a : Int) (b : Int) (c : Int)
    : evFn (E0.withFns F7) Tryd.f94 [PM.data Kd.bool] (toAVs [attk] ((a, b, c, ()), ())) [] =
Tr.ite (U.inn a (0 : Int) (256 : Int))
  (Tr.ite (U.inn b (0 : Int) (256 : Int)) (Tr.ret { rs := Slot.av (AV.one (Leaf.dat Kd.bool (U.inn c (0 : Int) (255 : Int)))), upd := [], new := [] })
    (Tr.ret { rs := Slot.av (AV.one (Leaf.dat Kd.bool false)), upd := [], new := [] }))
  (Tr.ret { rs := Slot.av (AV.one (Leaf.dat Kd.bool false)), upd := [], new := [] }) := by
  kernel_rfl
end Go.Proofs.YtmnbcnhpklejcaaDoor

end
section
set_option linter.unusedVariables false
set_option linter.unusedSimpArgs false
set_option maxRecDepth 20000
namespace U
open Go Go.Ev Go.Proofs.YtmnbcnhpklejcaaDoor
theorem bt_pre {s : ByteArray} {k i : Nat} (h : i < k) (hk : k ≤ s.size) : bt (s.extract 0 k) (i : Int) = bt s (i : Int) := by
  rw [bt_eq (by omega), bt_eq (by omega), bl_ext, List.drop_zero]
  simp only [List.getD_eq_getElem?_getD, Int.toNat_natCast]
  rw [List.getElem?_take_of_lt h]
theorem size_pre {s : ByteArray} {k : Nat} (hk : k ≤ s.size) : (s.extract 0 k).size = k := by
  rw [← bl_len, bl_ext, List.drop_zero, List.length_take, bl_len]
  omega
theorem full_pre {s : ByteArray} {k : Nat} (h1 : 1 ≤ k) (hk : k ≤ s.size) : full (s.extract 0 k) =
    (bif decide (need (bt s 0) ≤ (k : Int)) then true else bif decide (1 < k) && !ok1 s then true else decide (2 < k) && !cont (bt s 2)) := by
  unfold full
  have e0 : bt (s.extract 0 k) 0 = bt s 0 := bt_pre (i := 0) (by omega) hk
  have e2 : 2 < k → bt (s.extract 0 k) 2 = bt s 2 := fun h => bt_pre (i := 2) h hk
  have e1 : 1 < k → ok1 (s.extract 0 k) = ok1 s := fun h => by
    unfold ok1
    have e1 : bt (s.extract 0 k) 1 = bt s 1 := bt_pre (i := 1) h hk
    rw [e0, e1]
  rw [size_pre hk, e0, decide_eq_false (show ¬ k = 0 by omega), cond_false]
  by_cases h : 1 < k
  · rw [e1 h]
    by_cases h2 : 2 < k
    · rw [e2 h2]
    · simp only [h2, decide_false, Bool.false_and]
  · have h2 : ¬ 2 < k := by omega
    simp only [h, h2, decide_false, Bool.false_and]
theorem bad_cases {s : ByteArray} (hf : full s = true) (hl : isL s = false) : (dec s).1 = 65533 ∧ (dec s).2 = 1 ∧ 1 ≤ s.size ∧
    (need (bt s 0) = 0 ∨ (2 ≤ need (bt s 0) ∧ 1 < s.size ∧ ok1 s = false) ∨ (3 ≤ need (bt s 0) ∧ 2 < s.size ∧ ok1 s = true ∧ cont (bt s 2) = false) ∨
      (need (bt s 0) = 4 ∧ 3 < s.size ∧ ok1 s = true ∧ cont (bt s 2) = true)) := by
  unfold isL at hl
  unfold full at hf
  have hs : ¬ s.size = 0 := fun h => by rw [decide_eq_true h] at hf; cases hf
  rw [decide_eq_false hs, cond_false] at hf
  have hN := need_cases (bt s 0)
  unfold dec at hl ⊢
  simp only [decide_eq_false hs, cond_false] at hl ⊢
  by_cases c0 : need (bt s 0) = 0
  · simp only [decide_eq_true c0, cond_true]
    exact ⟨by trivial, by trivial, by omega, .inl c0⟩
  simp only [decide_eq_false c0, cond_false] at hl ⊢
  by_cases c1 : need (bt s 0) = 1
  · simp only [decide_eq_true c1, cond_true] at hl
    have h2 : bt s 0 = 65533 := by simpa using hl
    omega
  simp only [decide_eq_false c1, cond_false] at hl ⊢
  by_cases c2 : (s.size : Int) < need (bt s 0)
  · simp only [decide_eq_true c2, cond_true]
    rw [decide_eq_false (show ¬ need (bt s 0) ≤ (s.size : Int) by omega), cond_false] at hf
    refine ⟨by trivial, by trivial, by omega, ?_⟩
    cases ho : ok1 s with
    | false =>
      by_cases h1 : 1 < s.size
      · exact .inr (.inl ⟨by omega, h1, by trivial⟩)
      · have h2 : ¬ 2 < s.size := by omega
        simp [h1, h2] at hf
    | true =>
      rw [ho] at hf
      simp only [Bool.not_true, Bool.and_false, cond_false, Bool.and_eq_true, decide_eq_true_eq, Bool.not_eq_true'] at hf
      exact .inr (.inr (.inl ⟨by omega, hf.1, by trivial, hf.2⟩))
  simp only [decide_eq_false c2, cond_false] at hl ⊢
  cases ho : ok1 s with
  | false =>
    simp only [ho, Bool.not_false, cond_true]
    exact ⟨by trivial, by trivial, by omega, .inr (.inl ⟨by omega, by omega, by trivial⟩)⟩
  | true =>
    rw [ho] at hl
    simp only [Bool.not_true, cond_false] at hl ⊢
    by_cases c3 : need (bt s 0) = 2
    · simp only [decide_eq_true c3, cond_true] at hl
      simp at hl
    simp only [decide_eq_false c3, cond_false] at hl ⊢
    cases hc : cont (bt s 2) with
    | false =>
      simp only [hc, Bool.not_false, cond_true]
      exact ⟨by trivial, by trivial, by omega, .inr (.inr (.inl ⟨by omega, by omega, by trivial, by trivial⟩))⟩
    | true =>
      rw [hc] at hl
      simp only [Bool.not_true, cond_false] at hl ⊢
      by_cases c4 : need (bt s 0) = 3
      · simp only [decide_eq_true c4, cond_true] at hl
        simp at hl
      simp only [decide_eq_false c4, cond_false] at hl ⊢
      cases hd : cont (bt s 3) with
      | false =>
        simp only [hd, Bool.not_false, cond_true]
        exact ⟨by trivial, by trivial, by omega, .inr (.inr (.inr ⟨by omega, by omega, by trivial, by trivial⟩))⟩
      | true =>
        rw [hd] at hl
        simp at hl
end U
namespace Go.Proofs.YtmnbcnhpklejcaaDoor
open Go.Ev Go.RowKit
theorem v155 (s : ByteArray) : (evFn (E0.withFns F1) Tryd.f155 [.data (.int .i32), .data (.int .i64)] (toAVs [.str] (s, ())) []).val = some (rd (U.dec s)) := by
  rw [t155 s rfl]
  by_cases c0 : s = { data := #[] }
  · simp only [Tr.val, c0, decide_true, Bool.not_true, cond_false]
  · have hp : 0 < s.size := by
      rcases Nat.eq_zero_or_pos s.size with e | e
      · refine absurd (bl_inj ?_) c0
        rw [show bl ({ data := #[] } : ByteArray) = [] from rfl]
        exact List.length_eq_zero_iff.1 (by rw [bl_len]; exact e)
      · exact e
    have i0 : inB 0 s.size = true := inB_true ⟨by omega, by omega⟩
    have hs : ¬ s.size = 0 := by omega
    have b0 := bt_ge s 0
    have b1 := bt_lt s 0
    by_cases c1 : bt s 0 < 128
    · have hn : U.need (bt s 0) = 1 := by unfold U.need; rw [if_pos c1]
      have e : U.dec s = (bt s 0, 1) := by
        unfold U.dec
        rw [decide_eq_false hs, hn]
        rfl
      simp only [Tr.val, c0, c1, i0, e, decide_true, decide_false, Bool.not_false, cond_true, wrap32_id (show -2147483648 ≤ bt s 0 by omega) (by omega)]
    · simp only [Tr.val, c0, c1, i0, decide_true, decide_false, Bool.not_false, cond_true, cond_false]
theorem wk155 : SpecOK Tryd.prog E0 155 w155 := by
  refine dspec_ok (E0 := E0) (E := E0.withFns F1) (fns := F1) tab (.cons wk169 .nil) rfl rfl hm Tryd.func155 (by kernel_rfl) [.data (.int .i32), .data (.int .i64)] (fun x hx => ?_)
  obtain ⟨s, z⟩ := x
  exact v155 s
theorem A6 : AllFn Tryd.prog E0 F6 := .cons wk154 (.cons wk155 .nil)
theorem v140 (r : Int) : (evFn (E0.withFns F5) Tryd.f140 [.data (.int .i64)] (toAVs [.int .i32] (r, ())) []).val = some (ri (U.width r)) := by
  rw [t140 r]
  unfold U.width
  cases h1 : U.valid r <;> by_cases h2 : r < 32 <;> by_cases h3 : 127 ≤ r <;> by_cases h4 : r < 160 <;> cases h5 : U.within U.zero r <;> cases h6 : U.within U.wide r <;>
    simp only [Tr.val, h1, h2, h3, h4, h5, h6, decide_true, decide_false, cond_true, cond_false, Bool.not_true, Bool.not_false, Bool.true_and, Bool.and_true, Bool.false_and, Bool.and_false, Bool.or_true, Bool.true_or, Bool.or_false, Bool.false_or, Bool.or_self, Bool.and_self] <;> rfl
theorem wk140 : SpecOK Tryd.prog E0 140 w140 := by
  refine dspec_ok (E0 := E0) (E := E0.withFns F5) (fns := F5) tab A5 rfl rfl hm Tryd.func140 (by kernel_rfl) [.data (.int .i64)] (fun x hx => ?_)
  obtain ⟨s, z⟩ := x
  exact v140 s
theorem wk94 : SpecOK Tryd.prog E0 94 w94 := by
  refine dspec_ok (E0 := E0) (E := E0.withFns F7) (fns := F7) tab (.cons wk138 .nil) rfl rfl hm Tryd.func94 (by kernel_rfl) [.data .bool] (fun x hx => ?_)
  obtain ⟨⟨a, b, c, z⟩, z'⟩ := x
  have e : evFn (E0.withFns F7) Tryd.f94 [.data .bool] (toAVs [attk] ((a, b, c, z), z')) [] = _ := t94 a b c
  rw [e]
  show Tr.val _ = some (rb (U.inn a 0 256 && (U.inn b 0 256 && U.inn c 0 255)))
  cases h1 : U.inn a 0 256 <;> cases h2 : U.inn b 0 256 <;> simp only [Tr.val, h1, h2, cond_true, cond_false, Bool.true_and, Bool.false_and] <;> rfl
abbrev r3 (x : Int × Int × Int) : FRes := ⟨.tup [.one (.dat (.int .i32) x.1), .one (.dat (.int .i64) x.2.1), .one (.dat (.int .i64) x.2.2)], [], []⟩
theorem v139 (s : ByteArray) : (evFn E139 Tryd.f139 [.data (.int .i32), .data (.int .i64), .data (.int .i64)] (toAVs [.str] (s, ())) []).val = some (r3 (U.first s)) := by
  rw [t139 s rfl rfl rfl rfl]
  unfold U.first
  cases hf : U.full s with
  | false => simp only [Tr.val, hf, Bool.not_false, cond_true]
  | true =>
    simp only [Tr.val, hf, Bool.not_true, cond_false]
    cases hl : U.isL s with
    | true =>
      unfold U.isL at hl
      by_cases c1 : (U.dec s).1 = 65533
      · rw [decide_eq_true c1] at hl
        have c2 : (1 : Int) < (U.dec s).2 := by simpa using hl
        simp only [c1, c2, decide_true, Bool.not_true, cond_true, cond_false]
      · simp only [c1, decide_false, Bool.not_false, cond_true]
    | false =>
      obtain ⟨h1, h2, h3, h4⟩ := U.bad_cases hf hl
      rw [h1, h2]
      have w2 : IntKind.i64.wrap (1 + 1) = 2 := by decide
      have w3 : IntKind.i64.wrap (2 + 1) = 3 := by decide
      have w4 : IntKind.i64.wrap (3 + 1) = 4 := by decide
      simp only [w2, w3, w4, decide_true, Bool.not_true, cond_false, show ¬ (1 : Int) < 1 by omega, decide_false]
      unfold U.bad
      by_cases c1 : (1 : Int) < (s.size : Int)
      · have p2 := U.full_pre (s := s) (k := 2) (by omega) (by omega)
        rw [show ((2 : Int).toNat) = 2 from rfl, show ((3 : Int).toNat) = 3 from rfl, show ((4 : Int).toNat) = 4 from rfl, p2]
        have i2 : decide ((0 : Int) ≤ 2 ∧ (2 : Int) ≤ (s.size : Int)) = true := decide_eq_true ⟨by omega, by omega⟩
        rcases h4 with h4 | ⟨a, b, c⟩ | ⟨a, b, c, d⟩ | ⟨a, b, c, d⟩
        · simp only [c1, i2, h4, decide_true, cond_true, Bool.not_true, cond_false, show (0 : Int) ≤ ((2 : Nat) : Int) by omega]
        · have e0 : ¬ U.need (bt s 0) = 0 := by omega
          by_cases e2 : U.need (bt s 0) ≤ ((2 : Nat) : Int)
          · simp only [c1, i2, e0, e2, c, decide_true, decide_false, cond_true, Bool.not_true, Bool.not_false, cond_false]
          · simp only [c1, i2, e0, e2, c, decide_true, decide_false, cond_true, Bool.not_true, Bool.not_false, cond_false, show 1 < 2 by omega, Bool.and_self]
        · have e0 : ¬ U.need (bt s 0) = 0 := by omega
          have e2 : ¬ U.need (bt s 0) ≤ ((2 : Nat) : Int) := by omega
          have p3 := U.full_pre (s := s) (k := 3) (by omega) (by omega)
          rw [p3]
          have i3 : decide ((0 : Int) ≤ 3 ∧ (3 : Int) ≤ (s.size : Int)) = true := decide_eq_true ⟨by omega, by omega⟩
          have c2 : (2 : Int) < (s.size : Int) := by omega
          by_cases e3 : U.need (bt s 0) ≤ ((3 : Nat) : Int)
          · simp only [c1, c2, i2, i3, e0, e2, e3, c, d, decide_true, decide_false, cond_true, Bool.not_true, Bool.not_false, cond_false, show 1 < 2 by omega, show ¬ 2 < 2 by omega, Bool.and_self, Bool.and_false, Bool.false_and]
          · simp only [c1, c2, i2, i3, e0, e2, e3, c, d, decide_true, decide_false, cond_true, Bool.not_true, Bool.not_false, cond_false, show 1 < 2 by omega, show ¬ 2 < 2 by omega, show 1 < 3 by omega, show 2 < 3 by omega, Bool.and_self, Bool.and_false, Bool.false_and]
        · have e0 : ¬ U.need (bt s 0) = 0 := by omega
          have e2 : ¬ U.need (bt s 0) ≤ ((2 : Nat) : Int) := by omega
          have e3 : ¬ U.need (bt s 0) ≤ ((3 : Nat) : Int) := by omega
          have e4 : U.need (bt s 0) ≤ ((4 : Nat) : Int) := by omega
          have p3 := U.full_pre (s := s) (k := 3) (by omega) (by omega)
          have p4 := U.full_pre (s := s) (k := 4) (by omega) (by omega)
          rw [p3, p4]
          have i3 : decide ((0 : Int) ≤ 3 ∧ (3 : Int) ≤ (s.size : Int)) = true := decide_eq_true ⟨by omega, by omega⟩
          have i4 : decide ((0 : Int) ≤ 4 ∧ (4 : Int) ≤ (s.size : Int)) = true := decide_eq_true ⟨by omega, by omega⟩
          have c2 : (2 : Int) < (s.size : Int) := by omega
          have c3 : (3 : Int) < (s.size : Int) := by omega
          simp only [c1, c2, c3, i2, i3, i4, e0, e2, e3, e4, c, d, decide_true, decide_false, cond_true, Bool.not_true, Bool.not_false, cond_false, show 1 < 2 by omega, show ¬ 2 < 2 by omega, show 1 < 3 by omega, show 2 < 3 by omega, Bool.and_self, Bool.and_false, Bool.false_and]
      · rcases h4 with h4 | ⟨a, b, c⟩ | ⟨a, b, c, d⟩ | ⟨a, b, c, d⟩
        · simp only [c1, h4, decide_true, decide_false, cond_true, cond_false]
        · omega
        · omega
        · omega
end Go.Proofs.YtmnbcnhpklejcaaDoor

end
section
set_option linter.unusedVariables false
set_option linter.unusedSimpArgs false
set_option maxRecDepth 20000
open Go Go.Ev
namespace Go.Proofs.YtmnbcnhpklejcaaDoor
open Go.RowKit
abbrev Attr := Int × Int × Int × Unit
abbrev Cell := ByteArray × Int × Attr × Unit
abbrev Line := List Cell × Bool × Unit
theorem wk139 : SpecOK Tryd.prog E0 139 w139 := by
  refine dspec_ok (E0 := E0) (E := E139) (fns := F6) tab A6 rfl rfl hm Tryd.func139 (by kernel_rfl) [.data (.int .i32), .data (.int .i64), .data (.int .i64)] (fun x hx => ?_)
  obtain ⟨s, z⟩ := x
  exact v139 s
abbrev G0 : List (Nat × FSpec) := [(139, w139), (140, w140), (138, w138), (94, w94)]
theorem AG0 : AllFn Tryd.prog E0 G0 := .cons wk139 (.cons wk140 (.cons wk138 (.cons wk94 .nil)))
def live141 (key : Nat) : Lv :=
  bif Nat.beq key 2 then { ls := [0, 3] } else bif Nat.beq key 1002 then { ls := [2, 3] } else
  { ls := [] }
abbrev M141 (ls : Nat → VS → Option (Tr (Ex × VS))) : Env := (E0.withFns G0).loops live141 ls
@[reducible] def p141_0 : LP := { n := 28, sl := [.d (Kd.str), .d (.int .i64)], bl := [] }
def B141_0 (x0 : ByteArray) (x1 : Int) : Tr (p141_0.T ⊕ (Int × Int ⊕ Int)) :=
  let v1 : Int := (U.first x0).fst
  let v2 : Int := (U.first x0).snd.snd
  let v3 : Int := (U.first x0).snd.fst
  Tr.ite (!decide (x0 = { data := #[] }))
    (Tr.ite (decide (x0.size ≤ (1048576 : Nat)))
      (Tr.ite (!decide (v2 = (0 : Int))) (Tr.ret (Sum.inr (Sum.inl ((-1 : Int), x1))))
        (Tr.ite (!decide (U.width v1 = (0 : Int))) (Tr.ret (Sum.inr (Sum.inl ((-1 : Int), x1))))
          (Tr.ite (decide ((0 : Int) ≤ v3 ∧ v3 ≤ (↑x0.size : Int))) (Tr.ret (Sum.inl ((x0.extract v3.toNat x0.size, IntKind.i64.wrap (x1 + (1 : Int)), ()), ()))) Tr.fail)))
      Tr.fail)
    (Tr.ret (Sum.inr (Sum.inr x1)))
def X141_0 : (Int × Int ⊕ Int) → Ex × VS
  | (.inl r) => Prod.mk Ex.ret { n := 28, v := [Slot.av (AV.one (Leaf.dat (.int .i64) r.fst)), Slot.av (AV.one (Leaf.dat (.int .i64) r.snd))], h := [] }
  | (.inr r) => Prod.mk (Ex.exit ( 0)) { n := 28, v := [Slot.av (AV.one Leaf.undef), Slot.av (AV.one (Leaf.dat (.int .i64) r))], h := [] }
def b141_0 : p141_0.T → Tr (p141_0.T ⊕ (Int × Int ⊕ Int)) := fun ⟨⟨x0, ⟨x1, _⟩⟩, _⟩ => B141_0 x0 x1
theorem h141_0 (ls : Nat → VS → Option (Tr (Ex × VS))) (x : p141_0.T) : (evC (evI 2) (lc Tryd.f141 0) (Env.lend (M141 ls) 0) (unV (live141 2) (p141_0.V x))).map (decL 0 (live141 2) (live141 1002)) = (b141_0 x).map (encR p141_0.V X141_0) := by
  obtain ⟨⟨x0, ⟨x1, _⟩⟩, _⟩ := x; kernel_rfl
theorem c141_0 (x : p141_0.T) : canV 0 (live141 2) (unV (live141 2) (p141_0.V x)) = p141_0.V x := by
  obtain ⟨⟨x0, ⟨x1, _⟩⟩, _⟩ := x; kernel_rfl
theorem l141_0 {T : p141_0.T → Tr (Int × Int ⊕ Int)} {ls : Nat → VS → Option (Tr (Ex × VS))} (hls : ∀ x, (Env.lend (M141 ls) 0).ls 2 x = p141_0.ls (fun a => (T a).map X141_0) x) (hS : ∀ x r, (T x).val = some r → Rounds b141_0 x r) : LoopOK (evI 2) (Env.lend (M141 ls) 0) (lc Tryd.f141 0) :=
  loopA 2 (live141 2) (live141 1002) p141_0 b141_0 X141_0 T (by kernel_rfl) rfl rfl hls (h141_0 ls) c141_0 hS
end Go.Proofs.YtmnbcnhpklejcaaDoor
namespace U
open Go Go.Ev
def marksL : Nat → ByteArray → Int → Int × Int ⊕ Int
  | 0, _, n => .inr n
  | k + 1, s, n => if s.size = 0 then .inr n else if (first s).2.2 = 0 ∧ width (first s).1 = 0 then marksL k (s.extract (first s).2.1.toNat s.size) (n + 1) else .inl (-1, n)
def marks (s : ByteArray) : Int := match marksL s.size s 0 with
  | .inr n => n
  | .inl r => r.1
def cellR (c : ByteArray × Int × (Int × Int × Int × Unit) × Unit) : Bool :=
  if c.1.size = 0 then look c.2.2.1 && inn c.2.1 0 1 else
  if (first c.1).2.2 = 0 ∧ inn c.2.1 1 2 = true ∧ width (first c.1).1 = c.2.1 then look c.2.2.1 && inn (marks (c.1.extract (first c.1).2.1.toNat c.1.size)) 0 2 else false
theorem first_ok {s : ByteArray} (h : (first s).2.2 = 0) : 1 ≤ (first s).2.1 ∧ (first s).2.1 ≤ (s.size : Int) := by
  unfold first at h ⊢
  cases hf : full s with
  | false => rw [hf] at h; simp at h
  | true =>
    rw [hf] at h
    cases hl : isL s with
    | false => rw [hl] at h; simp at h
    | true =>
      simp only [Bool.not_true, cond_false, cond_true]
      unfold full at hf
      unfold isL at hl
      have hN := need_cases (bt s 0)
      unfold dec at hl ⊢
      by_cases c0 : s.size = 0
      · simp [c0] at hf
      by_cases c1 : need (bt s 0) = 0
      · simp [c0, c1] at hl
      by_cases c2 : need (bt s 0) = 1
      · simp only [c0, c2, decide_true, decide_false, cond_true, cond_false, show ¬ (1 : Int) = 0 by omega]
        omega
      by_cases c3 : (s.size : Int) < need (bt s 0)
      · simp [c0, c1, c2, c3] at hl
      cases ho : ok1 s with
      | false => simp [c0, c1, c2, c3, ho] at hl
      | true =>
        by_cases c4 : need (bt s 0) = 2
        · have h9 : ¬ ((s.size : Int) < 2) := by omega
          simp [c0, c4, ho, h9]
          omega
        cases h1 : cont (bt s 2) with
        | false => simp [c0, c1, c2, c3, c4, ho, h1] at hl
        | true =>
          by_cases c5 : need (bt s 0) = 3
          · have h9 : ¬ ((s.size : Int) < 3) := by omega
            simp [c0, c5, ho, h1, h9]
            omega
          cases h2 : cont (bt s 3) with
          | false => simp [c0, c1, c2, c3, c4, c5, ho, h1, h2] at hl
          | true =>
            simp only [c0, c1, c2, c3, c4, c5, ho, h1, h2, decide_true, decide_false, cond_true, cond_false, Bool.not_true]
            omega
end U
namespace Go.Proofs.YtmnbcnhpklejcaaDoor
open Go Go.Ev Go.RowKit
def T141 (x : p141_0.T) : Tr (Int × Int ⊕ Int) := .ite (decide (ByteArray.size x.1.1 ≤ 1048576 ∧ x.1.2.1 = 0)) (.spl (U.marksL (ByteArray.size x.1.1) x.1.1 0) (0, 0) 0) .fail
abbrev E141 : Env := M141 fun key x => bif Nat.beq key 2 then p141_0.ls (fun a => (T141 a).map X141_0) x else none
theorem r141 : ∀ (k : Nat) (s : ByteArray) (n : Nat), s.size ≤ k → n + k ≤ 1048576 → Rounds b141_0 ((s, (n : Int), ()), ()) (U.marksL k s n)
  | 0, s, n, h1, h2 => by
    refine .exit ?_
    have := ba_nil (s := s) (by omega)
    subst this
    rfl
  | k + 1, s, n, h1, h2 => by
    by_cases h0 : s.size = 0
    · refine .exit ?_
      have := ba_nil (s := s) (by omega)
      subst this
      rfl
    · have hne := ba_ne h0
      have hsz : s.size ≤ 1048576 := by omega
      simp only [U.marksL, h0, if_false]
      by_cases h3 : (U.first s).2.2 = 0
      · by_cases h4 : U.width (U.first s).1 = 0
        · obtain ⟨a, b⟩ := U.first_ok h3
          rw [if_pos ⟨h3, h4⟩]
          refine .step (y := ((s.extract (U.first s).2.1.toNat s.size, ((n + 1 : Nat) : Int), ()), ())) ?_ ?_
          · have hb : (0 : Int) ≤ (U.first s).2.1 ∧ (U.first s).2.1 ≤ (s.size : Int) := ⟨by omega, b⟩
            simp only [b141_0, B141_0, Tr.val, h3, h4, hne, hsz, hb, decide_true, decide_false, Bool.not_false, Bool.not_true, cond_true, cond_false, wrap64_nat (show n ≤ 1048576 by omega), and_self]
          · refine r141 k _ (n + 1) ?_ (by omega)
            rw [← bl_len, bl_ext, List.length_drop, List.length_take, bl_len]
            omega
        · rw [if_neg (fun h => h4 h.2)]
          refine .exit ?_
          simp only [b141_0, B141_0, Tr.val, h3, h4, hne, hsz, decide_true, decide_false, Bool.not_false, Bool.not_true, cond_true, cond_false]
      · rw [if_neg (fun h => h3 h.1)]
        refine .exit ?_
        simp only [b141_0, B141_0, Tr.val, h3, hne, hsz, decide_true, decide_false, Bool.not_false, Bool.not_true, cond_true, cond_false]
theorem L141 : LoopOK (evI 2) (E141.lend 0) (lc Tryd.f141 0) := by
  refine l141_0 (T := T141) (fun x => rfl) ?_
  rintro ⟨⟨s, n, z⟩, z'⟩ r h
  obtain ⟨h1, h2⟩ := pre_val h
  rw [Tr.val_spl] at h2
  cases h2
  have h1 := of_decide_eq_true h1
  have h3 : n = (0 : Int) := h1.2
  subst h3
  exact r141 _ s 0 (Nat.le_refl _) (by have := h1.1; dsimp at this; omega)
def d141 (a : ByteArray) : Tr (Int) :=
  Tr.ite (decide (a.size ≤ (1048576 : Nat) ∧ (0 : Int) = (0 : Int)))
    (Tr.ite (U.marksL a.size a (0 : Int)).isLeft (Tr.ret ((U.marksL a.size a (0 : Int)).getLeft?.getD ((0 : Int), (0 : Int))).fst) (Tr.ret ((U.marksL a.size a (0 : Int)).getRight?.getD (0 : Int))))
    Tr.fail
def e141 (r : Int) : FRes := { rs := Slot.av (AV.one (Leaf.dat (.int .i64) r)), upd := [], new := [] }
@[reducible] def a141 : List AK := [AK.d Kd.str]
@[reducible] def b141 : List BK := []
theorem t141 (a : ByteArray) : evFn (E141) Tryd.f141 [PM.data (.int .i64)] (akAV a141 (a, ())) (bkBs b141 ()) = (d141 a).map e141 := by kernel_rfl
def s141 (C : akT a141 → Bool) (G : akT a141 → Int) : FSpec := aspec a141 b141 e141 (fun x _ => C x) (fun x _ => G x)
theorem k141 {C : akT a141 → Bool} {G : akT a141 → Int} (hd : ∀ (a : ByteArray), C (a, ()) = true → (d141 a).val = some (G (a, ()))) (IO : ItOK Tryd.prog (E141) := by exact itOK_none rfl) (L : ∀ c, Tryd.f141.body = some c → LsOK (evI 2) ((E141).lend 0) c := by exact fun c _ => LsOK_none rfl c) : SpecOK Tryd.prog E0 141 (s141 C G) :=
  aspec_ok (E := E141) tab AG0 rfl rfl hm Tryd.func141 (by kernel_rfl) [PM.data (.int .i64)] (fun X Y H => by obtain ⟨a, _⟩ := X; exact val_of (t141 a) (hd a H)) IO L
theorem wk141 : SpecOK Tryd.prog E0 141 (s141 (fun x => decide (ByteArray.size x.1 ≤ 1048576)) fun x => U.marks x.1) := by
  refine k141 (fun a h => ?_) (L := ls_ok (lcs := [lc Tryd.f141 0]) (rgs := []) (by kernel_rfl) (by kernel_rfl) L141 trivial)
  have h' : a.size ≤ 1048576 := of_decide_eq_true h
  simp only [d141, Tr.val, h', decide_true, cond_true, and_self]
  show _ = some (U.marks a)
  unfold U.marks
  cases hm : U.marksL a.size a 0 <;> rfl
abbrev G1 : List (Nat × FSpec) := (141, s141 (fun x => decide (ByteArray.size x.1 ≤ 1048576)) fun x => U.marks x.1) :: G0
theorem AG1 : AllFn Tryd.prog E0 G1 := .cons wk141 AG0
abbrev E89 : Env := E0.withFns G1
def d89 (a1 : ByteArray) (a2 : Int) (a31 : Int) (a32 : Int) (a33 : Int) : Tr (Bool) :=
  let v1 : Int := (U.first a1).fst
  let v2 : Int := (U.first a1).snd.snd
  let v3 : Int := (U.first a1).snd.fst
  let v4 : ByteArray := a1.extract v3.toNat a1.size
  Tr.ite (decide (a1 = { data := #[] })) (Tr.ite (U.look (a31, a32, a33, ())) (Tr.ret (U.inn a2 (0 : Int) (1 : Int))) (Tr.ret false))
    (Tr.ite (decide (a1.size ≤ (1048576 : Nat)))
      (Tr.ite (!decide (v2 = (0 : Int))) (Tr.ret false)
        (Tr.ite (!U.inn a2 (1 : Int) (2 : Int)) (Tr.ret false)
          (Tr.ite (!decide (U.width v1 = a2)) (Tr.ret false)
            (Tr.ite (U.look (a31, a32, a33, ()))
              (Tr.ite (decide ((0 : Int) ≤ v3 ∧ v3 ≤ (↑a1.size : Int))) (Tr.ite (decide (v4.size ≤ (1048576 : Nat))) (Tr.ret (U.inn (U.marks v4) (0 : Int) (2 : Int))) Tr.fail) Tr.fail)
              (Tr.ret false)))))
      Tr.fail)
def e89 (r : Bool) : FRes := { rs := Slot.av (AV.one (Leaf.dat Kd.bool r)), upd := [], new := [] }
@[reducible] def a89 : List AK := [AK.d celk]
@[reducible] def b89 : List BK := []
theorem t89 (a1 : ByteArray) (a2 : Int) (a31 : Int) (a32 : Int) (a33 : Int) : evFn (E89) Tryd.f89 [PM.data Kd.bool] (akAV a89 ((a1, a2, (a31, a32, a33, ()), ()), ())) (bkBs b89 ()) = (d89 a1 a2 a31 a32 a33).map e89 := by kernel_rfl
def s89 (C : akT a89 → Bool) (G : akT a89 → Bool) : FSpec := aspec a89 b89 e89 (fun x _ => C x) (fun x _ => G x)
theorem k89 {C : akT a89 → Bool} {G : akT a89 → Bool} (hd : ∀ (a1 : ByteArray) (a2 : Int) (a31 : Int) (a32 : Int) (a33 : Int), C ((a1, a2, (a31, a32, a33, ()), ()), ()) = true → (d89 a1 a2 a31 a32 a33).val = some (G ((a1, a2, (a31, a32, a33, ()), ()), ()))) (IO : ItOK Tryd.prog (E89) := by exact itOK_none rfl) (L : ∀ c, Tryd.f89.body = some c → LsOK (evI 2) ((E89).lend 0) c := by exact fun c _ => LsOK_none rfl c) : SpecOK Tryd.prog E0 89 (s89 C G) :=
  aspec_ok (E := E89) tab AG1 rfl rfl hm Tryd.func89 (by kernel_rfl) [PM.data Kd.bool] (fun X Y H => by obtain ⟨⟨a1, ⟨a2, ⟨⟨a31, ⟨a32, ⟨a33, _⟩⟩⟩, _⟩⟩⟩, _⟩ := X; exact val_of (t89 a1 a2 a31 a32 a33) (hd a1 a2 a31 a32 a33 H)) IO L
theorem wk89 : SpecOK Tryd.prog E0 89 (s89 (fun x => decide (ByteArray.size x.1.1 ≤ 1048576)) fun x => U.cellR x.1) := by
  refine k89 fun s w f g h H => ?_
  have H' : s.size ≤ 1048576 := of_decide_eq_true H
  show _ = some (U.cellR (s, w, (f, g, h, ()), ()))
  unfold U.cellR d89
  by_cases h0 : s.size = 0
  · have := ba_nil h0
    subst this
    cases h1 : U.look (f, g, h, ()) <;> simp only [Tr.val, h1, h0, decide_true, cond_true, cond_false, if_true, Bool.true_and, Bool.false_and]
  · have h1 := ba_ne h0
    by_cases h2 : (U.first s).2.2 = 0
    · obtain ⟨a, b⟩ := U.first_ok h2
      have hb : (0 : Int) ≤ (U.first s).2.1 ∧ (U.first s).2.1 ≤ (s.size : Int) := ⟨by omega, b⟩
      have hs : (s.extract (U.first s).2.1.toNat s.size).size ≤ 1048576 := by
        rw [← bl_len, bl_ext, List.length_drop, List.length_take, bl_len]
        omega
      cases h3 : U.inn w 1 2 <;> by_cases h4 : U.width (U.first s).1 = w <;> cases h5 : U.look (f, g, h, ()) <;>
        simp only [Tr.val, h0, h1, h2, h3, h4, h5, hb, hs, H', decide_true, decide_false, cond_true, cond_false, Bool.not_true, Bool.not_false, if_true, if_false, and_self, and_true, true_and, and_false, false_and, Bool.true_and, Bool.false_and, reduceCtorEq]
    · simp only [Tr.val, h0, h1, h2, H', decide_true, decide_false, cond_true, cond_false, Bool.not_false, if_false, false_and]
def d87 (a : List Cell) (b : Int) : Tr (Bool) :=
  let v1 : Int := (↑a.length : Int)
  let v2 : Int := b + (1 : Int)
  let v3 : Int := b - (1 : Int)
  Tr.ite (inB b a.length)
    (Tr.ite (decide ((rget celk a b).snd.fst = (2 : Int)))
      (Tr.ite (decide (IntKind.i64.wrap v2 < v1)) (Tr.ite (inB (IntKind.i64.wrap v2) a.length) (Tr.ret (decide ((rget celk a (IntKind.i64.wrap v2)).snd.fst = (0 : Int)))) Tr.fail) (Tr.ret false))
      (Tr.ite (decide ((rget celk a b).snd.fst = (0 : Int)))
        (Tr.ite (decide ((0 : Int) < b)) (Tr.ite (inB (IntKind.i64.wrap v3) a.length) (Tr.ret (decide ((rget celk a (IntKind.i64.wrap v3)).snd.fst = (2 : Int)))) Tr.fail) (Tr.ret false)) (Tr.ret true)))
    Tr.fail
def e87 (r : Bool) : FRes := { rs := Slot.av (AV.one (Leaf.dat Kd.bool r)), upd := [], new := [] }
@[reducible] def a87 : List AK := [AK.d celk.sl, AK.d (.int .i64)]
@[reducible] def b87 : List BK := []
theorem t87 (a : List Cell) (b : Int) : evFn (E0) Tryd.f87 [PM.data Kd.bool] (akAV a87 (a, b, ())) (bkBs b87 ()) = (d87 a b).map e87 := by kernel_rfl
def s87 (C : akT a87 → Bool) (G : akT a87 → Bool) : FSpec := aspec a87 b87 e87 (fun x _ => C x) (fun x _ => G x)
theorem k87 {C : akT a87 → Bool} {G : akT a87 → Bool} (hd : ∀ (a : List Cell) (b : Int), C (a, b, ()) = true → (d87 a b).val = some (G (a, b, ()))) (IO : ItOK Tryd.prog (E0) := by exact itOK_none rfl) (L : ∀ c, Tryd.f87.body = some c → LsOK (evI 2) ((E0).lend 0) c := by exact fun c _ => LsOK_none rfl c) : SpecOK Tryd.prog E0 87 (s87 C G) :=
  aspec_ok (E := E0) tab .nil rfl rfl hm Tryd.func87 (by kernel_rfl) [PM.data Kd.bool] (fun X Y H => by obtain ⟨a, ⟨b, _⟩⟩ := X; exact val_of (t87 a b) (hd a b H)) IO L
end Go.Proofs.YtmnbcnhpklejcaaDoor
namespace U
open Go Go.Ev
abbrev Cl := ByteArray × Int × (Int × Int × Int × Unit) × Unit
def dC : Cl := (ByteArray.empty, 0, (0, 0, 0, ()), ())
def cw (l : List Cl) (i : Nat) : Int := (l.getD i dC).2.1
def whole (l : List Cl) (i : Nat) : Bool :=
  if cw l i = 2 then decide (i + 1 < l.length) && decide (cw l (i + 1) = 0) else
  if cw l i = 0 then decide (0 < i) && decide (cw l (i - 1) = 2) else true
end U
namespace Go.Proofs.YtmnbcnhpklejcaaDoor
open Go Go.Ev Go.RowKit
theorem cw_eq (l : List Cell) (i : Nat) : (rget celk l (i : Int)).2.1 = U.cw l i := by rw [rget_nat]; rfl
theorem wk87 : SpecOK Tryd.prog E0 87 (s87 (fun x => decide (0 ≤ (x.2.1 : Int) ∧ (x.2.1 : Int) < (List.length (α := Cell) x.1 : Int) ∧ List.length (α := Cell) x.1 ≤ 1048576)) fun x => U.whole x.1 x.2.1.toNat) := by
  refine k87 fun l i H => ?_
  obtain ⟨h0, h1, h2⟩ := of_decide_eq_true H
  dsimp only at h0 h1 h2
  obtain ⟨n, rfl⟩ := Int.eq_ofNat_of_zero_le h0
  show _ = some (U.whole l n)
  have hn : n < l.length := Int.ofNat_lt.1 h1
  have w1 : IntKind.i64.wrap ((n : Int) + 1) = ((n + 1 : Nat) : Int) := wrap64_nat (by omega)
  unfold U.whole d87
  simp only [Tr.val, inB_nat hn, cond_true, w1, cw_eq]
  by_cases a : U.cw l n = 2
  · by_cases b : n + 1 < l.length
    · have i1 : inB ((n : Int) + 1) l.length = true := by simpa using inB_nat b
      have i2 := cw_eq l (n + 1)
      rw [Int.natCast_add] at i2
      simp [a, b, i1, show ((n : Int) + 1 < (l.length : Int)) by omega]
    · simp [a, b, show ¬ ((n : Int) + 1 < (l.length : Int)) by omega]
  · by_cases b : U.cw l n = 0
    · by_cases c : 0 < n
      · have w2 : IntKind.i64.wrap ((n : Int) - 1) = ((n - 1 : Nat) : Int) := by
          rw [wrap64_id (by omega) (by omega)]
          omega
        simp [a, b, c, w2, inB_nat (show n - 1 < l.length by omega), cw_eq]
      · have : n = 0 := by omega
        subst this
        simp [a, b]
    · simp [a, b]
end Go.Proofs.YtmnbcnhpklejcaaDoor
namespace Go.Proofs.YtmnbcnhpklejcaaDoor
open Go Go.Ev Go.RowKit
abbrev w89 : FSpec := s89 (fun x => decide (ByteArray.size x.1.1 ≤ 1048576)) fun x => U.cellR x.1
abbrev w87 : FSpec := s87 (fun x => decide (0 ≤ (x.2.1 : Int) ∧ (x.2.1 : Int) < (List.length (α := Cell) x.1 : Int) ∧ List.length (α := Cell) x.1 ≤ 1048576)) fun x => U.whole x.1 x.2.1.toNat
abbrev G2 : List (Nat × FSpec) := [(89, w89), (87, w87)]
theorem AG2 : AllFn Tryd.prog E0 G2 := .cons wk89 (.cons wk87 .nil)
def live31 (key : Nat) : Lv :=
  bif Nat.beq key 2 then { ls := [1, 2, 8, 9, 10] } else bif Nat.beq key 1002 then { ls := [1, 2, 4] } else
  { ls := [] }
abbrev M31 (ls : Nat → VS → Option (Tr (Ex × VS))) : Env := (E0.withFns G2).loops live31 ls
@[reducible] def p31_0 : LP := { n := 31, sl := [.d (.int .i64), .c (Leaf.ptr ( 0) ( 0)), .d (celk.sl), .d (.int .i64), .d (.int .i64)], bl := [(0, .box [.d (celk.sl), .d (Kd.bool)])] }
def B31_0 (x0 : Int) (x2 : List Cell) (x3 : Int) (x4 : Int) (h0_0 : List Cell) (h0_1 : Bool) : Tr (p31_0.T ⊕ (Int × List Cell × Bool ⊕ Int × List Cell × Bool)) :=
  let v1 : Int := (↑h0_0.length : Int)
  Tr.ite (decide (x4 < x3))
    (Tr.ite (inB x4 x2.length)
      (Tr.ite (decide (ByteArray.size (rget celk x2 x4).fst ≤ (1048576 : Nat)))
        (Tr.ite (!U.cellR (rget celk x2 x4)) (Tr.ret (Sum.inr (Sum.inl (x0, h0_0, h0_1))))
          (Tr.ite (decide ((0 : Int) ≤ x4 ∧ x4 < v1 ∧ h0_0.length ≤ (1048576 : Nat)))
            (Tr.ite (!U.whole h0_0 x4.toNat) (Tr.ret (Sum.inr (Sum.inl (x0, h0_0, h0_1)))) (Tr.ret (Sum.inl ((x0, x2, x3, IntKind.i64.wrap (x4 + (1 : Int)), ()), (h0_0, h0_1, ()), ())))) Tr.fail))
        Tr.fail)
      Tr.fail)
    (Tr.ret (Sum.inr (Sum.inr (x0, h0_0, h0_1))))
def X31_0 : (Int × List Cell × Bool ⊕ Int × List Cell × Bool) → Ex × VS
  | (.inl r) => Prod.mk Ex.ret { n := 31, v := [Slot.av (AV.one (Leaf.dat (.int .i64) r.fst)), Slot.av (AV.one (Leaf.ptr ( 0) ( 0))), Slot.av (AV.one (Leaf.kb false))], h := [( 0, Blk.box [Leaf.dat celk.sl r.snd.fst, Leaf.dat Kd.bool r.snd.snd])] }
  | (.inr r) => Prod.mk (Ex.exit ( 0)) { n := 31, v := [Slot.av (AV.one (Leaf.dat (.int .i64) r.fst)), Slot.av (AV.one (Leaf.ptr ( 0) ( 0))), Slot.av (AV.one Leaf.undef)], h := [( 0, Blk.box [Leaf.dat celk.sl r.snd.fst, Leaf.dat Kd.bool r.snd.snd])] }
def b31_0 : p31_0.T → Tr (p31_0.T ⊕ (Int × List Cell × Bool ⊕ Int × List Cell × Bool)) := fun ⟨⟨x0, ⟨x2, ⟨x3, ⟨x4, _⟩⟩⟩⟩, ⟨⟨h0_0, ⟨h0_1, _⟩⟩, _⟩⟩ => B31_0 x0 x2 x3 x4 h0_0 h0_1
theorem h31_0 (ls : Nat → VS → Option (Tr (Ex × VS))) (x : p31_0.T) : (evC (evI 2) (lc Tryd.f31 0) (Env.lend (M31 ls) 0) (unV (live31 2) (p31_0.V x))).map (decL 0 (live31 2) (live31 1002)) = (b31_0 x).map (encR p31_0.V X31_0) := by
  obtain ⟨⟨x0, ⟨x2, ⟨x3, ⟨x4, _⟩⟩⟩⟩, ⟨⟨h0_0, ⟨h0_1, _⟩⟩, _⟩⟩ := x; kernel_rfl
theorem c31_0 (x : p31_0.T) : canV 0 (live31 2) (unV (live31 2) (p31_0.V x)) = p31_0.V x := by
  obtain ⟨⟨x0, ⟨x2, ⟨x3, ⟨x4, _⟩⟩⟩⟩, ⟨⟨h0_0, ⟨h0_1, _⟩⟩, _⟩⟩ := x; kernel_rfl
theorem l31_0 {T : p31_0.T → Tr (Int × List Cell × Bool ⊕ Int × List Cell × Bool)} {ls : Nat → VS → Option (Tr (Ex × VS))} (hls : ∀ x, (Env.lend (M31 ls) 0).ls 2 x = p31_0.ls (fun a => (T a).map X31_0) x) (hS : ∀ x r, (T x).val = some r → Rounds b31_0 x r) : LoopOK (evI 2) (Env.lend (M31 ls) 0) (lc Tryd.f31 0) :=
  loopA 2 (live31 2) (live31 1002) p31_0 b31_0 X31_0 T (by kernel_rfl) rfl rfl hls (h31_0 ls) c31_0 hS
def live25 (key : Nat) : Lv :=
  bif Nat.beq key 4 then { ls := [2, 3, 22, 23] } else bif Nat.beq key 1004 then { ls := [4] } else
  { ls := [] }
abbrev M25 (ls : Nat → VS → Option (Tr (Ex × VS))) : Env := (E0.withFns []).loops live25 ls
@[reducible] def p25_0 : LP := { n := 38, sl := [.c (Leaf.ptr ( 0) ( 0)), .c (Leaf.ptr ( 1) ( 0)), .d (.int .i64), .d (.int .i64)], bl := [(0, .box [.d (celk.sl), .d (Kd.bool)]), (1, .box [.d (celk.sl), .d (Kd.bool)])] }
def B25_0 (x2 : Int) (x3 : Int) (h0_0 : List Cell) (h0_1 : Bool) (h1_0 : List Cell) (h1_1 : Bool) : Tr (p25_0.T ⊕ (Unit ⊕ Unit)) :=
  Tr.ite (decide (x3 < x2))
    (Tr.ite (inB x3 h0_0.length)
      (Tr.ite (inB x3 h1_0.length)
        (Tr.ite
          (!(decide ((rget celk h0_0 x3).fst = (rget celk h1_0 x3).fst) &&
              (decide ((rget celk h0_0 x3).snd.fst = (rget celk h1_0 x3).snd.fst) &&
                (decide ((rget celk h0_0 x3).snd.snd.fst.fst = (rget celk h1_0 x3).snd.snd.fst.fst) &&
                  (decide ((rget celk h0_0 x3).snd.snd.fst.snd.fst = (rget celk h1_0 x3).snd.snd.fst.snd.fst) &&
                    decide ((rget celk h0_0 x3).snd.snd.fst.snd.snd.fst = (rget celk h1_0 x3).snd.snd.fst.snd.snd.fst))))))
          (Tr.ret (Sum.inr (Sum.inl ()))) (Tr.ret (Sum.inl ((x2, IntKind.i64.wrap (x3 + (1 : Int)), ()), (h0_0, h0_1, ()), (h1_0, h1_1, ()), ()))))
        Tr.fail)
      Tr.fail)
    (Tr.ret (Sum.inr (Sum.inr ())))
def X25_0 : (Unit ⊕ Unit) → Ex × VS
  | (.inl r) => Prod.mk Ex.ret { n := 38, v := [Slot.av (AV.one (Leaf.kb false))], h := [] }
  | (.inr r) => Prod.mk (Ex.exit ( 0)) { n := 38, v := [Slot.av (AV.one Leaf.undef)], h := [] }
def b25_0 : p25_0.T → Tr (p25_0.T ⊕ (Unit ⊕ Unit)) := fun ⟨⟨x2, ⟨x3, _⟩⟩, ⟨⟨h0_0, ⟨h0_1, _⟩⟩, ⟨⟨h1_0, ⟨h1_1, _⟩⟩, _⟩⟩⟩ => B25_0 x2 x3 h0_0 h0_1 h1_0 h1_1
theorem h25_0 (ls : Nat → VS → Option (Tr (Ex × VS))) (x : p25_0.T) : (evC (evI 2) (lc Tryd.f25 0) (Env.lend (M25 ls) 0) (unV (live25 4) (p25_0.V x))).map (decL 0 (live25 4) (live25 1004)) = (b25_0 x).map (encR p25_0.V X25_0) := by
  obtain ⟨⟨x2, ⟨x3, _⟩⟩, ⟨⟨h0_0, ⟨h0_1, _⟩⟩, ⟨⟨h1_0, ⟨h1_1, _⟩⟩, _⟩⟩⟩ := x; kernel_rfl
theorem c25_0 (x : p25_0.T) : canV 0 (live25 4) (unV (live25 4) (p25_0.V x)) = p25_0.V x := by
  obtain ⟨⟨x2, ⟨x3, _⟩⟩, ⟨⟨h0_0, ⟨h0_1, _⟩⟩, ⟨⟨h1_0, ⟨h1_1, _⟩⟩, _⟩⟩⟩ := x; kernel_rfl
theorem l25_0 {T : p25_0.T → Tr (Unit ⊕ Unit)} {ls : Nat → VS → Option (Tr (Ex × VS))} (hls : ∀ x, (Env.lend (M25 ls) 0).ls 4 x = p25_0.ls (fun a => (T a).map X25_0) x) (hS : ∀ x r, (T x).val = some r → Rounds b25_0 x r) : LoopOK (evI 2) (Env.lend (M25 ls) 0) (lc Tryd.f25 0) :=
  loopA 4 (live25 4) (live25 1004) p25_0 b25_0 X25_0 T (by kernel_rfl) rfl rfl hls (h25_0 ls) c25_0 hS
end Go.Proofs.YtmnbcnhpklejcaaDoor
namespace U
open Go Go.Ev
def okc (l : List Cl) : Bool := decide (l.length ≤ 1048576) && l.all fun c => decide (c.1.size ≤ 1048576)
def fitC (l : List Cl) : Bool := allN (fun i => cellR (l.getD i dC) && whole l i) l.length 0
theorem okc_len {l : List Cl} (h : okc l = true) : l.length ≤ 1048576 := by
  simp only [okc, Bool.and_eq_true, decide_eq_true_eq] at h; exact h.1
theorem okc_at {l : List Cl} (h : okc l = true) {i : Nat} (hi : i < l.length) : (l.getD i dC).1.size ≤ 1048576 := by
  simp only [okc, Bool.and_eq_true, decide_eq_true_eq, List.all_eq_true] at h
  rw [getD_el hi]
  exact h.2 _ (List.getElem_mem hi)
end U
namespace Go.Proofs.YtmnbcnhpklejcaaDoor
open Go Go.Ev Go.RowKit
def T31 (x : p31_0.T) : Tr (Int × List Cell × Bool ⊕ Int × List Cell × Bool) :=
  .ite (decide ((x.1.2.2.1 : Int) = (List.length (α := Cell) x.1.2.1 : Int) ∧ (x.1.2.2.2.1 : Int) = 0 ∧ List.length (α := Cell) x.1.2.1 ≤ List.length (α := Cell) x.2.1.1 ∧ List.length (α := Cell) x.2.1.1 ≤ 1048576) && U.okc x.1.2.1)
    (.ite (allN (fun i => U.cellR (List.getD (α := Cell) x.1.2.1 i U.dC) && U.whole x.2.1.1 i) (List.length (α := Cell) x.1.2.1) 0) (.ret (.inr (x.1.1, x.2.1.1, x.2.1.2.1))) (.ret (.inl (x.1.1, x.2.1.1, x.2.1.2.1)))) .fail
abbrev E31 : Env := M31 fun key x => bif Nat.beq key 2 then p31_0.ls (fun a => (T31 a).map X31_0) x else none
theorem rgetC (l : List Cell) (i : Nat) : rget celk l (i : Int) = l.getD i U.dC := by rw [rget_nat]; rfl
theorem L31 : LoopOK (evI 2) (E31.lend 0) (lc Tryd.f31 0) := by
  refine l31_0 (T := T31) (fun x => rfl) ?_
  rintro ⟨⟨c, l, n, i, z⟩, ⟨m, s, z1⟩, z2⟩ r h
  obtain ⟨h1, h2⟩ := pre_val h
  rw [Bool.and_eq_true] at h1
  obtain ⟨h1, hok⟩ := h1
  obtain ⟨e1, e2, e3, e4⟩ := of_decide_eq_true h1
  dsimp only at e1 e2 e3 e4 hok h2
  subst e1
  subst e2
  have := Rounds.all (B := b31_0) (N := l.length) (fun i => ((c, l, (l.length : Int), (i : Int), ()), (m, s, ()), ())) (fun i => U.cellR (l.getD i U.dC) && U.whole m i) (.inl (c, m, s)) (.inr (c, m, s)) (fun i hi => ?_) ?_
  · cases ha : allN (fun i => U.cellR (l.getD i U.dC) && U.whole m i) l.length 0 <;> simp only [ha, Tr.val, cond_true, cond_false] at h2 this <;> cases h2 <;> exact this
  · have h3 := U.okc_at hok hi
    simp only [b31_0, B31_0, Tr.val, inB_nat hi, rgetC, h3, Int.toNat_natCast, show ((i : Int) < (l.length : Int)) by omega, show ((0 : Int) ≤ (i : Int) ∧ (i : Int) < (m.length : Int) ∧ m.length ≤ 1048576) by omega, decide_true, cond_true, wrap64_nat (show i ≤ 1048576 by omega)]
    cases U.cellR (l.getD i U.dC) <;> cases U.whole m i <;> rfl
  · simp only [b31_0, B31_0, Tr.val, show ¬ ((l.length : Int) < (l.length : Int)) by omega, decide_false, cond_false]
def d31 (a1 : List Cell) (a2 : Bool) (b : Int) : Tr (Bool) :=
  let v1 : Int := (↑a1.length : Int)
  let v2 : Int := (↑a1.length : Int)
  Tr.ite (decide (v2 = v1 ∧ (0 : Int) = (0 : Int) ∧ a1.length ≤ a1.length ∧ a1.length ≤ (1048576 : Nat)) && U.okc a1)
    (Tr.ite (allN (fun (i : Nat) => U.cellR (a1.getD i U.dC) && U.whole a1 i) a1.length (0 : Nat)) (Tr.ret (decide (v2 = b))) (Tr.ret false)) Tr.fail
def e31 (r : Bool) : FRes := { rs := Slot.av (AV.one (Leaf.dat Kd.bool r)), upd := [], new := [] }
@[reducible] def a31 : List AK := [AK.d link, AK.d (.int .i64)]
@[reducible] def b31 : List BK := []
theorem t31 (a1 : List Cell) (a2 : Bool) (b : Int) : evFn (E31) Tryd.f31 [PM.data Kd.bool] (akAV a31 ((a1, a2, ()), b, ())) (bkBs b31 ()) = (d31 a1 a2 b).map e31 := by kernel_rfl
def s31 (C : akT a31 → Bool) (G : akT a31 → Bool) : FSpec := aspec a31 b31 e31 (fun x _ => C x) (fun x _ => G x)
theorem k31 {C : akT a31 → Bool} {G : akT a31 → Bool} (hd : ∀ (a1 : List Cell) (a2 : Bool) (b : Int), C ((a1, a2, ()), b, ()) = true → (d31 a1 a2 b).val = some (G ((a1, a2, ()), b, ()))) (IO : ItOK Tryd.prog (E31) := by exact itOK_none rfl) (L : ∀ c, Tryd.f31.body = some c → LsOK (evI 2) ((E31).lend 0) c := by exact fun c _ => LsOK_none rfl c) : SpecOK Tryd.prog E0 31 (s31 C G) :=
  aspec_ok (E := E31) tab AG2 rfl rfl hm Tryd.func31 (by kernel_rfl) [PM.data Kd.bool] (fun X Y H => by obtain ⟨⟨a1, ⟨a2, _⟩⟩, ⟨b, _⟩⟩ := X; exact val_of (t31 a1 a2 b) (hd a1 a2 b H)) IO L
abbrev w31 : FSpec := s31 (fun x => U.okc x.1.1) fun x => U.fitC x.1.1 && decide ((List.length (α := Cell) x.1.1 : Int) = (x.2.1 : Int))
theorem wk31 : SpecOK Tryd.prog E0 31 w31 := by
  refine k31 (fun l s n H => ?_) (L := ls_ok (lcs := [lc Tryd.f31 0]) (rgs := []) (by kernel_rfl) (by kernel_rfl) L31 trivial)
  have H : U.okc l = true := H
  have hl := U.okc_len H
  show _ = some (U.fitC l && decide ((l.length : Int) = n))
  unfold U.fitC
  simp only [d31, Tr.val, H, hl, Nat.le_refl, and_self, decide_true, Bool.and_self, cond_true]
  cases allN (fun i => U.cellR (l.getD i U.dC) && U.whole l i) l.length 0 <;> simp
def d80 (a1 : List Cell) (a2 : Bool) : Tr (Bool) :=
  let v1 : Int := (↑a1.length : Int)
  let v2 : Int := (↑a1.length : Int)
  Tr.ite (decide (v2 < (1 : Int))) (Tr.ret true) (Tr.ite (decide ((80 : Int) < v2)) (Tr.ret true) (Tr.ite (U.okc a1) (Tr.ret !(U.fitC a1 && decide (v1 = v2))) Tr.fail))
def e80 (r : Bool) : FRes := { rs := Slot.av (AV.one (Leaf.dat Kd.bool r)), upd := [], new := [] }
@[reducible] def a80 : List AK := [AK.d link]
@[reducible] def b80 : List BK := []
theorem t80 (a1 : List Cell) (a2 : Bool) : evFn (E0.withFns [((31 : Nat), w31)]) Tryd.f80 [PM.data Kd.bool] (akAV a80 ((a1, a2, ()), ())) (bkBs b80 ()) = (d80 a1 a2).map e80 := by kernel_rfl
def s80 (C : akT a80 → Bool) (G : akT a80 → Bool) : FSpec := aspec a80 b80 e80 (fun x _ => C x) (fun x _ => G x)
theorem k80 {C : akT a80 → Bool} {G : akT a80 → Bool} (hd : ∀ (a1 : List Cell) (a2 : Bool), C ((a1, a2, ()), ()) = true → (d80 a1 a2).val = some (G ((a1, a2, ()), ()))) (IO : ItOK Tryd.prog (E0.withFns [((31 : Nat), w31)]) := by exact itOK_none rfl) (L : ∀ c, Tryd.f80.body = some c → LsOK (evI 2) ((E0.withFns [((31 : Nat), w31)]).lend 0) c := by exact fun c _ => LsOK_none rfl c) : SpecOK Tryd.prog E0 80 (s80 C G) :=
  aspec_ok (E := E0.withFns [((31 : Nat), w31)]) tab (.cons wk31 .nil) rfl rfl hm Tryd.func80 (by kernel_rfl) [PM.data Kd.bool] (fun X Y H => by obtain ⟨⟨a1, ⟨a2, _⟩⟩, _⟩ := X; exact val_of (t80 a1 a2) (hd a1 a2 H)) IO L
end Go.Proofs.YtmnbcnhpklejcaaDoor

end
section
set_option linter.unusedVariables false
set_option linter.unusedSimpArgs false
set_option maxRecDepth 20000
open Go Go.Ev
namespace U
abbrev Ln := List Cl × Bool × Unit
def dL : Ln := ([], false, ())
def odd (l : List Cl) : Bool := !(decide (1 ≤ l.length) && decide (l.length ≤ 80) && fitC l)
def okl (l : List Ln) : Bool := decide (l.length ≤ 1048576) && l.all fun x => okc x.1
theorem okl_len {l : List Ln} (h : okl l = true) : l.length ≤ 1048576 := by
  simp only [okl, Bool.and_eq_true, decide_eq_true_eq] at h; exact h.1
theorem okl_at {l : List Ln} (h : okl l = true) {i : Nat} (hi : i < l.length) : okc (l.getD i dL).1 = true := by
  simp only [okl, Bool.and_eq_true, decide_eq_true_eq, List.all_eq_true] at h
  rw [getD_el hi]
  exact h.2 _ (List.getElem_mem hi)
end U
namespace Go.Proofs.YtmnbcnhpklejcaaDoor
open Go.RowKit
@[reducible] def bakk : Kd := .pr (.int .i64) (.pr (.sl link) .un)
theorem rgetL (l : List Line) (i : Nat) : rget link l (i : Int) = l.getD i U.dL := by rw [rget_nat]; rfl
abbrev w80 : FSpec := s80 (fun x => U.okc x.1.1) fun x => U.odd x.1.1
theorem wk80 : SpecOK Tryd.prog E0 80 w80 := by
  refine k80 fun l s H => ?_
  have H : U.okc l = true := H
  show _ = some (U.odd l)
  unfold U.odd
  by_cases h1 : (l.length : Int) < 1
  · simp only [d80, Tr.val, h1, H, decide_true, decide_false, cond_true, cond_false, show ¬ 1 ≤ l.length by omega, Bool.false_and, Bool.not_false]
  · by_cases h2 : (80 : Int) < (l.length : Int)
    · simp only [d80, Tr.val, h1, h2, H, decide_true, decide_false, cond_true, cond_false, show ¬ l.length ≤ 80 by omega, Bool.false_and, Bool.and_false, Bool.not_false]
    · simp only [d80, Tr.val, h1, h2, H, decide_true, decide_false, cond_true, cond_false, show l.length ≤ 80 by omega, show 1 ≤ l.length by omega, Bool.true_and, Bool.and_true]
def optI' : Option Nat → Int
  | some j => (j : Int)
  | none => -1
def live131 (key : Nat) : Lv :=
  bif Nat.beq key 2 then { ls := [0, 1, 7, 8] } else bif Nat.beq key 1002 then { ls := [4] } else
  { ls := [] }
abbrev M131 (ls : Nat → VS → Option (Tr (Ex × VS))) : Env := (E0.withFns [(80, w80)]).loops live131 ls
@[reducible] def p131_0 : LP := { n := 19, sl := [.d (link.sl), .c (Leaf.fn ( 80) []), .d (.int .i64), .d (.int .i64)], bl := [] }
def B131_0 (x0 : List Line) (x2 : Int) (x3 : Int) : Tr (p131_0.T ⊕ (Int ⊕ Unit)) :=
  Tr.ite (decide (x3 < x2))
    (Tr.ite (inB x3 x0.length)
      (Tr.ite (U.okc (rget link x0 x3).fst) (Tr.ite (U.odd (rget link x0 x3).fst) (Tr.ret (Sum.inr (Sum.inl x3))) (Tr.ret (Sum.inl ((x0, x2, IntKind.i64.wrap (x3 + (1 : Int)), ()), ())))) Tr.fail)
      Tr.fail)
    (Tr.ret (Sum.inr (Sum.inr ())))
def X131_0 : (Int ⊕ Unit) → Ex × VS
  | (.inl r) => Prod.mk Ex.ret { n := 19, v := [Slot.av (AV.one (Leaf.dat (.int .i64) r))], h := [] }
  | (.inr r) => Prod.mk (Ex.exit ( 0)) { n := 19, v := [Slot.av (AV.one Leaf.undef)], h := [] }
def b131_0 : p131_0.T → Tr (p131_0.T ⊕ (Int ⊕ Unit)) := fun ⟨⟨x0, ⟨x2, ⟨x3, _⟩⟩⟩, _⟩ => B131_0 x0 x2 x3
theorem h131_0 (ls : Nat → VS → Option (Tr (Ex × VS))) (x : p131_0.T) : (evC (evI 2) (lc Tryd.f131 0) (Env.lend (M131 ls) 0) (unV (live131 2) (p131_0.V x))).map (decL 0 (live131 2) (live131 1002)) = (b131_0 x).map (encR p131_0.V X131_0) := by
  obtain ⟨⟨x0, ⟨x2, ⟨x3, _⟩⟩⟩, _⟩ := x; kernel_rfl
theorem c131_0 (x : p131_0.T) : canV 0 (live131 2) (unV (live131 2) (p131_0.V x)) = p131_0.V x := by
  obtain ⟨⟨x0, ⟨x2, ⟨x3, _⟩⟩⟩, _⟩ := x; kernel_rfl
theorem l131_0 {T : p131_0.T → Tr (Int ⊕ Unit)} {ls : Nat → VS → Option (Tr (Ex × VS))} (hls : ∀ x, (Env.lend (M131 ls) 0).ls 2 x = p131_0.ls (fun a => (T a).map X131_0) x) (hS : ∀ x r, (T x).val = some r → Rounds b131_0 x r) : LoopOK (evI 2) (Env.lend (M131 ls) 0) (lc Tryd.f131 0) :=
  loopA 2 (live131 2) (live131 1002) p131_0 b131_0 X131_0 T (by kernel_rfl) rfl rfl hls (h131_0 ls) c131_0 hS
def T131 (x : p131_0.T) : Tr (Int ⊕ Unit) :=
  .ite (decide ((x.1.2.1 : Int) = (List.length (α := Line) x.1.1 : Int) ∧ (x.1.2.2.1 : Int) = 0) && U.okl x.1.1)
    (.ite (findN (fun i => U.odd (List.getD (α := Line) x.1.1 i U.dL).1) (List.length (α := Line) x.1.1) 0).isSome (.ret (.inl (((findN (fun i => U.odd (List.getD (α := Line) x.1.1 i U.dL).1) (List.length (α := Line) x.1.1) 0).getD 0 : Nat) : Int))) (.ret (.inr ()))) .fail
abbrev E131 : Env := M131 fun key x => bif Nat.beq key 2 then p131_0.ls (fun a => (T131 a).map X131_0) x else none
theorem L131 : LoopOK (evI 2) (E131.lend 0) (lc Tryd.f131 0) := by
  refine l131_0 (T := T131) (fun x => rfl) ?_
  rintro ⟨⟨l, n, i, z⟩, z2⟩ r h
  obtain ⟨h1, h2⟩ := pre_val h
  rw [Bool.and_eq_true] at h1
  obtain ⟨h1, hok⟩ := h1
  obtain ⟨e1, e2⟩ := of_decide_eq_true h1
  dsimp only at e1 e2 hok h2
  subst e1
  subst e2
  have hl := U.okl_len hok
  have := Rounds.find (B := b131_0) (N := l.length) (fun i => ((l, (l.length : Int), (i : Int), ()), ())) (fun i => U.odd (l.getD i U.dL).1) (fun i => .inl (i : Int)) (.inr ()) (fun i hi => ?_) ?_
  · cases hf : findN (fun i => U.odd (l.getD i U.dL).1) l.length 0 <;> simp only [hf, Tr.val, Option.isSome_none, Option.isSome_some, Option.getD_some, cond_true, cond_false, outN] at h2 this <;> cases h2 <;> exact this
  · have h3 := U.okl_at hok hi
    simp only [b131_0, B131_0, Tr.val, inB_nat hi, rgetL, h3, show ((i : Int) < (l.length : Int)) by omega, decide_true, cond_true, wrap64_nat (show i ≤ 1048576 by omega)]
    cases U.odd (l.getD i U.dL).1 <;> rfl
  · simp only [b131_0, B131_0, Tr.val, show ¬ ((l.length : Int) < (l.length : Int)) by omega, decide_false, cond_false]
def d131 (a : List Line) : Tr (Int) :=
  let v1 : Int := ((↑a.length : Int))
  let v2 : Int := ((↑a.length : Int))
  Tr.ite (decide (v2 = v1 ∧ (0 : Int) = (0 : Int)) && U.okl a)
    (Tr.ite (findN (fun (i : Nat) => U.odd (a.getD i U.dL).fst) a.length (0 : Nat)).isSome (Tr.ret (↑((findN (fun (i : Nat) => U.odd (a.getD i U.dL).fst) a.length (0 : Nat)).getD (0 : Nat)) : Int))
      (Tr.ret (-1 : Int)))
    Tr.fail
def e131 (r : Int) : FRes := { rs := Slot.av (AV.one (Leaf.dat (.int .i64) r)), upd := [], new := [] }
@[reducible] def a131 : List AK := [AK.d link.sl, AK.c (Leaf.fn (80 : FuncId) [])]
@[reducible] def b131 : List BK := []
theorem t131 (a : List Line) : evFn (E131) Tryd.f131 [PM.data (.int .i64)] (akAV a131 (a, ())) (bkBs b131 ()) = (d131 a).map e131 := by kernel_rfl
def s131 (C : akT a131 → Bool) (G : akT a131 → Int) : FSpec := aspec a131 b131 e131 (fun x _ => C x) (fun x _ => G x)
theorem k131 {C : akT a131 → Bool} {G : akT a131 → Int} (hd : ∀ (a : List Line), C (a, ()) = true → (d131 a).val = some (G (a, ()))) (IO : ItOK Tryd.prog (E131) := by exact itOK_none rfl) (L : ∀ c, Tryd.f131.body = some c → LsOK (evI 2) ((E131).lend 0) c := by exact fun c _ => LsOK_none rfl c) : SpecOK Tryd.prog E0 131 (s131 C G) :=
  aspec_ok (ak := a131) (bl := b131) (e := e131) (c := fun x _ => C x) (g := fun x _ => G x) (E0 := E0) (E := E131) tab (.cons wk80 .nil) rfl rfl hm Tryd.func131 (by kernel_rfl) [PM.data (.int .i64)] (fun X Y H => by obtain ⟨a, _⟩ := X; exact val_of (t131 a) (hd a H)) IO L
abbrev w131 : FSpec := s131 (fun x => U.okl x.1) fun x => optI' (findN (fun i => U.odd (List.getD (α := Line) x.1 i U.dL).1) (List.length (α := Line) x.1) 0)
theorem wk131 : SpecOK Tryd.prog E0 131 w131 := by
  refine k131 (fun l H => ?_) (L := ls_ok (lcs := [lc Tryd.f131 0]) (rgs := []) (by kernel_rfl) (by kernel_rfl) L131 trivial)
  have H : U.okl l = true := H
  simp only [d131, Tr.val, H, and_self, decide_true, Bool.and_self, cond_true]
  cases findN (fun i => U.odd (l.getD i U.dL).1) l.length 0 <;> rfl
def d79 (a : List Line) : Tr (Bool) :=
  let v1 : Int := (optI' (findN (fun (i : Nat) => U.odd (a.getD i U.dL).fst) a.length (0 : Nat)))
  Tr.ite (U.okl a) (Tr.ret (decide ((0 : Int) ≤ v1))) Tr.fail
def e79 (r : Bool) : FRes := { rs := Slot.av (AV.one (Leaf.dat Kd.bool r)), upd := [], new := [] }
@[reducible] def a79 : List AK := [AK.d link.sl, AK.c (Leaf.fn (80 : FuncId) [])]
@[reducible] def b79 : List BK := []
theorem t79 (a : List Line) : evFn (E0.withFns [((131 : Nat), w131)]) Tryd.f79 [PM.data Kd.bool] (akAV a79 (a, ())) (bkBs b79 ()) = (d79 a).map e79 := by kernel_rfl
def s79 (C : akT a79 → Bool) (G : akT a79 → Bool) : FSpec := aspec a79 b79 e79 (fun x _ => C x) (fun x _ => G x)
theorem k79 {C : akT a79 → Bool} {G : akT a79 → Bool} (hd : ∀ (a : List Line), C (a, ()) = true → (d79 a).val = some (G (a, ()))) (IO : ItOK Tryd.prog (E0.withFns [((131 : Nat), w131)]) := by exact itOK_none rfl) (L : ∀ c, Tryd.f79.body = some c → LsOK (evI 2) ((E0.withFns [((131 : Nat), w131)]).lend 0) c := by exact fun c _ => LsOK_none rfl c) : SpecOK Tryd.prog E0 79 (s79 C G) :=
  aspec_ok (ak := a79) (bl := b79) (e := e79) (c := fun x _ => C x) (g := fun x _ => G x) (E0 := E0) (E := E0.withFns [((131 : Nat), w131)]) tab (.cons wk131 .nil) rfl rfl hm Tryd.func79 (by kernel_rfl) [PM.data Kd.bool] (fun X Y H => by obtain ⟨a, _⟩ := X; exact val_of (t79 a) (hd a H)) IO L
abbrev w79 : FSpec := s79 (fun x => U.okl x.1) fun x => List.any (α := Line) x.1 fun y => U.odd y.1
theorem wk79 : SpecOK Tryd.prog E0 79 w79 := by
  refine k79 fun l H => ?_
  have H : U.okl l = true := H
  show _ = some (l.any fun y => U.odd y.1)
  rw [← find_any (fun y => U.odd y.1) U.dL l]
  simp only [d79, Tr.val, H, cond_true]
  cases findN (fun i => U.odd (l.getD i U.dL).1) l.length 0 <;> simp [optI']
def keepB (b : Int × List Line × Unit) : Bool := decide (0 ≤ b.1) && (decide (b.1 ≤ 40) && (decide ((b.2.1.length : Int) ≤ b.1) && !(b.2.1.any fun y => U.odd y.1)))
def live132 (key : Nat) : Lv :=
  bif Nat.beq key 7777 then { ls := [], wd := [⟨4, none, .row 34 link⟩] } else
  { ls := [] }
def d132 (b : Int) : Tr (List Line) :=
  let v1 : Int := (b - (0 : Int))
  let v2 : List Line := (List.replicate (IntKind.i64.wrap v1).toNat ([], false, ()))
  let v3 : Int := ((↑v2.length : Int))
  Tr.ite (decide (b < (0 : Int))) Tr.fail
    (Tr.ite (decide ((0 : Int) < IntKind.i64.wrap v1))
      (Tr.ite true
        (Tr.ite (decide ((0 : Int) ≤ IntKind.i64.wrap v1 ∧ (IntKind.i64.wrap v1).toNat * (32 : Nat) ≤ (140737488355328 : Nat)))
          (Tr.ite (decide ((0 : Int) ≤ (0 : Int) ∧ (0 : Int) ≤ v3)) (Tr.ret (List.take (0 : Nat) v2)) Tr.fail) Tr.fail)
        Tr.fail)
      (Tr.ret []))
def e132 (r : List Line) : FRes := { rs := Slot.av (AV.one (Leaf.row ( 0))), upd := [], new := [Blk.row ( 34) link r] }
@[reducible] def a132 : List AK := [AK.c Leaf.nils, AK.d (.int .i64)]
@[reducible] def b132 : List BK := []
theorem t132 (b : Int) : evFn ((E0.withFns []).loops live132 fun (x : Nat) (x_1 : VS) => none) Tryd.f132 [PM.raw] (akAV a132 (b, ())) (bkBs b132 ()) = (d132 b).map e132 := by kernel_rfl
def s132 (C : akT a132 → Bool) (G : akT a132 → List Line) : FSpec := aspec a132 b132 e132 (fun x _ => C x) (fun x _ => G x)
theorem k132 {C : akT a132 → Bool} {G : akT a132 → List Line} (hd : ∀ (b : Int), C (b, ()) = true → (d132 b).val = some (G (b, ()))) (IO : ItOK Tryd.prog ((E0.withFns []).loops live132 fun (x : Nat) (x_1 : VS) => none) := by exact itOK_none rfl) (L : ∀ c, Tryd.f132.body = some c → LsOK (evI 2) (((E0.withFns []).loops live132 fun (x : Nat) (x_1 : VS) => none).lend 0) c := by exact fun c _ => LsOK_none rfl c) : SpecOK Tryd.prog E0 132 (s132 C G) :=
  aspec_ok (ak := a132) (bl := b132) (e := e132) (c := fun x _ => C x) (g := fun x _ => G x) (E0 := E0) (E := (E0.withFns []).loops live132 fun (x : Nat) (x_1 : VS) => none) tab .nil rfl rfl hm Tryd.func132 (by kernel_rfl) [PM.raw] (fun X Y H => by obtain ⟨b, _⟩ := X; exact val_of (t132 b) (hd b H)) IO L
abbrev w132 : FSpec := s132 (fun x => decide (0 ≤ (x.1 : Int) ∧ (x.1 : Int) ≤ 1048576)) fun x => []
theorem wk132 : SpecOK Tryd.prog E0 132 w132 := by
  refine k132 (fun n H => ?_) (L := ls_ok (lcs := []) (rgs := []) (by kernel_rfl) (by kernel_rfl) trivial trivial)
  have H : 0 ≤ n ∧ n ≤ 1048576 := of_decide_eq_true H
  have e : IntKind.i64.wrap n = n := w64 (by omega) (by omega)
  have h9 : (0 : Int) ≤ max n 0 := by omega
  by_cases h : 0 < n
  · simp [d132, Tr.val, H, h, h9, e, show ¬ n < 0 by omega, show n.toNat * 32 ≤ 140737488355328 by omega]
  · simp [d132, Tr.val, H, h, e, show ¬ n < 0 by omega]
def live81 (key : Nat) : Lv :=
  bif Nat.beq key 11 then { ls := [6, 25, 26, 27], wd := [⟨6, none, .row 34 link⟩] } else bif Nat.beq key 1011 then { ls := [6] } else
  bif Nat.beq key 3 then { ls := [0, 3, 9, 10, 11] } else bif Nat.beq key 1003 then { ls := [0, 3] } else
  { ls := [] }
abbrev M81 (ls : Nat → VS → Option (Tr (Ex × VS))) : Env := (E0.withFns [(132, w132)]).loops live81 ls
@[reducible] def p81_0 : LP := { n := 36, sl := [.d (link.sl.sl), .d (.int .i64), .d (link.sl.sl), .d (.int .i64), .d (.int .i64)], bl := [] }
def B81_0 (x0 : List (List Line)) (x1 : Int) (x2 : List (List Line)) (x3 : Int) (x4 : Int) : Tr (p81_0.T ⊕ (List (List Line) × Int)) :=
  let v1 : Int := ((↑(List.length (rget link.sl x2 x4)) : Int))
  let v2 : Int := (x1 + v1)
  Tr.ite (decide (x4 < x3))
    (Tr.ite (inB x4 x2.length) (Tr.ite (decide (IntKind.i64.wrap v2 < (0 : Int))) Tr.fail (Tr.ret (Sum.inl ((x0, IntKind.i64.wrap v2, x2, x3, IntKind.i64.wrap (x4 + (1 : Int)), ()), ())))) Tr.fail)
    (Tr.ret (Sum.inr (x0, x1)))
def X81_0 (r : (List (List Line) × Int)) : Ex × VS := Prod.mk (Ex.exit ( 0)) { n := 36, v := [Slot.av (AV.one (Leaf.dat link.sl.sl r.fst)), Slot.av (AV.one (Leaf.dat (.int .i64) r.snd))], h := [] }
def b81_0 : p81_0.T → Tr (p81_0.T ⊕ (List (List Line) × Int)) := fun ⟨⟨x0, ⟨x1, ⟨x2, ⟨x3, ⟨x4, _⟩⟩⟩⟩⟩, _⟩ => B81_0 x0 x1 x2 x3 x4
theorem h81_0 (ls : Nat → VS → Option (Tr (Ex × VS))) (x : p81_0.T) : (evC (evI 2) (lc Tryd.f81 0) (Env.lend (M81 ls) 0) (unV (live81 3) (p81_0.V x))).map (decL 0 (live81 3) (live81 1003)) = (b81_0 x).map (encR p81_0.V X81_0) := by
  obtain ⟨⟨x0, ⟨x1, ⟨x2, ⟨x3, ⟨x4, _⟩⟩⟩⟩⟩, _⟩ := x; kernel_rfl
theorem c81_0 (x : p81_0.T) : canV 0 (live81 3) (unV (live81 3) (p81_0.V x)) = p81_0.V x := by
  obtain ⟨⟨x0, ⟨x1, ⟨x2, ⟨x3, ⟨x4, _⟩⟩⟩⟩⟩, _⟩ := x; kernel_rfl
theorem l81_0 {T : p81_0.T → Tr (List (List Line) × Int)} {ls : Nat → VS → Option (Tr (Ex × VS))} (hls : ∀ x, (Env.lend (M81 ls) 0).ls 3 x = p81_0.ls (fun a => (T a).map X81_0) x) (hS : ∀ x r, (T x).val = some r → Rounds b81_0 x r) : LoopOK (evI 2) (Env.lend (M81 ls) 0) (lc Tryd.f81 0) :=
  loopA 3 (live81 3) (live81 1003) p81_0 b81_0 X81_0 T (by kernel_rfl) rfl rfl hls (h81_0 ls) c81_0 hS
def T81_0 (x : p81_0.T) : Tr (List (List Line) × Int) :=
  .ite (decide ((x.1.2.1 : Int) = 0 ∧ (x.1.2.2.2.1 : Int) = (List.length (α := List Line) x.1.2.2.1 : Int) ∧ (x.1.2.2.2.2.1 : Int) = 0 ∧ List.length (α := List Line) x.1.2.2.1 ≤ 1048576 ∧ (List.flatten (α := Line) x.1.2.2.1).length ≤ 1048576))
    (.ret (x.1.1, ((List.flatten (α := Line) x.1.2.2.1).length : Int))) .fail
abbrev N81 (ls : Nat → VS → Option (Tr (Ex × VS))) : Env := M81 fun key x => bif Nat.beq key 3 then p81_0.ls (fun a => (T81_0 a).map X81_0) x else ls key x
@[reducible] def p81_1 : LP := { n := 36, sl := [.c (Leaf.row ( 0)), .d (link.sl.sl), .d (.int .i64), .d (.int .i64)], bl := [(0, .row 34 (link))] }
def B81_1 (x1 : List (List Line)) (x2 : Int) (x3 : Int) (h0 : List Line) : Tr (p81_1.T ⊕ (List Line)) :=
  Tr.ite (decide (x3 < x2))
    (Tr.ite (inB x3 x1.length)
      (Tr.ite (decide ((h0.length + List.length (rget link.sl x1 x3)) * (32 : Nat) ≤ (140737488355328 : Nat)))
        (Tr.ret (Sum.inl ((x1, x2, IntKind.i64.wrap (x3 + (1 : Int)), ()), h0 ++ rget link.sl x1 x3, ()))) Tr.fail)
      Tr.fail)
    (Tr.ret (Sum.inr h0))
def X81_1 (r : (List Line)) : Ex × VS := Prod.mk (Ex.exit ( 2)) { n := 36, v := [Slot.av (AV.one (Leaf.row ( 0)))], h := [( 0, Blk.row ( 34) link r)] }
def b81_1 : p81_1.T → Tr (p81_1.T ⊕ (List Line)) := fun ⟨⟨x1, ⟨x2, ⟨x3, _⟩⟩⟩, ⟨h0, _⟩⟩ => B81_1 x1 x2 x3 h0
theorem h81_1 (ls : Nat → VS → Option (Tr (Ex × VS))) (x : p81_1.T) : (evC (evI 2) (lc Tryd.f81 1) (Env.lend (N81 ls) 0) (unV (live81 11) (p81_1.V x))).map (decL 0 (live81 11) (live81 1011)) = (b81_1 x).map (encR p81_1.V X81_1) := by
  obtain ⟨⟨x1, ⟨x2, ⟨x3, _⟩⟩⟩, ⟨h0, _⟩⟩ := x; kernel_rfl
theorem c81_1 (x : p81_1.T) : canV 0 (live81 11) (unV (live81 11) (p81_1.V x)) = p81_1.V x := by
  obtain ⟨⟨x1, ⟨x2, ⟨x3, _⟩⟩⟩, ⟨h0, _⟩⟩ := x; kernel_rfl
theorem l81_1 {T : p81_1.T → Tr (List Line)} {ls : Nat → VS → Option (Tr (Ex × VS))} (hls : ∀ x, (Env.lend (N81 ls) 0).ls 11 x = p81_1.ls (fun a => (T a).map X81_1) x) (hS : ∀ x r, (T x).val = some r → Rounds b81_1 x r) : LoopOK (evI 2) (Env.lend (N81 ls) 0) (lc Tryd.f81 1) :=
  loopA 11 (live81 11) (live81 1011) p81_1 b81_1 X81_1 T (by kernel_rfl) rfl rfl hls (h81_1 ls) c81_1 hS
theorem L81_0 {ls : Nat → VS → Option (Tr (Ex × VS))} : LoopOK (evI 2) ((N81 ls).lend 0) (lc Tryd.f81 0) := by
  refine l81_0 (T := T81_0) (fun x => rfl) ?_
  rintro ⟨⟨l0, s, l, n, i, z⟩, z2⟩ r h
  obtain ⟨h1, h2⟩ := pre_val h
  obtain ⟨e1, e2, e3, e4, e5⟩ := of_decide_eq_true h1
  dsimp only at e1 e2 e3 e4 e5 h2
  subst e1; subst e2; subst e3
  cases h2
  have := Rounds.fold0 (B := b81_0) (σ := Nat) l (fun i s => ((l0, (s : Int), l, (l.length : Int), (i : Int), ()), ())) (fun s x => s + List.length (α := Line) x) (fun s => (l0, (s : Int))) (fun i s => s + (l.drop i).flatten.length ≤ 1048576) 0 (by simpa using e5) (fun i s hi hv => ?_) (fun s hv => ?_)
  · have e : l.foldl (fun s x => s + List.length (α := Line) x) 0 = (List.flatten (α := Line) l).length := by
      have : ∀ (l : List (List Line)) (k : Nat), l.foldl (fun s x => s + List.length (α := Line) x) k = k + (List.flatten (α := Line) l).length := by
        intro l
        induction l with
        | nil => intro k; simp
        | cons x l ih => intro k; rw [List.foldl_cons, ih]; simp; omega
      rw [this]; omega
    rw [e] at this
    exact this
  · rw [List.drop_eq_getElem_cons hi] at hv
    simp only [List.flatten_cons, List.length_append] at hv
    have e : rget link.sl l (i : Int) = l[i] := by rw [rget_nat]; exact getD_el hi
    have e6 : IntKind.i64.wrap ((s : Int) + (l[i].length : Int)) = ((s + l[i].length : Nat) : Int) := by rw [w64 (by omega) (by omega)]; omega
    refine ⟨?_, by omega⟩
    simp only [b81_0, B81_0, Tr.val, e, e6, inB_nat hi, show ((i : Int) < (l.length : Int)) by omega, show ¬ (((s + l[i].length : Nat) : Int) < 0) by omega, decide_true, decide_false, cond_true, cond_false, wrap64_nat (show i ≤ 1048576 by omega)]
  · simp only [b81_0, B81_0, Tr.val, show ¬ ((l.length : Int) < (l.length : Int)) by omega, decide_false, cond_false]
def T81_1 (x : p81_1.T) : Tr (List Line) :=
  .ite (decide ((x.1.2.1 : Int) = (List.length (α := List Line) x.1.1 : Int) ∧ (x.1.2.2.1 : Int) = 0 ∧ List.length (α := List Line) x.1.1 ≤ 1048576 ∧ List.length (α := Line) x.2.1 + (List.flatten (α := Line) x.1.1).length ≤ 1048576))
    (.ret (x.2.1 ++ List.flatten (α := Line) x.1.1)) .fail
abbrev E81 : Env := N81 fun key x => bif Nat.beq key 11 then p81_1.ls (fun a => (T81_1 a).map X81_1) x else none
theorem L81_1 : LoopOK (evI 2) (E81.lend 0) (lc Tryd.f81 1) := by
  refine l81_1 (T := T81_1) (fun x => rfl) ?_
  rintro ⟨⟨l, n, i, z⟩, a, z2⟩ r h
  obtain ⟨h1, h2⟩ := pre_val h
  obtain ⟨e2, e3, e4, e5⟩ := of_decide_eq_true h1
  dsimp only at e2 e3 e4 e5 h2
  subst e2; subst e3
  cases h2
  have := Rounds.fold0 (B := b81_1) (σ := List Line) l (fun i s => ((l, (l.length : Int), (i : Int), ()), s, ())) (fun s x => s ++ x) (fun s => s) (fun i s => s.length + (l.drop i).flatten.length ≤ 1048576) a (by simpa using e5) (fun i s hi hv => ?_) (fun s hv => ?_)
  · have e : l.foldl (fun s x => s ++ x) a = a ++ List.flatten (α := Line) l := by
      clear this h h1 e5 e4
      induction l generalizing a with
      | nil => simp
      | cons x l ih => rw [List.foldl_cons, ih]; simp
    rw [e] at this
    exact this
  · rw [List.drop_eq_getElem_cons hi] at hv
    simp only [List.flatten_cons, List.length_append] at hv
    have e : rget link.sl l (i : Int) = l[i] := by rw [rget_nat]; exact getD_el hi
    refine ⟨?_, by simp only [List.length_append]; omega⟩
    simp only [b81_1, B81_1, Tr.val, e, inB_nat hi, show ((i : Int) < (l.length : Int)) by omega, show (s.length + l[i].length) * 32 ≤ 140737488355328 by omega, decide_true, cond_true, wrap64_nat (show i ≤ 1048576 by omega)]
  · simp only [b81_1, B81_1, Tr.val, show ¬ ((l.length : Int) < (l.length : Int)) by omega, decide_false, cond_false]
def d81 (a : List (List Line)) : Tr (List Line) :=
  let v1 : Int := ((↑a.length : Int))
  let v2 : Int := ((↑a.flatten.length : Int))
  let v3 : Int := ((↑a.length : Int))
  Tr.ite (decide ((0 : Int) = (0 : Int) ∧ v3 = v1 ∧ (0 : Int) = (0 : Int) ∧ a.length ≤ (1048576 : Nat) ∧ a.flatten.length ≤ (1048576 : Nat)))
    (Tr.ite (decide ((0 : Int) ≤ v2 ∧ v2 ≤ (1048576 : Int)))
      (Tr.ite (decide (v3 = v1 ∧ (0 : Int) = (0 : Int) ∧ a.length ≤ (1048576 : Nat) ∧ (0 : Nat) + a.flatten.length ≤ (1048576 : Nat))) (Tr.ret a.flatten) Tr.fail) Tr.fail)
    Tr.fail
def e81 (r : List Line) : FRes := { rs := Slot.av (AV.one (Leaf.dat link.sl r)), upd := [], new := [] }
@[reducible] def a81 : List AK := [AK.d link.sl.sl]
@[reducible] def b81 : List BK := []
theorem t81 (a : List (List Line)) : evFn (E81) Tryd.f81 [PM.data link.sl] (akAV a81 (a, ())) (bkBs b81 ()) = (d81 a).map e81 := by kernel_rfl
def s81 (C : akT a81 → Bool) (G : akT a81 → List Line) : FSpec := aspec a81 b81 e81 (fun x _ => C x) (fun x _ => G x)
theorem k81 {C : akT a81 → Bool} {G : akT a81 → List Line} (hd : ∀ (a : List (List Line)), C (a, ()) = true → (d81 a).val = some (G (a, ()))) (IO : ItOK Tryd.prog (E81) := by exact itOK_none rfl) (L : ∀ c, Tryd.f81.body = some c → LsOK (evI 2) ((E81).lend 0) c := by exact fun c _ => LsOK_none rfl c) : SpecOK Tryd.prog E0 81 (s81 C G) :=
  aspec_ok (ak := a81) (bl := b81) (e := e81) (c := fun x _ => C x) (g := fun x _ => G x) (E0 := E0) (E := E81) tab (.cons wk132 .nil) rfl rfl hm Tryd.func81 (by kernel_rfl) [PM.data link.sl] (fun X Y H => by obtain ⟨a, _⟩ := X; exact val_of (t81 a) (hd a H)) IO L
abbrev w81 : FSpec := s81 (fun x => decide (List.length (α := List Line) x.1 ≤ 1048576 ∧ (List.flatten (α := Line) x.1).length ≤ 1048576)) fun x => List.flatten (α := Line) x.1
theorem wk81 : SpecOK Tryd.prog E0 81 w81 := by
  refine k81 (fun l H => ?_) (L := ls_ok (lcs := [lc Tryd.f81 0, lc Tryd.f81 1]) (rgs := []) (by kernel_rfl) (by kernel_rfl) ⟨L81_0, L81_1⟩ trivial)
  have H : List.length (α := List Line) l ≤ 1048576 ∧ (List.flatten (α := Line) l).length ≤ 1048576 := of_decide_eq_true H
  have h2 : ((List.flatten (α := Line) l).length : Int) ≤ 1048576 := by omega
  simp only [d81, Tr.val, H, h2, Nat.zero_add, Int.natCast_nonneg, and_self, decide_true, cond_true, List.nil_append]
end Go.Proofs.YtmnbcnhpklejcaaDoor
namespace U
def rawPush (b : Int × List Ln × Unit) (l : List Ln) : Int × List Ln × Int :=
  if Go.Proofs.YtmnbcnhpklejcaaDoor.keepB b && !(l.any fun y => odd y.1) then (b.1, (b.2.1 ++ l).drop (maxI ((b.2.1 ++ l).length - b.1) 0).toNat, 0) else (0, [], 1)
def rawTake (b : Int × List Ln × Unit) (n : Int) : Int × List Ln × List Ln × Int :=
  if Go.Proofs.YtmnbcnhpklejcaaDoor.keepB b && decide (0 ≤ n) then (b.1, b.2.1.take (b.2.1.length - n.toNat), b.2.1.drop (b.2.1.length - n.toNat), 0) else (0, [], [], 1)
def rawAt (b : Int × List Ln × Unit) (i : Int) : List Cl × Bool × Int :=
  if Go.Proofs.YtmnbcnhpklejcaaDoor.keepB b = false then ([], false, 1) else if i < 0 ∨ (b.2.1.length : Int) ≤ i then ([], false, 5) else
  ((b.2.1.getD (b.2.1.length - 1 - i.toNat) dL).1, (b.2.1.getD (b.2.1.length - 1 - i.toNat) dL).2.1, 0)
end U
namespace Go.Proofs.YtmnbcnhpklejcaaDoor
end Go.Proofs.YtmnbcnhpklejcaaDoor
namespace U
def cutC (c : Cl) : Cl := (c.1.extract 0 (min c.1.size 20), c.2)
def cutL (l : List Cl) : List Cl := (l.take 82).map cutC
def few (l : List Ln) (n : Nat) : List Ln := (l.take n).map fun x => (cutL x.1, x.2.1, ())
end U
namespace Go.Proofs.YtmnbcnhpklejcaaDoor
theorem minI_nat (a b : Nat) : minI (a : Int) (b : Int) = ((min a b : Nat) : Int) := by unfold minI; split <;> omega
end Go.Proofs.YtmnbcnhpklejcaaDoor

end
section
set_option linter.unusedVariables false
set_option linter.unusedSimpArgs false
set_option maxRecDepth 20000
open Go Go.Ev
namespace Go.Proofs.YtmnbcnhpklejcaaDoor
open Go.RowKit
end Go.Proofs.YtmnbcnhpklejcaaDoor
namespace U
def eqC (a b : Cl) : Bool := decide (a.1 = b.1) && (decide (a.2.1 = b.2.1) && (decide (a.2.2.1.1 = b.2.2.1.1) && (decide (a.2.2.1.2.1 = b.2.2.1.2.1) && decide (a.2.2.1.2.2.1 = b.2.2.1.2.2.1))))
theorem eqC_iff {a b : Cl} : eqC a b = true ↔ a = b := by
  obtain ⟨a1, a2, ⟨a3, a4, a5, u1⟩, u2⟩ := a
  obtain ⟨b1, b2, ⟨b3, b4, b5, u3⟩, u4⟩ := b
  simp only [eqC, Bool.and_eq_true, decide_eq_true_eq, Prod.mk.injEq]
  constructor
  · rintro ⟨h1, h2, h3, h4, h5⟩; exact ⟨h1, h2, ⟨h3, h4, h5, trivial⟩, trivial⟩
  · rintro ⟨h1, h2, ⟨h3, h4, h5, _⟩, _⟩; exact ⟨h1, h2, h3, h4, h5⟩
def eqCs (l m : List Cl) : Bool := decide (l.length = m.length) && allN (fun i => eqC (l.getD i dC) (m.getD i dC)) l.length 0
theorem eqCs_iff {l m : List Cl} : eqCs l m = true ↔ l = m := by
  simp only [eqCs, Bool.and_eq_true, decide_eq_true_eq, all0]
  constructor
  · rintro ⟨e3, h⟩
    refine List.ext_getElem e3 fun j h1 h2 => ?_
    have := eqC_iff.1 (h j h1)
    rwa [getD_el h1, getD_el h2] at this
  · rintro rfl
    exact ⟨rfl, fun j _ => eqC_iff.2 rfl⟩
def eqL (a b : Ln) : Bool := eqCs a.1 b.1 && (a.2.1 == b.2.1)
theorem eqL_iff {a b : Ln} : eqL a b = true ↔ a = b := by
  obtain ⟨a1, a2, u⟩ := a
  obtain ⟨b1, b2, v⟩ := b
  simp [eqL, eqCs_iff]
def eqLs (l m : List Ln) : Bool := decide (l.length = m.length) && allN (fun i => eqL (l.getD i dL) (m.getD i dL)) l.length 0
end U
namespace Go.Proofs.YtmnbcnhpklejcaaDoor
def T25 (x : p25_0.T) : Tr (Unit ⊕ Unit) :=
  .ite (decide ((x.1.1 : Int) = (List.length (α := Cell) x.2.1.1 : Int) ∧ (x.1.2.1 : Int) = 0 ∧ List.length (α := Cell) x.2.1.1 = List.length (α := Cell) x.2.2.1.1 ∧ List.length (α := Cell) x.2.1.1 ≤ 1048576))
    (.ite (U.eqCs x.2.1.1 x.2.2.1.1) (.ret (.inr ())) (.ret (.inl ()))) .fail
abbrev E25 : Env := M25 fun key x => bif Nat.beq key 4 then p25_0.ls (fun a => (T25 a).map X25_0) x else none
theorem L25 : LoopOK (evI 2) (E25.lend 0) (lc Tryd.f25 0) := by
  refine l25_0 (T := T25) (fun x => rfl) ?_
  rintro ⟨⟨n, i, z⟩, ⟨l, s, z1⟩, ⟨m, t, z2⟩, z3⟩ r h
  obtain ⟨g1, g2⟩ := pre_val h
  obtain ⟨e1, e2, e3, e4⟩ := of_decide_eq_true g1
  dsimp only at e1 e2 e3 e4 g2
  subst e1; subst e2
  have := Rounds.all (B := b25_0) (N := List.length (α := Cell) l) (fun i => (((List.length (α := Cell) l : Int), (i : Int), ()), (l, s, ()), (m, t, ()), ())) (fun i => U.eqC (List.getD (α := Cell) l i U.dC) (List.getD (α := Cell) m i U.dC)) (.inl ()) (.inr ()) (fun i hi => ?_) ?_
  · have e : allN (fun i => U.eqC (List.getD (α := Cell) l i U.dC) (List.getD (α := Cell) m i U.dC)) (List.length (α := Cell) l) 0 = U.eqCs l m := by
      unfold U.eqCs
      rw [decide_eq_true e3, Bool.true_and]
    rw [e] at this
    cases hd : U.eqCs l m <;> simp only [hd, Tr.val, cond_true, cond_false] at g2 this <;> cases g2 <;> exact this
  · have i2 : inB (i : Int) (List.length (α := Cell) m) = true := inB_nat (by omega)
    simp only [b25_0, B25_0, Tr.val, inB_nat hi, i2, rgetC, show ((i : Int) < (List.length (α := Cell) l : Int)) by omega, decide_true, cond_true, wrap64_nat (show i ≤ 1048576 by omega)]
    show (bif !(U.eqC (List.getD (α := Cell) l i U.dC) (List.getD (α := Cell) m i U.dC)) then _ else _) = _
    cases U.eqC (List.getD (α := Cell) l i U.dC) (List.getD (α := Cell) m i U.dC) <;> rfl
  · simp only [b25_0, B25_0, Tr.val, show ¬ ((List.length (α := Cell) l : Int) < (List.length (α := Cell) l : Int)) by omega, decide_false, cond_false]
def d25 (a1 : List Cell) (a2 : Bool) (b1 : List Cell) (b2 : Bool) : Tr (Bool) :=
  let v1 : Int := ((↑a1.length : Int))
  let v2 : Int := ((↑b1.length : Int))
  let v3 : Int := ((↑a1.length : Int))
  Tr.ite (!decide (v3 = v2)) (Tr.ret false)
    (Tr.ite (!a2 == b2) (Tr.ret false)
      (Tr.ite (decide (v3 = v1 ∧ (0 : Int) = (0 : Int) ∧ a1.length = b1.length ∧ a1.length ≤ (1048576 : Nat))) (Tr.ite (U.eqCs a1 b1) (Tr.ret true) (Tr.ret false)) Tr.fail))
def e25 (r : Bool) : FRes := { rs := Slot.av (AV.one (Leaf.dat Kd.bool r)), upd := [], new := [] }
@[reducible] def a25 : List AK := [AK.d link, AK.d link]
@[reducible] def b25 : List BK := []
theorem t25 (a1 : List Cell) (a2 : Bool) (b1 : List Cell) (b2 : Bool) : evFn (E25) Tryd.f25 [PM.data Kd.bool] (akAV a25 ((a1, a2, ()), (b1, b2, ()), ())) (bkBs b25 ()) = (d25 a1 a2 b1 b2).map e25 := by kernel_rfl
def s25 (C : akT a25 → Bool) (G : akT a25 → Bool) : FSpec := aspec a25 b25 e25 (fun x _ => C x) (fun x _ => G x)
theorem k25 {C : akT a25 → Bool} {G : akT a25 → Bool} (hd : ∀ (a1 : List Cell) (a2 : Bool) (b1 : List Cell) (b2 : Bool), C ((a1, a2, ()), (b1, b2, ()), ()) = true → (d25 a1 a2 b1 b2).val = some (G ((a1, a2, ()), (b1, b2, ()), ()))) (IO : ItOK Tryd.prog (E25) := by exact itOK_none rfl) (L : ∀ c, Tryd.f25.body = some c → LsOK (evI 2) ((E25).lend 0) c := by exact fun c _ => LsOK_none rfl c) : SpecOK Tryd.prog E0 25 (s25 C G) :=
  aspec_ok (ak := a25) (bl := b25) (e := e25) (c := fun x _ => C x) (g := fun x _ => G x) (E0 := E0) (E := E25) tab .nil rfl rfl hm Tryd.func25 (by kernel_rfl) [PM.data Kd.bool] (fun X Y H => by obtain ⟨⟨a1, ⟨a2, _⟩⟩, ⟨⟨b1, ⟨b2, _⟩⟩, _⟩⟩ := X; exact val_of (t25 a1 a2 b1 b2) (hd a1 a2 b1 b2 H)) IO L
abbrev w25 : FSpec := s25 (fun x => decide (List.length (α := Cell) x.1.1 ≤ 1048576)) fun x => U.eqL x.1 x.2.1
theorem wk25 : SpecOK Tryd.prog E0 25 w25 := by
  refine k25 (fun l s m t H => ?_) (L := ls_ok (lcs := [lc Tryd.f25 0]) (rgs := []) (by kernel_rfl) (by kernel_rfl) L25 trivial)
  have H : l.length ≤ 1048576 := of_decide_eq_true H
  show _ = some (U.eqL (l, s, ()) (m, t, ()))
  unfold U.eqL
  by_cases h1 : l.length = m.length
  · cases h2 : (s == t) with
    | true =>
      have h3 : (l.length : Int) = (m.length : Int) := by omega
      simp only [d25, Tr.val, h1 ▸ H, h1, h2, decide_true, Bool.not_true, Bool.and_true, cond_true, cond_false, and_self]
      cases U.eqCs l m <;> rfl
    | false => simp [d25, Tr.val, h1, h2]
  · have h3 : ¬ (l.length : Int) = (m.length : Int) := by omega
    simp [d25, Tr.val, h3, U.eqCs, h1]
end Go.Proofs.YtmnbcnhpklejcaaDoor
namespace U
end U
namespace Go.Proofs.YtmnbcnhpklejcaaDoor
end Go.Proofs.YtmnbcnhpklejcaaDoor
namespace U
end U
namespace Go.Proofs.YtmnbcnhpklejcaaDoor
end Go.Proofs.YtmnbcnhpklejcaaDoor
namespace U
end U
namespace Go.Proofs.YtmnbcnhpklejcaaDoor
end Go.Proofs.YtmnbcnhpklejcaaDoor

end
section
set_option linter.unusedVariables false
set_option linter.unusedSimpArgs false
set_option maxRecDepth 20000
open Go Go.Ev
namespace Go.Proofs.YtmnbcnhpklejcaaDoor
open Go.RowKit
abbrev okls (l : List Line) : Bool := decide (List.length (α := Line) l ≤ 1048576) && List.all (α := Line) l fun y => decide (y.1.length ≤ 1048576)
def d3 (a1 : Int) (a2 : List Line) (b : List Line) (c : Int) : Tr (Bool) :=
  let v1 : List U.Ln := (U.few b (50 : Nat))
  let v2 : List U.Ln := (U.few a2 (42 : Nat))
  let v3 : Int := ((↑v2.length : Int))
  let v4 : Int := (v3 - minI c v3)
  let v5 : List Line := (sub v2 (IntKind.i64.wrap v4).toNat v2.length)
  let v6 : Int := (v3 - (1 : Int))
  let v7 : Int := (IntKind.i64.wrap v6 - c)
  let v8 : List Line := (sub v2 (0 : Nat) (IntKind.i64.wrap v4).toNat)
  let v9 : Int := ((U.rawPush (a1, v2, ()) v1).fst)
  let v10 : List Cell := ((U.rawAt (a1, v2, ()) c).fst)
  let v11 : Int := ((↑v10.length : Int))
  let v12 : Int := ((U.rawTake (a1, v2, ()) c).fst)
  let v13 : Int := ((U.rawAt (a1, v2, ()) c).snd.snd)
  let v14 : Int := ((U.rawPush (a1, v2, ()) v1).snd.snd)
  let v15 : List Line := ((U.rawPush (a1, v2, ()) v1).snd.fst)
  let v16 : List Line := ((U.rawTake (a1, v2, ()) c).snd.fst)
  let v17 : Int := ((U.rawTake (a1, v2, ()) c).snd.snd.snd)
  let v18 : List Line := ((U.rawTake (a1, v2, ()) c).snd.snd.fst)
  let v19 : Int := ((↑v18.length : Int))
  let v20 : Int := ((↑(List.length (v2 ++ v1)) : Int))
  let v21 : Int := (v20 - a1)
  Tr.ite true
    (Tr.ite (U.okl v2 && U.okl v1 && decide (v2.length + v1.length ≤ (1048576 : Nat)))
      (Tr.ite (U.okl v2)
        (Tr.ite (U.okl v2)
          (Tr.ite (U.okl v2)
            (Tr.ite (U.okl v2)
              (Tr.ite (!keepB (a1, v2, ()) == keepB (a1, v2, ())) (Tr.ret false)
                (Tr.ite false (Tr.ret false)
                  (Tr.ite (U.okl v2)
                    (Tr.ite (!keepB (a1, v2, ()))
                      (Tr.ite (decide (v14 = (1 : Int)))
                        (Tr.ite (decide (v17 = (1 : Int)))
                          (Tr.ite (decide (v13 = (1 : Int)))
                            (Tr.ite (okls v15)
                              (Tr.ite (decide (v9 = (0 : Int)) && U.eqLs v15 [])
                                (Tr.ite (okls v16)
                                  (Tr.ite (decide (v12 = (0 : Int)) && U.eqLs v16 []) (Tr.ite (decide (v19 = (0 : Int))) (Tr.ret (decide (v11 = (0 : Int)))) (Tr.ret false)) (Tr.ret false)) Tr.fail)
                                (Tr.ret false))
                              Tr.fail)
                            (Tr.ret false))
                          (Tr.ret false))
                        (Tr.ret false))
                      (Tr.ite (U.okl v1)
                        (Tr.ite (!!v1.any fun (y : Line) => U.odd y.fst)
                          (Tr.ite (!decide (v14 = (1 : Int))) (Tr.ret false)
                            (Tr.ite (okls v15)
                              (Tr.ite (!(decide (v9 = (0 : Int)) && U.eqLs v15 [])) (Tr.ret false)
                                (Tr.ite (decide (c < (0 : Int)))
                                  (Tr.ite (!decide (v13 = (5 : Int))) (Tr.ret false)
                                    (Tr.ite (!decide (v11 = (0 : Int))) (Tr.ret false)
                                      (Tr.ite (decide (c < (0 : Int)))
                                        (Tr.ite (decide (v17 = (1 : Int)))
                                          (Tr.ite (okls v16) (Tr.ite (decide (v12 = (0 : Int)) && U.eqLs v16 []) (Tr.ret (decide (v19 = (0 : Int)))) (Tr.ret false)) Tr.fail) (Tr.ret false))
                                        (Tr.ite (decide (v17 = (0 : Int)))
                                          (Tr.ite (decide ((0 : Int) ≤ IntKind.i64.wrap v4 ∧ IntKind.i64.wrap v4 ≤ v3))
                                            (Tr.ite (okls v16)
                                              (Tr.ite (decide (v12 = a1) && U.eqLs v16 v8)
                                                (Tr.ite (decide ((0 : Int) ≤ IntKind.i64.wrap v4 ∧ IntKind.i64.wrap v4 ≤ v3))
                                                  (Tr.ite (decide (v18.length ≤ (1048576 : Nat)) && v18.all fun (y : Line) => decide (y.fst.length ≤ (1048576 : Nat))) (Tr.ret (U.eqLs v18 v5)) Tr.fail)
                                                  Tr.fail)
                                                (Tr.ret false))
                                              Tr.fail)
                                            Tr.fail)
                                          (Tr.ret false)))))
                                  (Tr.ite (decide (v3 ≤ c))
                                    (Tr.ite (!decide (v13 = (5 : Int))) (Tr.ret false)
                                      (Tr.ite (!decide (v11 = (0 : Int))) (Tr.ret false)
                                        (Tr.ite (decide (c < (0 : Int)))
                                          (Tr.ite (decide (v17 = (1 : Int)))
                                            (Tr.ite (okls v16) (Tr.ite (decide (v12 = (0 : Int)) && U.eqLs v16 []) (Tr.ret (decide (v19 = (0 : Int)))) (Tr.ret false)) Tr.fail) (Tr.ret false))
                                          (Tr.ite (decide (v17 = (0 : Int)))
                                            (Tr.ite (decide ((0 : Int) ≤ IntKind.i64.wrap v4 ∧ IntKind.i64.wrap v4 ≤ v3))
                                              (Tr.ite (okls v16)
                                                (Tr.ite (decide (v12 = a1) && U.eqLs v16 v8)
                                                  (Tr.ite (decide ((0 : Int) ≤ IntKind.i64.wrap v4 ∧ IntKind.i64.wrap v4 ≤ v3))
                                                    (Tr.ite (decide (v18.length ≤ (1048576 : Nat)) && v18.all fun (y : Line) => decide (y.fst.length ≤ (1048576 : Nat))) (Tr.ret (U.eqLs v18 v5)) Tr.fail)
                                                    Tr.fail)
                                                  (Tr.ret false))
                                                Tr.fail)
                                              Tr.fail)
                                            (Tr.ret false)))))
                                    (Tr.ite (!decide (v13 = (0 : Int))) (Tr.ret false)
                                      (Tr.ite (inB (IntKind.i64.wrap v7) v2.length)
                                        (Tr.ite (decide (v10.length ≤ (1048576 : Nat)))
                                          (Tr.ite (!U.eqL (v10, (U.rawAt (a1, v2, ()) c).snd.fst, ()) (rget link v2 (IntKind.i64.wrap v7))) (Tr.ret false)
                                            (Tr.ite (decide (c < (0 : Int)))
                                              (Tr.ite (decide (v17 = (1 : Int)))
                                                (Tr.ite (okls v16) (Tr.ite (decide (v12 = (0 : Int)) && U.eqLs v16 []) (Tr.ret (decide (v19 = (0 : Int)))) (Tr.ret false)) Tr.fail) (Tr.ret false))
                                              (Tr.ite (decide (v17 = (0 : Int)))
                                                (Tr.ite (decide ((0 : Int) ≤ IntKind.i64.wrap v4 ∧ IntKind.i64.wrap v4 ≤ v3))
                                                  (Tr.ite (okls v16)
                                                    (Tr.ite (decide (v12 = a1) && U.eqLs v16 v8)
                                                      (Tr.ite (decide ((0 : Int) ≤ IntKind.i64.wrap v4 ∧ IntKind.i64.wrap v4 ≤ v3))
                                                        (Tr.ite (decide (v18.length ≤ (1048576 : Nat)) && v18.all fun (y : Line) => decide (y.fst.length ≤ (1048576 : Nat))) (Tr.ret (U.eqLs v18 v5))
                                                          Tr.fail)
                                                        Tr.fail)
                                                      (Tr.ret false))
                                                    Tr.fail)
                                                  Tr.fail)
                                                (Tr.ret false))))
                                          Tr.fail)
                                        Tr.fail)))))
                              Tr.fail))
                          (Tr.ite (decide (((0 : Nat) + v2.length) * (32 : Nat) ≤ (140737488355328 : Nat)))
                            (Tr.ite (decide ((v2.length + v1.length) * (32 : Nat) ≤ (140737488355328 : Nat)))
                              (Tr.ite (decide (a1 < v20))
                                (Tr.ite (decide ((0 : Int) ≤ IntKind.i64.wrap v21 ∧ IntKind.i64.wrap v21 ≤ v20))
                                  (Tr.ite (!decide (v14 = (0 : Int))) (Tr.ret false)
                                    (Tr.ite (okls v15)
                                      (Tr.ite (!(decide (v9 = a1) && U.eqLs v15 (sub (v2 ++ v1) (IntKind.i64.wrap v21).toNat (List.length (v2 ++ v1))))) (Tr.ret false)
                                        (Tr.ite (decide (c < (0 : Int)))
                                          (Tr.ite (!decide (v13 = (5 : Int))) (Tr.ret false)
                                            (Tr.ite (!decide (v11 = (0 : Int))) (Tr.ret false)
                                              (Tr.ite (decide (c < (0 : Int)))
                                                (Tr.ite (decide (v17 = (1 : Int)))
                                                  (Tr.ite (okls v16) (Tr.ite (decide (v12 = (0 : Int)) && U.eqLs v16 []) (Tr.ret (decide (v19 = (0 : Int)))) (Tr.ret false)) Tr.fail) (Tr.ret false))
                                                (Tr.ite (decide (v17 = (0 : Int)))
                                                  (Tr.ite (decide ((0 : Int) ≤ IntKind.i64.wrap v4 ∧ IntKind.i64.wrap v4 ≤ v3))
                                                    (Tr.ite (okls v16)
                                                      (Tr.ite (decide (v12 = a1) && U.eqLs v16 v8)
                                                        (Tr.ite (decide ((0 : Int) ≤ IntKind.i64.wrap v4 ∧ IntKind.i64.wrap v4 ≤ v3))
                                                          (Tr.ite (decide (v18.length ≤ (1048576 : Nat)) && v18.all fun (y : Line) => decide (y.fst.length ≤ (1048576 : Nat))) (Tr.ret (U.eqLs v18 v5))
                                                            Tr.fail)
                                                          Tr.fail)
                                                        (Tr.ret false))
                                                      Tr.fail)
                                                    Tr.fail)
                                                  (Tr.ret false)))))
                                          (Tr.ite (decide (v3 ≤ c))
                                            (Tr.ite (!decide (v13 = (5 : Int))) (Tr.ret false)
                                              (Tr.ite (!decide (v11 = (0 : Int))) (Tr.ret false)
                                                (Tr.ite (decide (c < (0 : Int)))
                                                  (Tr.ite (decide (v17 = (1 : Int)))
                                                    (Tr.ite (okls v16) (Tr.ite (decide (v12 = (0 : Int)) && U.eqLs v16 []) (Tr.ret (decide (v19 = (0 : Int)))) (Tr.ret false)) Tr.fail) (Tr.ret false))
                                                  (Tr.ite (decide (v17 = (0 : Int)))
                                                    (Tr.ite (decide ((0 : Int) ≤ IntKind.i64.wrap v4 ∧ IntKind.i64.wrap v4 ≤ v3))
                                                      (Tr.ite (okls v16)
                                                        (Tr.ite (decide (v12 = a1) && U.eqLs v16 v8)
                                                          (Tr.ite (decide ((0 : Int) ≤ IntKind.i64.wrap v4 ∧ IntKind.i64.wrap v4 ≤ v3))
                                                            (Tr.ite (decide (v18.length ≤ (1048576 : Nat)) && v18.all fun (y : Line) => decide (y.fst.length ≤ (1048576 : Nat))) (Tr.ret (U.eqLs v18 v5))
                                                              Tr.fail)
                                                            Tr.fail)
                                                          (Tr.ret false))
                                                        Tr.fail)
                                                      Tr.fail)
                                                    (Tr.ret false)))))
                                            (Tr.ite (!decide (v13 = (0 : Int))) (Tr.ret false)
                                              (Tr.ite (inB (IntKind.i64.wrap v7) v2.length)
                                                (Tr.ite (decide (v10.length ≤ (1048576 : Nat)))
                                                  (Tr.ite (!U.eqL (v10, (U.rawAt (a1, v2, ()) c).snd.fst, ()) (rget link v2 (IntKind.i64.wrap v7))) (Tr.ret false)
                                                    (Tr.ite (decide (c < (0 : Int)))
                                                      (Tr.ite (decide (v17 = (1 : Int)))
                                                        (Tr.ite (okls v16) (Tr.ite (decide (v12 = (0 : Int)) && U.eqLs v16 []) (Tr.ret (decide (v19 = (0 : Int)))) (Tr.ret false)) Tr.fail)
                                                        (Tr.ret false))
                                                      (Tr.ite (decide (v17 = (0 : Int)))
                                                        (Tr.ite (decide ((0 : Int) ≤ IntKind.i64.wrap v4 ∧ IntKind.i64.wrap v4 ≤ v3))
                                                          (Tr.ite (okls v16)
                                                            (Tr.ite (decide (v12 = a1) && U.eqLs v16 v8)
                                                              (Tr.ite (decide ((0 : Int) ≤ IntKind.i64.wrap v4 ∧ IntKind.i64.wrap v4 ≤ v3))
                                                                (Tr.ite (decide (v18.length ≤ (1048576 : Nat)) && v18.all fun (y : Line) => decide (y.fst.length ≤ (1048576 : Nat)))
                                                                  (Tr.ret (U.eqLs v18 v5)) Tr.fail)
                                                                Tr.fail)
                                                              (Tr.ret false))
                                                            Tr.fail)
                                                          Tr.fail)
                                                        (Tr.ret false))))
                                                  Tr.fail)
                                                Tr.fail)))))
                                      Tr.fail))
                                  Tr.fail)
                                (Tr.ite (!decide (v14 = (0 : Int))) (Tr.ret false)
                                  (Tr.ite (okls v15)
                                    (Tr.ite (!(decide (v9 = a1) && U.eqLs v15 (v2 ++ v1))) (Tr.ret false)
                                      (Tr.ite (decide (c < (0 : Int)))
                                        (Tr.ite (!decide (v13 = (5 : Int))) (Tr.ret false)
                                          (Tr.ite (!decide (v11 = (0 : Int))) (Tr.ret false)
                                            (Tr.ite (decide (c < (0 : Int)))
                                              (Tr.ite (decide (v17 = (1 : Int)))
                                                (Tr.ite (okls v16) (Tr.ite (decide (v12 = (0 : Int)) && U.eqLs v16 []) (Tr.ret (decide (v19 = (0 : Int)))) (Tr.ret false)) Tr.fail) (Tr.ret false))
                                              (Tr.ite (decide (v17 = (0 : Int)))
                                                (Tr.ite (decide ((0 : Int) ≤ IntKind.i64.wrap v4 ∧ IntKind.i64.wrap v4 ≤ v3))
                                                  (Tr.ite (okls v16)
                                                    (Tr.ite (decide (v12 = a1) && U.eqLs v16 v8)
                                                      (Tr.ite (decide ((0 : Int) ≤ IntKind.i64.wrap v4 ∧ IntKind.i64.wrap v4 ≤ v3))
                                                        (Tr.ite (decide (v18.length ≤ (1048576 : Nat)) && v18.all fun (y : Line) => decide (y.fst.length ≤ (1048576 : Nat))) (Tr.ret (U.eqLs v18 v5))
                                                          Tr.fail)
                                                        Tr.fail)
                                                      (Tr.ret false))
                                                    Tr.fail)
                                                  Tr.fail)
                                                (Tr.ret false)))))
                                        (Tr.ite (decide (v3 ≤ c))
                                          (Tr.ite (!decide (v13 = (5 : Int))) (Tr.ret false)
                                            (Tr.ite (!decide (v11 = (0 : Int))) (Tr.ret false)
                                              (Tr.ite (decide (c < (0 : Int)))
                                                (Tr.ite (decide (v17 = (1 : Int)))
                                                  (Tr.ite (okls v16) (Tr.ite (decide (v12 = (0 : Int)) && U.eqLs v16 []) (Tr.ret (decide (v19 = (0 : Int)))) (Tr.ret false)) Tr.fail) (Tr.ret false))
                                                (Tr.ite (decide (v17 = (0 : Int)))
                                                  (Tr.ite (decide ((0 : Int) ≤ IntKind.i64.wrap v4 ∧ IntKind.i64.wrap v4 ≤ v3))
                                                    (Tr.ite (okls v16)
                                                      (Tr.ite (decide (v12 = a1) && U.eqLs v16 v8)
                                                        (Tr.ite (decide ((0 : Int) ≤ IntKind.i64.wrap v4 ∧ IntKind.i64.wrap v4 ≤ v3))
                                                          (Tr.ite (decide (v18.length ≤ (1048576 : Nat)) && v18.all fun (y : Line) => decide (y.fst.length ≤ (1048576 : Nat))) (Tr.ret (U.eqLs v18 v5))
                                                            Tr.fail)
                                                          Tr.fail)
                                                        (Tr.ret false))
                                                      Tr.fail)
                                                    Tr.fail)
                                                  (Tr.ret false)))))
                                          (Tr.ite (!decide (v13 = (0 : Int))) (Tr.ret false)
                                            (Tr.ite (inB (IntKind.i64.wrap v7) v2.length)
                                              (Tr.ite (decide (v10.length ≤ (1048576 : Nat)))
                                                (Tr.ite (!U.eqL (v10, (U.rawAt (a1, v2, ()) c).snd.fst, ()) (rget link v2 (IntKind.i64.wrap v7))) (Tr.ret false)
                                                  (Tr.ite (decide (c < (0 : Int)))
                                                    (Tr.ite (decide (v17 = (1 : Int)))
                                                      (Tr.ite (okls v16) (Tr.ite (decide (v12 = (0 : Int)) && U.eqLs v16 []) (Tr.ret (decide (v19 = (0 : Int)))) (Tr.ret false)) Tr.fail) (Tr.ret false))
                                                    (Tr.ite (decide (v17 = (0 : Int)))
                                                      (Tr.ite (decide ((0 : Int) ≤ IntKind.i64.wrap v4 ∧ IntKind.i64.wrap v4 ≤ v3))
                                                        (Tr.ite (okls v16)
                                                          (Tr.ite (decide (v12 = a1) && U.eqLs v16 v8)
                                                            (Tr.ite (decide ((0 : Int) ≤ IntKind.i64.wrap v4 ∧ IntKind.i64.wrap v4 ≤ v3))
                                                              (Tr.ite (decide (v18.length ≤ (1048576 : Nat)) && v18.all fun (y : Line) => decide (y.fst.length ≤ (1048576 : Nat)))
                                                                (Tr.ret (U.eqLs v18 v5)) Tr.fail)
                                                              Tr.fail)
                                                            (Tr.ret false))
                                                          Tr.fail)
                                                        Tr.fail)
                                                      (Tr.ret false))))
                                                Tr.fail)
                                              Tr.fail)))))
                                    Tr.fail)))
                              Tr.fail)
                            Tr.fail))
                        Tr.fail))
                    Tr.fail)))
              Tr.fail)
            Tr.fail)
          Tr.fail)
        Tr.fail)
      Tr.fail)
    Tr.fail
def e3 (r : Bool) : FRes := { rs := Slot.av (AV.one (Leaf.dat Kd.bool r)), upd := [], new := [] }
@[reducible] def a3 : List AK := [AK.d bakk, AK.d link.sl, AK.d (.int .i64)]
@[reducible] def b3 : List BK := []
def s3 (C : akT a3 → Bool) (G : akT a3 → Bool) : FSpec := aspec a3 b3 e3 (fun x _ => C x) (fun x _ => G x)
def d4 (a1 : Int) (a2 : List Line) (b : List Line) (c : Int) : Tr (Bool) :=
  let v1 : List U.Ln := (U.few b (50 : Nat))
  let v2 : Int := ((↑v1.length : Int))
  let v3 : List U.Ln := (U.few a2 (42 : Nat))
  let v4 : Int := (v2 + (1 : Int))
  let v5 : Int := (c.tmod (IntKind.i64.wrap v4) + v2)
  let v6 : Int := (IntKind.i64.wrap v5 + (1 : Int))
  let v7 : Int := ((IntKind.i64.wrap v6).tmod (IntKind.i64.wrap v4))
  let v8 : List Line := (sub v1 v7.toNat v1.length)
  let v9 : List Line := (sub v1 (0 : Nat) v7.toNat)
  let v10 : Int := ((U.rawPush (a1, v3, ()) v1).fst)
  let v11 : Int := ((U.rawPush (a1, v3, ()) v9).fst)
  let v12 : List Line := ((U.rawPush (a1, v3, ()) v1).snd.fst)
  let v13 : Int := ((↑v12.length : Int))
  let v14 : Int := ((U.rawPush (a1, v3, ()) v1).snd.snd)
  let v15 : List Line := ((U.rawPush (a1, v3, ()) v9).snd.fst)
  let v16 : Int := ((U.rawPush (v11, v15, ()) v8).fst)
  let v17 : Int := ((U.rawPush (v11, v15, ()) v8).snd.snd)
  let v18 : Int := ((U.rawPush (a1, v3, ()) v9).snd.snd)
  let v19 : List Line := ((U.rawTake (v10, v12, ()) v2).snd.fst)
  let v20 : Int := ((↑v19.length : Int))
  let v21 : List Line := ((U.rawTake (v10, v12, ()) v2).snd.snd.fst)
  let v22 : Int := ((↑v21.length : Int))
  let v23 : Int := (v2 - v22)
  let v24 : Int := (v13 - v22)
  let v25 : Int := ((U.rawTake (v10, v12, ()) v2).snd.snd.snd)
  Tr.ite true
    (Tr.ite (!decide (IntKind.i64.wrap v4 = (0 : Int)))
      (Tr.ite (!decide (IntKind.i64.wrap v4 = (0 : Int)))
        (Tr.ite (U.okl v3 && U.okl v1 && decide (v3.length + v1.length ≤ (1048576 : Nat)))
          (Tr.ite (!decide (v14 = (0 : Int))) (Tr.ite true (Tr.ite (okls v12) (Tr.ret (decide (v10 = (0 : Int)) && U.eqLs v12 [])) Tr.fail) (Tr.ret false))
            (Tr.ite (decide ((0 : Int) ≤ v7 ∧ v7 ≤ v2))
              (Tr.ite (U.okl v3 && U.okl v9 && decide (v3.length + v9.length ≤ (1048576 : Nat)))
                (Tr.ite (decide ((0 : Int) ≤ v7 ∧ v7 ≤ v2))
                  (Tr.ite (U.okl v15 && U.okl v8 && decide (v15.length + v8.length ≤ (1048576 : Nat)))
                    (Tr.ite (U.okl v12)
                      (Tr.ite (!decide (v18 = (0 : Int))) (Tr.ret false)
                        (Tr.ite (!decide (v17 = (0 : Int))) (Tr.ret false)
                          (Tr.ite (!decide (v25 = (0 : Int))) (Tr.ret false)
                            (Tr.ite (okls v12)
                              (Tr.ite (!(decide (v10 = v16) && U.eqLs v12 (U.rawPush (v11, v15, ()) v8).snd.fst)) (Tr.ret false)
                                (Tr.ite (decide (a1 < v13)) (Tr.ret false)
                                  (Tr.ite (!decide (v22 = minI v2 a1)) (Tr.ret false)
                                    (Tr.ite (U.okl v19)
                                      (Tr.ite (!keepB ((U.rawTake (v10, v12, ()) v2).fst, v19, ())) (Tr.ret false)
                                        (Tr.ite false (Tr.ret false)
                                          (Tr.ite (decide ((0 : Int) ≤ IntKind.i64.wrap v23 ∧ IntKind.i64.wrap v23 ≤ v2))
                                            (Tr.ite (decide (v21.length ≤ (1048576 : Nat)) && v21.all fun (y : Line) => decide (y.fst.length ≤ (1048576 : Nat)))
                                              (Tr.ite (U.eqLs v21 (sub v1 (IntKind.i64.wrap v23).toNat v1.length)) (Tr.ret (decide (v20 = IntKind.i64.wrap v24))) (Tr.ret false)) Tr.fail)
                                            Tr.fail)))
                                      Tr.fail))))
                              Tr.fail))))
                      Tr.fail)
                    Tr.fail)
                  Tr.fail)
                Tr.fail)
              Tr.fail))
          Tr.fail)
        Tr.fail)
      Tr.fail)
    Tr.fail
def e4 (r : Bool) : FRes := { rs := Slot.av (AV.one (Leaf.dat Kd.bool r)), upd := [], new := [] }
@[reducible] def a4 : List AK := [AK.d bakk, AK.d link.sl, AK.d (.int .i64)]
@[reducible] def b4 : List BK := []
def s4 (C : akT a4 → Bool) (G : akT a4 → Bool) : FSpec := aspec a4 b4 e4 (fun x _ => C x) (fun x _ => G x)
end Go.Proofs.YtmnbcnhpklejcaaDoor
namespace U
open Go.Proofs.YtmnbcnhpklejcaaDoor
theorem cutC_size (c : Cl) : (cutC c).1.size ≤ 20 := by
  show (c.1.extract 0 (min c.1.size 20)).size ≤ 20
  rw [← bl_len, bl_ext, List.length_drop, List.length_take, bl_len]
  omega
theorem cutL_ok (l : List Cl) : okc (cutL l) = true := by
  unfold okc cutL
  rw [Bool.and_eq_true, decide_eq_true_eq, List.all_eq_true]
  refine ⟨by rw [List.length_map, List.length_take]; omega, fun x hx => ?_⟩
  obtain ⟨y, _, rfl⟩ := List.mem_map.1 hx
  exact decide_eq_true (by have := cutC_size y; omega)
theorem few_len (l : List Ln) (n : Nat) : (few l n).length ≤ n := by unfold few; rw [List.length_map, List.length_take]; omega
theorem few_ok (l : List Ln) {n : Nat} (hn : n ≤ 1000) : okl (few l n) = true := by
  have := few_len l n
  unfold okl
  rw [Bool.and_eq_true, decide_eq_true_eq, List.all_eq_true]
  refine ⟨by omega, fun x hx => ?_⟩
  unfold few at hx
  obtain ⟨y, _, rfl⟩ := List.mem_map.1 hx
  exact cutL_ok _
theorem okl_iff {l : List Ln} : okl l = true ↔ l.length ≤ 1048576 ∧ ∀ x ∈ l, okc x.1 = true := by
  unfold okl
  rw [Bool.and_eq_true, decide_eq_true_eq, List.all_eq_true]
theorem okl_s {l : List Ln} (h : okl l = true) : (decide (l.length ≤ 1048576) && l.all fun y => decide (y.1.length ≤ 1048576)) = true := by
  rw [okl_iff] at h
  rw [Bool.and_eq_true, decide_eq_true_eq, List.all_eq_true]
  exact ⟨h.1, fun x hx => decide_eq_true (okc_len (h.2 x hx))⟩
theorem eqL_refl (l : Ln) : eqL l l = true := eqL_iff.2 rfl
end U
namespace Go.Proofs.YtmnbcnhpklejcaaDoor
end Go.Proofs.YtmnbcnhpklejcaaDoor

end
section
set_option linter.unusedVariables false
set_option linter.unusedSimpArgs false
set_option maxRecDepth 20000
open Go Go.Ev
namespace Go.Proofs.YtmnbcnhpklejcaaDoor
open Go.RowKit
def d93 (a : Int) (b : Int) (c : Int) : Tr (Bool) :=
  Tr.ite (decide (b ≤ a)) (Tr.ret (decide (a ≤ c))) (Tr.ret false)
def e93 (r : Bool) : FRes := { rs := Slot.av (AV.one (Leaf.dat Kd.bool r)), upd := [], new := [] }
@[reducible] def a93 : List AK := [AK.d (.int .i64), AK.d (.int .i64), AK.d (.int .i64)]
@[reducible] def b93 : List BK := []
theorem t93 (a : Int) (b : Int) (c : Int) : evFn (E0) Tryd.f93 [PM.data Kd.bool] (akAV a93 (a, b, c, ())) (bkBs b93 ()) = (d93 a b c).map e93 := by kernel_rfl
def s93' (G : akT a93 → Bool) : FSpec := aspec0 a93 b93 e93 (fun x _ => G x)
theorem k93' {G : akT a93 → Bool} (hd : ∀ (a : Int) (b : Int) (c : Int), (d93 a b c).val = some (G (a, b, c, ()))) (IO : ItOK Tryd.prog (E0) := by exact itOK_none rfl) (L : ∀ c, Tryd.f93.body = some c → LsOK (evI 2) ((E0).lend 0) c := by exact fun c _ => LsOK_none rfl c) : SpecOK Tryd.prog E0 93 (s93' G) :=
  aspec0_ok (ak := a93) (bl := b93) (e := e93) (g := fun x _ => G x) (E0 := E0) (E := E0) tab .nil rfl rfl hm Tryd.func93 (by kernel_rfl) [PM.data Kd.bool] (fun X Y => by obtain ⟨a, ⟨b, ⟨c, _⟩⟩⟩ := X; exact val_of (t93 a b c) (hd a b c)) IO L
abbrev w93 : FSpec := s93' fun x => U.inn x.1 x.2.1 x.2.2.1
theorem wk93 : SpecOK Tryd.prog E0 93 w93 := by
  refine k93' fun a b c => ?_
  show _ = some (U.inn a b c)
  unfold U.inn
  by_cases h : b ≤ a <;> simp [d93, Tr.val, h]
def d88 (a1 : Int) (a2 : Int) (a3 : Int) : Tr (ByteArray × Int × Int × Int × Int) :=
  Tr.ret (ByteArray.empty, (1 : Int), (0 : Int), a2, (0 : Int))
def e88 (r : ByteArray × Int × Int × Int × Int) : FRes := { rs := Slot.av (AV.agg [Leaf.dat Kd.str r.fst, Leaf.dat (.int .i64) r.snd.fst, Leaf.dat (.int .i64) r.snd.snd.fst, Leaf.dat (.int .i64) r.snd.snd.snd.fst, Leaf.dat (.int .i64) r.snd.snd.snd.snd]), upd := [], new := [] }
@[reducible] def a88 : List AK := [AK.d attk]
@[reducible] def b88 : List BK := []
theorem t88 (a1 : Int) (a2 : Int) (a3 : Int) : evFn (E0) Tryd.f88 [PM.data celk] (akAV a88 ((a1, a2, a3, ()), ())) (bkBs b88 ()) = (d88 a1 a2 a3).map e88 := by kernel_rfl
def s88' (G : akT a88 → ByteArray × Int × Int × Int × Int) : FSpec := aspec0 a88 b88 e88 (fun x _ => G x)
theorem k88' {G : akT a88 → ByteArray × Int × Int × Int × Int} (hd : ∀ (a1 : Int) (a2 : Int) (a3 : Int), (d88 a1 a2 a3).val = some (G ((a1, a2, a3, ()), ()))) (IO : ItOK Tryd.prog (E0) := by exact itOK_none rfl) (L : ∀ c, Tryd.f88.body = some c → LsOK (evI 2) ((E0).lend 0) c := by exact fun c _ => LsOK_none rfl c) : SpecOK Tryd.prog E0 88 (s88' G) :=
  aspec0_ok (ak := a88) (bl := b88) (e := e88) (g := fun x _ => G x) (E0 := E0) (E := E0) tab .nil rfl rfl hm Tryd.func88 (by kernel_rfl) [PM.data celk] (fun X Y => by obtain ⟨⟨a1, ⟨a2, ⟨a3, _⟩⟩⟩, _⟩ := X; exact val_of (t88 a1 a2 a3) (hd a1 a2 a3)) IO L
abbrev w88 : FSpec := s88' fun x => (ByteArray.empty, (1 : Int), (0 : Int), x.1.2.1, (0 : Int))
theorem wk88 : SpecOK Tryd.prog E0 88 w88 := k88' fun a b c => rfl
def live86 (key : Nat) : Lv :=
  bif Nat.beq key 7777 then { ls := [], wd := [⟨2, none, .row 48 celk⟩] } else
  { ls := [] }
def live97 (key : Nat) : Lv :=
  bif Nat.beq key 7777 then { ls := [], wd := [⟨2, none, .row 34 link⟩] } else
  { ls := [] }
abbrev w86 : FSpec := bspec [.d (.sl celk)] [] fun x _ => { c := some (decide (List.length (α := Cell) x.1 ≤ 1048576)), rs := .av (.one (.row 0)), new := [.row 48 celk x.1] }
theorem wk86 : SpecOK Tryd.prog E0 86 w86 := by
  refine nspec_ok (k := celk) (E0 := E0) (E := E0.loops live86 fun _ _ => none) (g := fun (xs : List Cell) => { c := some (decide (List.length xs ≤ 1048576)), rs := .av (.one (.row 0)), new := [.row 48 celk xs] }) tab .nil rfl rfl hm Tryd.func86 (by kernel_rfl) [.raw] fun b xs hb hc => ?_
  have hl : xs.length ≤ 1048576 := by
    cases h : decide (xs.length ≤ 1048576) with
    | true => exact of_decide_eq_true h
    | false => exact absurd (by show some (decide (xs.length ≤ 1048576)) = some false; rw [h]) hc
  cases b with
  | true =>
    cases hb rfl
    show (evFn (E0.loops live86 fun _ _ => none) Tryd.f86 [.raw] [.one (.nn true celk [])] []).val = some ⟨.av (.one (.row 0)), [], [.row 48 celk []]⟩
    kernel_rfl
  | false =>
    have e : evFn (E0.loops live86 fun _ _ => none) Tryd.f86 [.raw] [.one (.nn false celk xs)] [] = .ite (decide ((0 + xs.length) * 48 ≤ capLimit)) (.ret ⟨.av (.one (.row 0)), [], [.row 48 celk xs]⟩) .fail := by kernel_rfl
    have h2 : (0 + xs.length) * 48 ≤ capLimit := by unfold capLimit; omega
    rw [e, decide_eq_true h2]
    rfl
abbrev w97 : FSpec := bspec [.d (.sl link)] [] fun x _ => { c := some (decide (List.length (α := Line) x.1 ≤ 1048576)), rs := .av (.one (.row 0)), new := [.row 34 link x.1] }
theorem wk97 : SpecOK Tryd.prog E0 97 w97 := by
  refine nspec_ok (k := link) (E0 := E0) (E := E0.loops live97 fun _ _ => none) (g := fun (xs : List Line) => { c := some (decide (List.length xs ≤ 1048576)), rs := .av (.one (.row 0)), new := [.row 34 link xs] }) tab .nil rfl rfl hm Tryd.func97 (by kernel_rfl) [.raw] fun b xs hb hc => ?_
  have hl : xs.length ≤ 1048576 := by
    cases h : decide (xs.length ≤ 1048576) with
    | true => exact of_decide_eq_true h
    | false => exact absurd (by show some (decide (xs.length ≤ 1048576)) = some false; rw [h]) hc
  cases b with
  | true =>
    cases hb rfl
    show (evFn (E0.loops live97 fun _ _ => none) Tryd.f97 [.raw] [.one (.nn true link [])] []).val = some ⟨.av (.one (.row 0)), [], [.row 34 link []]⟩
    kernel_rfl
  | false =>
    have e : evFn (E0.loops live97 fun _ _ => none) Tryd.f97 [.raw] [.one (.nn false link xs)] [] = .ite (decide ((0 + xs.length) * 32 ≤ capLimit)) (.ret ⟨.av (.one (.row 0)), [], [.row 34 link xs]⟩) .fail := by kernel_rfl
    have h2 : (0 + xs.length) * 32 ≤ capLimit := by unfold capLimit; omega
    rw [e, decide_eq_true h2]
    rfl
namespace R
def d87 (b : Int) (h0 : List Cell) : Tr (Bool × List Cell) :=
  let v1 : Int := ((↑h0.length : Int))
  let v2 : Int := (b + (1 : Int))
  let v3 : Int := (b - (1 : Int))
  Tr.ite (inB b h0.length)
    (Tr.ite (decide ((h0.getD b.toNat celk.dflt).snd.fst = (2 : Int)))
      (Tr.ite (decide (IntKind.i64.wrap v2 < v1)) (Tr.ite (inB (IntKind.i64.wrap v2) h0.length) (Tr.ret (decide ((h0.getD (IntKind.i64.wrap v2).toNat celk.dflt).snd.fst = (0 : Int)), h0)) Tr.fail)
        (Tr.ret (false, h0)))
      (Tr.ite (decide ((h0.getD b.toNat celk.dflt).snd.fst = (0 : Int)))
        (Tr.ite (decide ((0 : Int) < b)) (Tr.ite (inB (IntKind.i64.wrap v3) h0.length) (Tr.ret (decide ((h0.getD (IntKind.i64.wrap v3).toNat celk.dflt).snd.fst = (2 : Int)), h0)) Tr.fail)
          (Tr.ret (false, h0)))
        (Tr.ret (true, h0))))
    Tr.fail
def e87 (r : Bool × List Cell) : FRes := { rs := Slot.av (AV.one (Leaf.dat Kd.bool r.fst)), upd := [Blk.row ( 48) celk r.snd], new := [] }
@[reducible] def a87 : List AK := [AK.c (Leaf.row (0 : Nat)), AK.d (.int .i64)]
@[reducible] def b87 : List BK := [BK.row (48 : TypeId) celk]
theorem t87 (b : Int) (h0 : List Cell) : evFn (E0) Tryd.f87 [PM.data Kd.bool] (akAV a87 (b, ())) (bkBs b87 (h0, ())) = (d87 b h0).map e87 := by kernel_rfl
def s87 (C : akT a87 → bksT b87 → Bool) (G : akT a87 → bksT b87 → Bool × List Cell) : FSpec := aspec a87 b87 e87 (C) (G)
theorem k87 {C : akT a87 → bksT b87 → Bool} {G : akT a87 → bksT b87 → Bool × List Cell} (hd : ∀ (b : Int) (h0 : List Cell), C (b, ()) (h0, ()) = true → (d87 b h0).val = some (G (b, ()) (h0, ()))) (IO : ItOK Tryd.prog (E0) := by exact itOK_none rfl) (L : ∀ c, Tryd.f87.body = some c → LsOK (evI 2) ((E0).lend 1) c := by exact fun c _ => LsOK_none rfl c) : SpecOK Tryd.prog E0 87 (s87 C G) :=
  aspec_ok (ak := a87) (bl := b87) (e := e87) (c := C) (g := G) (E0 := E0) (E := E0) tab .nil rfl rfl hm Tryd.func87 (by kernel_rfl) [PM.data Kd.bool] (fun X Y H => by obtain ⟨b, _⟩ := X; obtain ⟨h0, _⟩ := Y; exact val_of (t87 b h0) (hd b h0 H)) IO L
theorem cwd (l : List Cell) (i : Nat) : (l.getD i celk.dflt).2.1 = U.cw l i := rfl
abbrev w87 : FSpec := s87 (fun x y => decide (0 ≤ (x.1 : Int) ∧ (x.1 : Int) < (List.length (α := Cell) y.1 : Int) ∧ List.length (α := Cell) y.1 ≤ 1048576)) fun x y => (U.whole y.1 x.1.toNat, y.1)
theorem wk87 : SpecOK Tryd.prog E0 87 w87 := by
  refine k87 fun i l H => ?_
  obtain ⟨h0, h1, h2⟩ := of_decide_eq_true H
  dsimp only at h0 h1 h2
  obtain ⟨n, rfl⟩ := Int.eq_ofNat_of_zero_le h0
  show _ = some (U.whole l n, l)
  have hn : n < l.length := Int.ofNat_lt.1 h1
  have w1 : IntKind.i64.wrap ((n : Int) + 1) = ((n + 1 : Nat) : Int) := wrap64_nat (by omega)
  unfold U.whole d87
  simp only [Tr.val, inB_nat hn, cond_true, w1, Int.toNat_natCast, cwd]
  by_cases a : U.cw l n = 2
  · by_cases b : n + 1 < l.length
    · simp [a, b, inB_nat b, show ((n : Int) + 1 < (l.length : Int)) by omega, show inB ((n : Int) + 1) l.length = true from by simpa using inB_nat b, ← cwd]
    · simp [a, b, show ¬ ((n : Int) + 1 < (l.length : Int)) by omega]
  · by_cases b : U.cw l n = 0
    · by_cases c : 0 < n
      · have w2 : IntKind.i64.wrap ((n : Int) - 1) = ((n - 1 : Nat) : Int) := by
          rw [wrap64_id (by omega) (by omega)]
          omega
        simp [a, b, c, w2, inB_nat (show n - 1 < l.length by omega), ← cwd]
      · have : n = 0 := by omega
        subst this
        simp [a, b]
    · simp [a, b]
end R
abbrev G30 : List (Nat × FSpec) := [(86, w86), (87, R.w87), (88, w88)]
theorem AG30 : AllFn Tryd.prog E0 G30 := .cons wk86 (.cons R.wk87 (.cons wk88 .nil))
def live30 (key : Nat) : Lv :=
  bif Nat.beq key 3 then { ls := [1, 2, 10, 11, 12] } else bif Nat.beq key 1003 then { ls := [1, 2] } else
  { ls := [] }
abbrev M30 (ls : Nat → VS → Option (Tr (Ex × VS))) : Env := (E0.withFns G30).loops live30 ls
@[reducible] def p30_0 : LP := { n := 31, sl := [.c (Leaf.ptr ( 0) ( 0)), .c (Leaf.ptr ( 1) ( 0)), .c (Leaf.row ( 2)), .d (.int .i64), .d (.int .i64)], bl := [(0, .box [.c (Leaf.row ( 2)), .d (Kd.bool)]), (1, .box [.c (Leaf.nils), .d (Kd.bool)]), (2, .row 48 (celk))] }
def B30_0 (x3 : Int) (x4 : Int) (h0_1 : Bool) (h1_1 : Bool) (h2 : List Cell) : Tr (p30_0.T ⊕ (Bool × Bool × List Cell)) :=
  let v1 : Int := ((↑h2.length : Int))
  let v2 : Int := (x4 + (1 : Int))
  Tr.ite (decide (x4 < x3))
    (Tr.ite (inB x4 h2.length)
      (Tr.ite (decide ((0 : Int) ≤ x4 ∧ x4 < v1 ∧ h2.length ≤ (1048576 : Nat)))
        (Tr.ite (!U.whole h2 x4.toNat)
          (Tr.ite (inB x4 h2.length)
            (Tr.ret
              (Sum.inl
                ((x3, IntKind.i64.wrap v2, ()), (h0_1, ()), (h1_1, ()), h2.set x4.toNat (ByteArray.empty, (1 : Int), ((0 : Int), (h2.getD x4.toNat celk.dflt).snd.snd.fst.snd.fst, (0 : Int), ()), ()),
                  ())))
            Tr.fail)
          (Tr.ret (Sum.inl ((x3, IntKind.i64.wrap v2, ()), (h0_1, ()), (h1_1, ()), h2, ()))))
        Tr.fail)
      Tr.fail)
    (Tr.ret (Sum.inr (h0_1, h1_1, h2)))
def X30_0 (r : (Bool × Bool × List Cell)) : Ex × VS := Prod.mk (Ex.exit ( 0)) { n := 31, v := [Slot.av (AV.one (Leaf.ptr ( 0) ( 0))), Slot.av (AV.one (Leaf.ptr ( 1) ( 0)))], h := [( 0, Blk.box [Leaf.row ( 2), Leaf.dat Kd.bool r.fst]), ( 1, Blk.box [Leaf.nils, Leaf.dat Kd.bool r.snd.fst]), ( 2, Blk.row ( 48) celk r.snd.snd)] }
def b30_0 : p30_0.T → Tr (p30_0.T ⊕ (Bool × Bool × List Cell)) := fun ⟨⟨x3, ⟨x4, _⟩⟩, ⟨⟨h0_1, _⟩, ⟨⟨h1_1, _⟩, ⟨h2, _⟩⟩⟩⟩ => B30_0 x3 x4 h0_1 h1_1 h2
theorem h30_0 (ls : Nat → VS → Option (Tr (Ex × VS))) (x : p30_0.T) : (evC (evI 2) (lc Tryd.f30 0) (Env.lend (M30 ls) 0) (unV (live30 3) (p30_0.V x))).map (decL 0 (live30 3) (live30 1003)) = (b30_0 x).map (encR p30_0.V X30_0) := by
  obtain ⟨⟨x3, ⟨x4, _⟩⟩, ⟨⟨h0_1, _⟩, ⟨⟨h1_1, _⟩, ⟨h2, _⟩⟩⟩⟩ := x; kernel_rfl
theorem c30_0 (x : p30_0.T) : canV 0 (live30 3) (unV (live30 3) (p30_0.V x)) = p30_0.V x := by
  obtain ⟨⟨x3, ⟨x4, _⟩⟩, ⟨⟨h0_1, _⟩, ⟨⟨h1_1, _⟩, ⟨h2, _⟩⟩⟩⟩ := x; kernel_rfl
theorem l30_0 {T : p30_0.T → Tr (Bool × Bool × List Cell)} {ls : Nat → VS → Option (Tr (Ex × VS))} (hls : ∀ x, (Env.lend (M30 ls) 0).ls 3 x = p30_0.ls (fun a => (T a).map X30_0) x) (hS : ∀ x r, (T x).val = some r → Rounds b30_0 x r) : LoopOK (evI 2) (Env.lend (M30 ls) 0) (lc Tryd.f30 0) :=
  loopA 3 (live30 3) (live30 1003) p30_0 b30_0 X30_0 T (by kernel_rfl) rfl rfl hls (h30_0 ls) c30_0 hS
end Go.Proofs.YtmnbcnhpklejcaaDoor
namespace U
def blank (a : Int × Int × Int × Unit) : Cl := (ByteArray.empty, 1, (0, a.2.1, 0, ()), ())
def mendAt (i : Nat) (l : List Cl) : List Cl := if whole l i then l else l.set i (blank (l.getD i dC).2.2.1)
def mend (l : List Cl) : List Cl := (List.range' 0 l.length).foldl (fun l i => mendAt i l) l
theorem mendAt_len (i : Nat) (l : List Cl) : (mendAt i l).length = l.length := by unfold mendAt; split <;> simp
end U
namespace Go.Proofs.YtmnbcnhpklejcaaDoor
def T30 (x : p30_0.T) : Tr (Bool × Bool × List Cell) :=
  .ite (decide ((x.1.1 : Int) = (List.length (α := Cell) x.2.2.2.1 : Int) ∧ (x.1.2.1 : Int) = 0 ∧ List.length (α := Cell) x.2.2.2.1 ≤ 1048576))
    (.ret (x.2.1.1, x.2.2.1.1, U.mend x.2.2.2.1)) .fail
abbrev E30 : Env := M30 fun key x => bif Nat.beq key 3 then p30_0.ls (fun a => (T30 a).map X30_0) x else none
theorem L30 : LoopOK (evI 2) (E30.lend 0) (lc Tryd.f30 0) := by
  refine l30_0 (T := T30) (fun x => rfl) ?_
  rintro ⟨⟨n, i, z⟩, ⟨s, z0⟩, ⟨t, z1⟩, l, z2⟩ r h
  obtain ⟨g1, g2⟩ := pre_val h
  obtain ⟨e1, e2, e3⟩ := of_decide_eq_true g1
  dsimp only at e1 e2 e3 g2
  subst e1; subst e2
  cases g2
  refine Rounds.uptoA (B := b30_0) (σ := List Cell) (N := l.length) (fun i m => (((l.length : Int), (i : Int), ()), (s, ()), (t, ()), m, ())) U.mendAt (fun m => (s, t, m)) (fun _ m => m.length = l.length) (fun i m hi hv => ?_) (fun m hv => ?_) l.length 0 l (by omega) rfl
  · refine ⟨?_, by rw [U.mendAt_len]; exact hv⟩
    have hi' : i < m.length := by omega
    have h1 : (0 : Int) ≤ (i : Int) ∧ (i : Int) < (m.length : Int) ∧ m.length ≤ 1048576 := by omega
    unfold U.mendAt
    cases hw : U.whole m i with
    | true => simp only [b30_0, B30_0, Tr.val, hw, h1, inB_nat hi', Int.toNat_natCast, show ((i : Int) < (l.length : Int)) by omega, decide_true, cond_true, cond_false, Bool.not_true, wrap64_nat (show i ≤ 1048576 by omega), if_true, and_self]
    | false =>
      simp only [b30_0, B30_0, Tr.val, hw, h1, inB_nat hi', Int.toNat_natCast, show ((i : Int) < (l.length : Int)) by omega, decide_true, cond_true, cond_false, Bool.not_false, wrap64_nat (show i ≤ 1048576 by omega), Bool.false_eq_true, if_false, and_self]
      rfl
  · simp only [b30_0, B30_0, Tr.val, show ¬ ((l.length : Int) < (l.length : Int)) by omega, decide_false, cond_false]
def d30 (a1 : List Cell) (a2 : Bool) : Tr (List U.Cl × Bool) :=
  let v1 : Int := ((↑a1.length : Int))
  let v2 : Int := ((↑a1.length : Int))
  Tr.ite (decide (a1.length ≤ (1048576 : Nat))) (Tr.ite (decide (v2 = v1 ∧ (0 : Int) = (0 : Int) ∧ a1.length ≤ (1048576 : Nat))) (Tr.ret (U.mend a1, a2)) Tr.fail) Tr.fail
def e30 (r : List U.Cl × Bool) : FRes := { rs := Slot.av (AV.agg [Leaf.dat celk.sl r.fst, Leaf.dat Kd.bool r.snd]), upd := [], new := [] }
@[reducible] def a30 : List AK := [AK.d link]
@[reducible] def b30 : List BK := []
theorem t30 (a1 : List Cell) (a2 : Bool) : evFn (E30) Tryd.f30 [PM.data link] (akAV a30 ((a1, a2, ()), ())) (bkBs b30 ()) = (d30 a1 a2).map e30 := by kernel_rfl
def s30 (C : akT a30 → Bool) (G : akT a30 → List U.Cl × Bool) : FSpec := aspec a30 b30 e30 (fun x _ => C x) (fun x _ => G x)
theorem k30 {C : akT a30 → Bool} {G : akT a30 → List U.Cl × Bool} (hd : ∀ (a1 : List Cell) (a2 : Bool), C ((a1, a2, ()), ()) = true → (d30 a1 a2).val = some (G ((a1, a2, ()), ()))) (IO : ItOK Tryd.prog (E30) := by exact itOK_none rfl) (L : ∀ c, Tryd.f30.body = some c → LsOK (evI 2) ((E30).lend 0) c := by exact fun c _ => LsOK_none rfl c) : SpecOK Tryd.prog E0 30 (s30 C G) :=
  aspec_ok (ak := a30) (bl := b30) (e := e30) (c := fun x _ => C x) (g := fun x _ => G x) (E0 := E0) (E := E30) tab AG30 rfl rfl hm Tryd.func30 (by kernel_rfl) [PM.data link] (fun X Y H => by obtain ⟨⟨a1, ⟨a2, _⟩⟩, _⟩ := X; exact val_of (t30 a1 a2) (hd a1 a2 H)) IO L
abbrev w30 : FSpec := s30 (fun x => decide (List.length (α := Cell) x.1.1 ≤ 1048576)) fun x => (U.mend x.1.1, x.1.2.1)
theorem wk30 : SpecOK Tryd.prog E0 30 w30 := by
  refine k30 (fun l s H => ?_) (L := ls_ok (lcs := [lc Tryd.f30 0]) (rgs := []) (by kernel_rfl) (by kernel_rfl) L30 trivial)
  have hl : l.length ≤ 1048576 := of_decide_eq_true H
  show _ = some (U.mend l, s)
  simp only [d30, Tr.val, hl, decide_true, and_self, cond_true]
def live27 (key : Nat) : Lv :=
  bif Nat.beq key 3 then { ls := [2, 3, 15, 16, 17], wd := [⟨3, some 0, .row 48 celk⟩] } else bif Nat.beq key 1003 then { ls := [2, 3] } else
  { ls := [] }
abbrev M27 (ls : Nat → VS → Option (Tr (Ex × VS))) : Env := (E0.withFns []).loops live27 ls
@[reducible] def p27_0 : LP := { n := 37, sl := [.c (Leaf.ptr ( 0) ( 0)), .c (Leaf.ptr ( 1) ( 0)), .d (celk.sl), .d (.int .i64), .d (.int .i64)], bl := [(0, .box [.c (Leaf.nils), .d (Kd.bool)]), (1, .box [.c (Leaf.row ( 2)), .d (Kd.bool)]), (2, .row 48 (celk))] }
def B27_0 (x2 : List Cell) (x3 : Int) (x4 : Int) (h0_1 : Bool) (h1_1 : Bool) (h2 : List Cell) : Tr (p27_0.T ⊕ (Bool × Bool × List Cell)) :=
  let v1 : Int := ((↑(ByteArray.size (rget celk x2 x4).fst) : Int))
  let v2 : Int := (minI v1 (20 : Int))
  Tr.ite (decide (x4 < x3))
    (Tr.ite (inB x4 x2.length)
      (Tr.ite (decide ((0 : Int) ≤ v2 ∧ v2 ≤ v1))
        (Tr.ite (decide ((h2.length + (1 : Nat)) * (48 : Nat) ≤ (140737488355328 : Nat)))
          (Tr.ret (Sum.inl ((x2, x3, IntKind.i64.wrap (x4 + (1 : Int)), ()), (h0_1, ()), (h1_1, ()), h2 ++ [(ByteArray.extract (rget celk x2 x4).fst (0 : Nat) v2.toNat, (rget celk x2 x4).snd)], ())))
          Tr.fail)
        Tr.fail)
      Tr.fail)
    (Tr.ret (Sum.inr (h0_1, h1_1, h2)))
def X27_0 (r : (Bool × Bool × List Cell)) : Ex × VS := Prod.mk (Ex.exit ( 0)) { n := 37, v := [Slot.av (AV.one (Leaf.ptr ( 0) ( 0))), Slot.av (AV.one (Leaf.ptr ( 1) ( 0)))], h := [( 0, Blk.box [Leaf.nils, Leaf.dat Kd.bool r.fst]), ( 1, Blk.box [Leaf.row ( 2), Leaf.dat Kd.bool r.snd.fst]), ( 2, Blk.row ( 48) celk r.snd.snd)] }
def b27_0 : p27_0.T → Tr (p27_0.T ⊕ (Bool × Bool × List Cell)) := fun ⟨⟨x2, ⟨x3, ⟨x4, _⟩⟩⟩, ⟨⟨h0_1, _⟩, ⟨⟨h1_1, _⟩, ⟨h2, _⟩⟩⟩⟩ => B27_0 x2 x3 x4 h0_1 h1_1 h2
theorem h27_0 (ls : Nat → VS → Option (Tr (Ex × VS))) (x : p27_0.T) : (evC (evI 2) (lc Tryd.f27 0) (Env.lend (M27 ls) 0) (unV (live27 3) (p27_0.V x))).map (decL 0 (live27 3) (live27 1003)) = (b27_0 x).map (encR p27_0.V X27_0) := by
  obtain ⟨⟨x2, ⟨x3, ⟨x4, _⟩⟩⟩, ⟨⟨h0_1, _⟩, ⟨⟨h1_1, _⟩, ⟨h2, _⟩⟩⟩⟩ := x; kernel_rfl
theorem c27_0 (x : p27_0.T) : canV 0 (live27 3) (unV (live27 3) (p27_0.V x)) = p27_0.V x := by
  obtain ⟨⟨x2, ⟨x3, ⟨x4, _⟩⟩⟩, ⟨⟨h0_1, _⟩, ⟨⟨h1_1, _⟩, ⟨h2, _⟩⟩⟩⟩ := x; kernel_rfl
theorem l27_0 {T : p27_0.T → Tr (Bool × Bool × List Cell)} {ls : Nat → VS → Option (Tr (Ex × VS))} (hls : ∀ x, (Env.lend (M27 ls) 0).ls 3 x = p27_0.ls (fun a => (T a).map X27_0) x) (hS : ∀ x r, (T x).val = some r → Rounds b27_0 x r) : LoopOK (evI 2) (Env.lend (M27 ls) 0) (lc Tryd.f27 0) :=
  loopA 3 (live27 3) (live27 1003) p27_0 b27_0 X27_0 T (by kernel_rfl) rfl rfl hls (h27_0 ls) c27_0 hS
def T27 (x : p27_0.T) : Tr (Bool × Bool × List Cell) :=
  .ite (decide ((x.1.2.1 : Int) = (List.length (α := Cell) x.1.1 : Int) ∧ (x.1.2.2.1 : Int) = 0 ∧ List.length (α := Cell) x.2.2.2.1 + List.length (α := Cell) x.1.1 ≤ 1048576))
    (.ret (x.2.1.1, x.2.2.1.1, x.2.2.2.1 ++ List.map (α := Cell) (β := Cell) U.cutC x.1.1)) .fail
abbrev E27 : Env := M27 fun key x => bif Nat.beq key 3 then p27_0.ls (fun a => (T27 a).map X27_0) x else none
theorem L27 : LoopOK (evI 2) (E27.lend 0) (lc Tryd.f27 0) := by
  refine l27_0 (T := T27) (fun x => rfl) ?_
  rintro ⟨⟨l, n, i, z⟩, ⟨h0, z0⟩, ⟨h1, z1⟩, h2, z2⟩ r h
  obtain ⟨g1, g2⟩ := pre_val h
  obtain ⟨e1, e2, e3⟩ := of_decide_eq_true g1
  dsimp only at e1 e2 e3 g2
  subst e1; subst e2
  cases g2
  have := Rounds.fold0 (B := b27_0) (σ := List Cell) l (fun i s => ((l, (l.length : Int), (i : Int), ()), (h0, ()), (h1, ()), s, ())) (fun s c => s ++ [U.cutC c]) (fun s => (h0, h1, s)) (fun i s => s.length + (l.length - i) ≤ 1048576) h2 (by omega) (fun i s hi hv => ?_) (fun s hv => ?_)
  · have e : ∀ (l : List Cell) (a : List Cell), l.foldl (fun s c => s ++ [U.cutC c]) a = a ++ l.map U.cutC := by
      intro l
      induction l with
      | nil => intro a; simp
      | cons x l ih => intro a; rw [List.foldl_cons, ih]; simp
    rw [e] at this
    exact this
  · have e : rget celk l (i : Int) = l[i] := by rw [rgetC]; exact getD_el hi
    have e6 : minI (l[i].1.size : Int) 20 = ((min l[i].1.size 20 : Nat) : Int) := minI_nat _ 20
    have e7 : (0 : Int) ≤ ((min l[i].1.size 20 : Nat) : Int) ∧ ((min l[i].1.size 20 : Nat) : Int) ≤ (l[i].1.size : Int) := by omega
    have e8 : (s.length + 1) * 48 ≤ 140737488355328 := by omega
    refine ⟨?_, by simp only [List.length_append, List.length_singleton]; omega⟩
    simp only [b27_0, B27_0, Tr.val, e, e6, e7, e8, inB_nat hi, Int.toNat_natCast, List.length_singleton, show ((i : Int) < (l.length : Int)) by omega, and_self, decide_true, cond_true, wrap64_nat (show i ≤ 1048576 by omega)]
    rfl
  · simp only [b27_0, B27_0, Tr.val, show ¬ ((l.length : Int) < (l.length : Int)) by omega, decide_false, cond_false]
def d27 (a1 : List Cell) (a2 : Bool) : Tr (List Cell × Bool) :=
  let v1 : Int := ((↑a1.length : Int))
  let v2 : Int := (minI v1 (82 : Int))
  let v3 : List Cell := (sub a1 (0 : Nat) v2.toNat)
  let v4 : Int := ((↑v3.length : Int))
  let v5 : Int := ((↑v3.length : Int))
  Tr.ite (decide ((0 : Int) ≤ v2 ∧ v2 ≤ v1)) (Tr.ite (decide (v5 = v4 ∧ (0 : Int) = (0 : Int) ∧ (0 : Nat) + v3.length ≤ (1048576 : Nat))) (Tr.ret (List.map U.cutC v3, a2)) Tr.fail) Tr.fail
def e27 (r : List Cell × Bool) : FRes := { rs := Slot.av (AV.agg [Leaf.dat celk.sl r.fst, Leaf.dat Kd.bool r.snd]), upd := [], new := [] }
@[reducible] def a27 : List AK := [AK.d link]
@[reducible] def b27 : List BK := []
theorem t27 (a1 : List Cell) (a2 : Bool) : evFn (E27) Tryd.f27 [PM.data link] (akAV a27 ((a1, a2, ()), ())) (bkBs b27 ()) = (d27 a1 a2).map e27 := by kernel_rfl
def s27' (G : akT a27 → List Cell × Bool) : FSpec := aspec0 a27 b27 e27 (fun x _ => G x)
theorem k27' {G : akT a27 → List Cell × Bool} (hd : ∀ (a1 : List Cell) (a2 : Bool), (d27 a1 a2).val = some (G ((a1, a2, ()), ()))) (IO : ItOK Tryd.prog (E27) := by exact itOK_none rfl) (L : ∀ c, Tryd.f27.body = some c → LsOK (evI 2) ((E27).lend 0) c := by exact fun c _ => LsOK_none rfl c) : SpecOK Tryd.prog E0 27 (s27' G) :=
  aspec0_ok (ak := a27) (bl := b27) (e := e27) (g := fun x _ => G x) (E0 := E0) (E := E27) tab .nil rfl rfl hm Tryd.func27 (by kernel_rfl) [PM.data link] (fun X Y => by obtain ⟨⟨a1, ⟨a2, _⟩⟩, _⟩ := X; exact val_of (t27 a1 a2) (hd a1 a2)) IO L
abbrev w27 : FSpec := s27' fun x => (U.cutL x.1.1, x.1.2.1)
theorem wk27 : SpecOK Tryd.prog E0 27 w27 := by
  refine k27' (fun l s => ?_) (L := ls_ok (lcs := [lc Tryd.f27 0]) (rgs := []) (by kernel_rfl) (by kernel_rfl) L27 trivial)
  show _ = some (U.cutL l, s)
  have e6 : minI (l.length : Int) 82 = ((min l.length 82 : Nat) : Int) := minI_nat _ 82
  have e7 : (0 : Int) ≤ ((min l.length 82 : Nat) : Int) ∧ ((min l.length 82 : Nat) : Int) ≤ (l.length : Int) := by omega
  have e9 : sub l 0 (min l.length 82) = l.take 82 := by
    unfold sub
    rw [List.drop_zero]
    rcases Nat.le_total l.length 82 with h | h
    · rw [Nat.min_eq_left h, List.take_length, List.take_of_length_le h]
    · rw [Nat.min_eq_right h]
  have e10 : 0 + (l.take 82).length ≤ 1048576 := by rw [List.length_take]; omega
  simp only [d27, Tr.val, e6, e7, e9, e10, Int.toNat_natCast, List.length_nil, and_self, decide_true, cond_true, List.nil_append]
  rfl
def d179 (a : Int) (b : Int) : Tr (Int × Int) :=
  let v1 : Int := (b.fdiv (4294967296 : Int))
  let v2 : Int := (a.fdiv (4294967296 : Int))
  let v3 : Int := ((↑(BitVec.ofInt (64 : Nat) a &&& BitVec.ofInt (64 : Nat) (4294967295 : Int)).toNat : Int))
  let v4 : Int := ((↑(BitVec.ofInt (64 : Nat) b &&& BitVec.ofInt (64 : Nat) (4294967295 : Int)).toNat : Int))
  let v5 : Int := (v2 * IntKind.u64.wrap v4)
  let v6 : Int := (IntKind.u64.wrap v3 * IntKind.u64.wrap v4)
  let v7 : Int := ((IntKind.u64.wrap v6).fdiv (4294967296 : Int))
  let v8 : Int := (IntKind.u64.wrap v5 + v7)
  Tr.ite true
    (Tr.ite true
      (Tr.ite true
        (Tr.ite true
          (Tr.ite true
            (Tr.ret
              (IntKind.u64.wrap
                  (IntKind.u64.wrap (IntKind.u64.wrap (v2 * v1) + (IntKind.u64.wrap v8).fdiv (4294967296 : Int)) +
                    (IntKind.u64.wrap
                          (IntKind.u64.wrap (↑(BitVec.ofInt (64 : Nat) (IntKind.u64.wrap v8) &&& BitVec.ofInt (64 : Nat) (4294967295 : Int)).toNat : Int) +
                            IntKind.u64.wrap (IntKind.u64.wrap v3 * v1))).fdiv
                      (4294967296 : Int)),
                IntKind.u64.wrap (a * b)))
            Tr.fail)
          Tr.fail)
        Tr.fail)
      Tr.fail)
    Tr.fail
def e179 (r : Int × Int) : FRes := { rs := Slot.tup [AV.one (Leaf.dat (Kd.int IntKind.u64) r.fst), AV.one (Leaf.dat (Kd.int IntKind.u64) r.snd)], upd := [], new := [] }
@[reducible] def a179 : List AK := [AK.d (Kd.int IntKind.u64), AK.d (Kd.int IntKind.u64)]
@[reducible] def b179 : List BK := []
theorem t179 (a : Int) (b : Int) : evFn (E0) Tryd.f179 [PM.data (Kd.int IntKind.u64), PM.data (Kd.int IntKind.u64)] (akAV a179 (a, b, ())) (bkBs b179 ()) = (d179 a b).map e179 := by kernel_rfl
def s179 (C : akT a179 → Bool) (G : akT a179 → Int × Int) : FSpec := aspec a179 b179 e179 (fun x _ => C x) (fun x _ => G x)
theorem k179 {C : akT a179 → Bool} {G : akT a179 → Int × Int} (hd : ∀ (a : Int) (b : Int), C (a, b, ()) = true → (d179 a b).val = some (G (a, b, ()))) (IO : ItOK Tryd.prog (E0) := by exact itOK_none rfl) (L : ∀ c, Tryd.f179.body = some c → LsOK (evI 2) ((E0).lend 0) c := by exact fun c _ => LsOK_none rfl c) : SpecOK Tryd.prog E0 179 (s179 C G) :=
  aspec_ok (ak := a179) (bl := b179) (e := e179) (c := fun x _ => C x) (g := fun x _ => G x) (E0 := E0) (E := E0) tab .nil rfl rfl hm Tryd.func179 (by kernel_rfl) [PM.data (Kd.int IntKind.u64), PM.data (Kd.int IntKind.u64)] (fun X Y H => by obtain ⟨a, ⟨b, _⟩⟩ := X; exact val_of (t179 a b) (hd a b H)) IO L
abbrev w179 : FSpec := s179 (fun x => decide ((x.1 : Int) = 1 ∧ 0 ≤ (x.2.1 : Int) ∧ (x.2.1 : Int) < 128)) fun x => ((0 : Int), x.2.1)
theorem wk179 : SpecOK Tryd.prog E0 179 w179 := by
  refine k179 fun a b H => ?_
  obtain ⟨h1, h2, h3⟩ := of_decide_eq_true H
  dsimp only at h1 h2 h3
  subst h1
  obtain ⟨n, rfl⟩ := Int.eq_ofNat_of_zero_le h2
  have hn : n < 128 := Int.ofNat_lt.1 h3
  have : ∀ m : Fin 128, (d179 1 (m.val : Int)).val = some ((0 : Int), (m.val : Int)) := by decide +kernel
  exact this ⟨n, hn⟩
def d172 (a : Int) (b : Int) : Tr (Int × Int) :=
  Tr.ite (decide (a = (1 : Int) ∧ (0 : Int) ≤ b ∧ b < (128 : Int))) (Tr.ret ((0 : Int), b)) Tr.fail
def e172 (r : Int × Int) : FRes := { rs := Slot.tup [AV.one (Leaf.dat (Kd.int IntKind.u64) r.fst), AV.one (Leaf.dat (Kd.int IntKind.u64) r.snd)], upd := [], new := [] }
@[reducible] def a172 : List AK := [AK.d (Kd.int IntKind.u64), AK.d (Kd.int IntKind.u64)]
@[reducible] def b172 : List BK := []
theorem t172 (a : Int) (b : Int) : evFn (E0.withFns [((179 : Nat), w179)]) Tryd.f172 [PM.data (Kd.int IntKind.u64), PM.data (Kd.int IntKind.u64)] (akAV a172 (a, b, ())) (bkBs b172 ()) = (d172 a b).map e172 := by kernel_rfl
def s172 (C : akT a172 → Bool) (G : akT a172 → Int × Int) : FSpec := aspec a172 b172 e172 (fun x _ => C x) (fun x _ => G x)
theorem k172 {C : akT a172 → Bool} {G : akT a172 → Int × Int} (hd : ∀ (a : Int) (b : Int), C (a, b, ()) = true → (d172 a b).val = some (G (a, b, ()))) (IO : ItOK Tryd.prog (E0.withFns [((179 : Nat), w179)]) := by exact itOK_none rfl) (L : ∀ c, Tryd.f172.body = some c → LsOK (evI 2) ((E0.withFns [((179 : Nat), w179)]).lend 0) c := by exact fun c _ => LsOK_none rfl c) : SpecOK Tryd.prog E0 172 (s172 C G) :=
  aspec_ok (ak := a172) (bl := b172) (e := e172) (c := fun x _ => C x) (g := fun x _ => G x) (E0 := E0) (E := E0.withFns [((179 : Nat), w179)]) tab (.cons wk179 .nil) rfl rfl hm Tryd.func172 (by kernel_rfl) [PM.data (Kd.int IntKind.u64), PM.data (Kd.int IntKind.u64)] (fun X Y H => by obtain ⟨a, ⟨b, _⟩⟩ := X; exact val_of (t172 a b) (hd a b H)) IO L
abbrev w172 : FSpec := s172 (fun x => decide ((x.1 : Int) = 1 ∧ 0 ≤ (x.2.1 : Int) ∧ (x.2.1 : Int) < 128)) fun x => ((0 : Int), x.2.1)
theorem wk172 : SpecOK Tryd.prog E0 172 w172 := by
  refine k172 fun a b H => ?_
  obtain ⟨h1, h2, h3⟩ := of_decide_eq_true H
  dsimp only at h1 h2 h3
  simp only [d172, Tr.val, h1, h2, h3, and_self, decide_true, cond_true]
def d121 (a1 : List Cell) (a2 : Bool) (h0_0 : Int) (h0_1 : List Line) : Tr (Bool × Int × List Line) :=
  let v1 : Int := ((↑a1.length : Int))
  Tr.ite (U.okc a1) (Tr.ret (!(U.fitC a1 && decide (v1 = h0_0)), h0_0, h0_1)) Tr.fail
def e121 (r : Bool × Int × List Line) : FRes := { rs := Slot.av (AV.one (Leaf.dat Kd.bool r.fst)), upd := [Blk.box [Leaf.dat (.int .i64) r.snd.fst, Leaf.dat link.sl r.snd.snd]], new := [] }
@[reducible] def a121 : List AK := [AK.d link, AK.c (Leaf.ptr (0 : Nat) (0 : Nat))]
@[reducible] def b121 : List BK := [BK.box [SK.d (.int .i64), SK.d link.sl]]
theorem t121 (a1 : List Cell) (a2 : Bool) (h0_0 : Int) (h0_1 : List Line) : evFn (E0.withFns [((31 : Nat), w31)]) Tryd.f121 [PM.data Kd.bool] (akAV a121 ((a1, a2, ()), ())) (bkBs b121 ((h0_0, h0_1, ()), ())) = (d121 a1 a2 h0_0 h0_1).map e121 := by kernel_rfl
def s121 (C : akT a121 → bksT b121 → Bool) (G : akT a121 → bksT b121 → Bool × Int × List Line) : FSpec := aspec a121 b121 e121 (C) (G)
theorem k121 {C : akT a121 → bksT b121 → Bool} {G : akT a121 → bksT b121 → Bool × Int × List Line} (hd : ∀ (a1 : List Cell) (a2 : Bool) (h0_0 : Int) (h0_1 : List Line), C ((a1, a2, ()), ()) ((h0_0, h0_1, ()), ()) = true → (d121 a1 a2 h0_0 h0_1).val = some (G ((a1, a2, ()), ()) ((h0_0, h0_1, ()), ()))) (IO : ItOK Tryd.prog (E0.withFns [((31 : Nat), w31)]) := by exact itOK_none rfl) (L : ∀ c, Tryd.f121.body = some c → LsOK (evI 2) ((E0.withFns [((31 : Nat), w31)]).lend 1) c := by exact fun c _ => LsOK_none rfl c) : SpecOK Tryd.prog E0 121 (s121 C G) :=
  aspec_ok (ak := a121) (bl := b121) (e := e121) (c := C) (g := G) (E0 := E0) (E := E0.withFns [((31 : Nat), w31)]) tab (.cons wk31 .nil) rfl rfl hm Tryd.func121 (by kernel_rfl) [PM.data Kd.bool] (fun X Y H => by obtain ⟨⟨a1, ⟨a2, _⟩⟩, _⟩ := X; obtain ⟨⟨h0_0, ⟨h0_1, _⟩⟩, _⟩ := Y; exact val_of (t121 a1 a2 h0_0 h0_1) (hd a1 a2 h0_0 h0_1 H)) IO L
end Go.Proofs.YtmnbcnhpklejcaaDoor
namespace U
def misfit (n : Int) (y : Ln) : Bool := !(fitC y.1 && decide ((y.1.length : Int) = n))
end U
namespace Go.Proofs.YtmnbcnhpklejcaaDoor
abbrev w121 : FSpec := s121 (fun x _ => U.okc x.1.1) fun x y => (U.misfit y.1.1 x.1, y.1.1, y.1.2.1)
theorem wk121 : SpecOK Tryd.prog E0 121 w121 := by
  refine k121 fun l s n g H => ?_
  have H : U.okc l = true := H
  simp only [d121, Tr.val, H, cond_true]
  rfl
namespace GR
def live131 (key : Nat) : Lv :=
  bif Nat.beq key 2 then { ls := [0, 1, 7, 8] } else bif Nat.beq key 1002 then { ls := [4] } else
  { ls := [] }
abbrev M131 (ls : Nat → VS → Option (Tr (Ex × VS))) : Env := (E0.withFns [(121, w121)]).loops live131 ls
@[reducible] def p131_0 : LP := { n := 19, sl := [.d (link.sl), .c (Leaf.fn ( 121) [0]), .d (.int .i64), .d (.int .i64)], bl := [(0, .box [.d (.int .i64), .d (link.sl)])] }
def B131_0 (x0 : List Line) (x2 : Int) (x3 : Int) (h0_0 : Int) (h0_1 : List Line) : Tr (p131_0.T ⊕ (Int × Int × List Line ⊕ Int × List Line)) :=
  Tr.ite (decide (x3 < x2))
    (Tr.ite (inB x3 x0.length)
      (Tr.ite (U.okc (rget link x0 x3).fst)
        (Tr.ite (U.misfit h0_0 (rget link x0 x3)) (Tr.ret (Sum.inr (Sum.inl (x3, h0_0, h0_1)))) (Tr.ret (Sum.inl ((x0, x2, IntKind.i64.wrap (x3 + (1 : Int)), ()), (h0_0, h0_1, ()), ())))) Tr.fail)
      Tr.fail)
    (Tr.ret (Sum.inr (Sum.inr (h0_0, h0_1))))
def X131_0 : (Int × Int × List Line ⊕ Int × List Line) → Ex × VS
  | (.inl r) => Prod.mk Ex.ret { n := 19, v := [Slot.av (AV.one (Leaf.dat (.int .i64) r.fst))], h := [( 0, Blk.box [Leaf.dat (.int .i64) r.snd.fst, Leaf.dat link.sl r.snd.snd])] }
  | (.inr r) => Prod.mk (Ex.exit ( 0)) { n := 19, v := [Slot.av (AV.one Leaf.undef)], h := [( 0, Blk.box [Leaf.dat (.int .i64) r.fst, Leaf.dat link.sl r.snd])] }
def b131_0 : p131_0.T → Tr (p131_0.T ⊕ (Int × Int × List Line ⊕ Int × List Line)) := fun ⟨⟨x0, ⟨x2, ⟨x3, _⟩⟩⟩, ⟨⟨h0_0, ⟨h0_1, _⟩⟩, _⟩⟩ => B131_0 x0 x2 x3 h0_0 h0_1
theorem h131_0 (ls : Nat → VS → Option (Tr (Ex × VS))) (x : p131_0.T) : (evC (evI 2) (lc Tryd.f131 0) (Env.lend (M131 ls) 1) (unV (live131 2) (p131_0.V x))).map (decL 1 (live131 2) (live131 1002)) = (b131_0 x).map (encR p131_0.V X131_0) := by
  obtain ⟨⟨x0, ⟨x2, ⟨x3, _⟩⟩⟩, ⟨⟨h0_0, ⟨h0_1, _⟩⟩, _⟩⟩ := x; kernel_rfl
theorem c131_0 (x : p131_0.T) : canV 1 (live131 2) (unV (live131 2) (p131_0.V x)) = p131_0.V x := by
  obtain ⟨⟨x0, ⟨x2, ⟨x3, _⟩⟩⟩, ⟨⟨h0_0, ⟨h0_1, _⟩⟩, _⟩⟩ := x; kernel_rfl
theorem l131_0 {T : p131_0.T → Tr (Int × Int × List Line ⊕ Int × List Line)} {ls : Nat → VS → Option (Tr (Ex × VS))} (hls : ∀ x, (Env.lend (M131 ls) 1).ls 2 x = p131_0.ls (fun a => (T a).map X131_0) x) (hS : ∀ x r, (T x).val = some r → Rounds b131_0 x r) : LoopOK (evI 2) (Env.lend (M131 ls) 1) (lc Tryd.f131 0) :=
  loopA 2 (live131 2) (live131 1002) p131_0 b131_0 X131_0 T (by kernel_rfl) rfl rfl hls (h131_0 ls) c131_0 hS
def T131 (x : p131_0.T) : Tr (Int × Int × List Line ⊕ Int × List Line) :=
  .ite (decide ((x.1.2.1 : Int) = (List.length (α := Line) x.1.1 : Int) ∧ (x.1.2.2.1 : Int) = 0) && U.okl x.1.1)
    (.ite (findN (fun i => U.misfit x.2.1.1 (List.getD (α := Line) x.1.1 i U.dL)) (List.length (α := Line) x.1.1) 0).isSome (.ret (.inl ((((findN (fun i => U.misfit x.2.1.1 (List.getD (α := Line) x.1.1 i U.dL)) (List.length (α := Line) x.1.1) 0).getD 0 : Nat) : Int), x.2.1.1, x.2.1.2.1))) (.ret (.inr (x.2.1.1, x.2.1.2.1)))) .fail
abbrev E131 : Env := M131 fun key x => bif Nat.beq key 2 then p131_0.ls (fun a => (T131 a).map X131_0) x else none
theorem L131 : LoopOK (evI 2) (E131.lend 1) (lc Tryd.f131 0) := by
  refine l131_0 (T := T131) (fun x => rfl) ?_
  rintro ⟨⟨l, n, i, z⟩, ⟨c, g, z1⟩, z2⟩ r h
  obtain ⟨h1, h2⟩ := pre_val h
  rw [Bool.and_eq_true] at h1
  obtain ⟨h1, hok⟩ := h1
  obtain ⟨e1, e2⟩ := of_decide_eq_true h1
  dsimp only at e1 e2 hok h2
  subst e1
  subst e2
  have hl := U.okl_len hok
  have := Rounds.find (B := b131_0) (N := l.length) (fun i => ((l, (l.length : Int), (i : Int), ()), (c, g, ()), ())) (fun i => U.misfit c (l.getD i U.dL)) (fun i => .inl ((i : Int), c, g)) (.inr (c, g)) (fun i hi => ?_) ?_
  · cases hf : findN (fun i => U.misfit c (l.getD i U.dL)) l.length 0 <;> simp only [hf, Tr.val, Option.isSome_none, Option.isSome_some, Option.getD_some, cond_true, cond_false, outN] at h2 this <;> cases h2 <;> exact this
  · have h3 := U.okl_at hok hi
    simp only [b131_0, B131_0, Tr.val, inB_nat hi, rgetL, h3, show ((i : Int) < (l.length : Int)) by omega, decide_true, cond_true, wrap64_nat (show i ≤ 1048576 by omega)]
    cases U.misfit c (l.getD i U.dL) <;> rfl
  · simp only [b131_0, B131_0, Tr.val, show ¬ ((l.length : Int) < (l.length : Int)) by omega, decide_false, cond_false]
def d131 (a : List Line) (h0_0 : Int) (h0_1 : List Line) : Tr (Int × Int × List Line) :=
  let v1 : Int := ((↑a.length : Int))
  let v2 : Int := ((↑a.length : Int))
  Tr.ite (decide (v2 = v1 ∧ (0 : Int) = (0 : Int)) && U.okl a)
    (Tr.ite (findN (fun (i : Nat) => U.misfit h0_0 (a.getD i U.dL)) a.length (0 : Nat)).isSome
      (Tr.ret ((↑((findN (fun (i : Nat) => U.misfit h0_0 (a.getD i U.dL)) a.length (0 : Nat)).getD (0 : Nat)) : Int), h0_0, h0_1)) (Tr.ret ((-1 : Int), h0_0, h0_1)))
    Tr.fail
def e131 (r : Int × Int × List Line) : FRes := { rs := Slot.av (AV.one (Leaf.dat (.int .i64) r.fst)), upd := [Blk.box [Leaf.dat (.int .i64) r.snd.fst, Leaf.dat link.sl r.snd.snd]], new := [] }
@[reducible] def a131 : List AK := [AK.d link.sl, AK.c (Leaf.fn (121 : FuncId) [(0 : Nat)])]
@[reducible] def b131 : List BK := [BK.box [SK.d (.int .i64), SK.d link.sl]]
theorem t131 (a : List Line) (h0_0 : Int) (h0_1 : List Line) : evFn (E131) Tryd.f131 [PM.data (.int .i64)] (akAV a131 (a, ())) (bkBs b131 ((h0_0, h0_1, ()), ())) = (d131 a h0_0 h0_1).map e131 := by kernel_rfl
def s131 (C : akT a131 → bksT b131 → Bool) (G : akT a131 → bksT b131 → Int × Int × List Line) : FSpec := aspec a131 b131 e131 (C) (G)
theorem k131 {C : akT a131 → bksT b131 → Bool} {G : akT a131 → bksT b131 → Int × Int × List Line} (hd : ∀ (a : List Line) (h0_0 : Int) (h0_1 : List Line), C (a, ()) ((h0_0, h0_1, ()), ()) = true → (d131 a h0_0 h0_1).val = some (G (a, ()) ((h0_0, h0_1, ()), ()))) (IO : ItOK Tryd.prog (E131) := by exact itOK_none rfl) (L : ∀ c, Tryd.f131.body = some c → LsOK (evI 2) ((E131).lend 1) c := by exact fun c _ => LsOK_none rfl c) : SpecOK Tryd.prog E0 131 (s131 C G) :=
  aspec_ok (ak := a131) (bl := b131) (e := e131) (c := C) (g := G) (E0 := E0) (E := E131) tab (.cons wk121 .nil) rfl rfl hm Tryd.func131 (by kernel_rfl) [PM.data (.int .i64)] (fun X Y H => by obtain ⟨a, _⟩ := X; obtain ⟨⟨h0_0, ⟨h0_1, _⟩⟩, _⟩ := Y; exact val_of (t131 a h0_0 h0_1) (hd a h0_0 h0_1 H)) IO L
abbrev w131 : FSpec := s131 (fun x _ => U.okl x.1) fun x y => (optI' (findN (fun i => U.misfit y.1.1 (List.getD (α := Line) x.1 i U.dL)) (List.length (α := Line) x.1) 0), y.1.1, y.1.2.1)
theorem wk131 : SpecOK Tryd.prog E0 131 w131 := by
  refine k131 (fun l n g H => ?_) (L := ls_ok (lcs := [lc Tryd.f131 0]) (rgs := []) (by kernel_rfl) (by kernel_rfl) L131 trivial)
  have H : U.okl l = true := H
  simp only [d131, Tr.val, H, and_self, decide_true, Bool.and_self, cond_true]
  cases findN (fun i => U.misfit n (l.getD i U.dL)) l.length 0 <;> rfl
def d79 (a : List Line) (h0_0 : Int) (h0_1 : List Line) : Tr (Bool × Int × List Line) :=
  let v1 : Int := (optI' (findN (fun (i : Nat) => U.misfit h0_0 (a.getD i U.dL)) a.length (0 : Nat)))
  Tr.ite (U.okl a) (Tr.ret (decide ((0 : Int) ≤ v1), h0_0, h0_1)) Tr.fail
def e79 (r : Bool × Int × List Line) : FRes := { rs := Slot.av (AV.one (Leaf.dat Kd.bool r.fst)), upd := [Blk.box [Leaf.dat (.int .i64) r.snd.fst, Leaf.dat link.sl r.snd.snd]], new := [] }
@[reducible] def a79 : List AK := [AK.d link.sl, AK.c (Leaf.fn (121 : FuncId) [(0 : Nat)])]
@[reducible] def b79 : List BK := [BK.box [SK.d (.int .i64), SK.d link.sl]]
theorem t79 (a : List Line) (h0_0 : Int) (h0_1 : List Line) : evFn (E0.withFns [((131 : Nat), w131)]) Tryd.f79 [PM.data Kd.bool] (akAV a79 (a, ())) (bkBs b79 ((h0_0, h0_1, ()), ())) = (d79 a h0_0 h0_1).map e79 := by kernel_rfl
def s79 (C : akT a79 → bksT b79 → Bool) (G : akT a79 → bksT b79 → Bool × Int × List Line) : FSpec := aspec a79 b79 e79 (C) (G)
theorem k79 {C : akT a79 → bksT b79 → Bool} {G : akT a79 → bksT b79 → Bool × Int × List Line} (hd : ∀ (a : List Line) (h0_0 : Int) (h0_1 : List Line), C (a, ()) ((h0_0, h0_1, ()), ()) = true → (d79 a h0_0 h0_1).val = some (G (a, ()) ((h0_0, h0_1, ()), ()))) (IO : ItOK Tryd.prog (E0.withFns [((131 : Nat), w131)]) := by exact itOK_none rfl) (L : ∀ c, Tryd.f79.body = some c → LsOK (evI 2) ((E0.withFns [((131 : Nat), w131)]).lend 1) c := by exact fun c _ => LsOK_none rfl c) : SpecOK Tryd.prog E0 79 (s79 C G) :=
  aspec_ok (ak := a79) (bl := b79) (e := e79) (c := C) (g := G) (E0 := E0) (E := E0.withFns [((131 : Nat), w131)]) tab (.cons wk131 .nil) rfl rfl hm Tryd.func79 (by kernel_rfl) [PM.data Kd.bool] (fun X Y H => by obtain ⟨a, _⟩ := X; obtain ⟨⟨h0_0, ⟨h0_1, _⟩⟩, _⟩ := Y; exact val_of (t79 a h0_0 h0_1) (hd a h0_0 h0_1 H)) IO L
abbrev w79 : FSpec := s79 (fun x _ => U.okl x.1) fun x y => (List.any (α := Line) x.1 (U.misfit y.1.1), y.1.1, y.1.2.1)
theorem wk79 : SpecOK Tryd.prog E0 79 w79 := by
  refine k79 fun l n g H => ?_
  have H : U.okl l = true := H
  show _ = some (l.any (U.misfit n), n, g)
  rw [← find_any (U.misfit n) U.dL l]
  simp only [d79, Tr.val, H, cond_true]
  cases findN (fun i => U.misfit n (l.getD i U.dL)) l.length 0 <;> simp [optI']
end GR
abbrev G67 : List (Nat × FSpec) := [(93, w93), (79, GR.w79)]
theorem AG67 : AllFn Tryd.prog E0 G67 := .cons wk93 (.cons GR.wk79 .nil)
abbrev gridk : Kd := .pr (.int .i64) (.pr (.sl link) .un)
def d67 (a1 : Int) (a2 : List Line) : Tr (Bool) :=
  Tr.ite (U.inn a1 (1 : Int) (80 : Int)) (Tr.ite (U.inn (↑a2.length : Int) (1 : Int) (50 : Int)) (Tr.ite (U.okl a2) (Tr.ret !a2.any (U.misfit a1)) Tr.fail) (Tr.ret false)) (Tr.ret false)
def e67 (r : Bool) : FRes := { rs := Slot.av (AV.one (Leaf.dat Kd.bool r)), upd := [], new := [] }
@[reducible] def a67 : List AK := [AK.d gridk]
@[reducible] def b67 : List BK := []
theorem t67 (a1 : Int) (a2 : List Line) : evFn (E0.withFns G67) Tryd.f67 [PM.data Kd.bool] (akAV a67 ((a1, a2, ()), ())) (bkBs b67 ()) = (d67 a1 a2).map e67 := by kernel_rfl
def s67 (C : akT a67 → Bool) (G : akT a67 → Bool) : FSpec := aspec a67 b67 e67 (fun x _ => C x) (fun x _ => G x)
theorem k67 {C : akT a67 → Bool} {G : akT a67 → Bool} (hd : ∀ (a1 : Int) (a2 : List Line), C ((a1, a2, ()), ()) = true → (d67 a1 a2).val = some (G ((a1, a2, ()), ()))) (IO : ItOK Tryd.prog (E0.withFns G67) := by exact itOK_none rfl) (L : ∀ c, Tryd.f67.body = some c → LsOK (evI 2) ((E0.withFns G67).lend 0) c := by exact fun c _ => LsOK_none rfl c) : SpecOK Tryd.prog E0 67 (s67 C G) :=
  aspec_ok (ak := a67) (bl := b67) (e := e67) (c := fun x _ => C x) (g := fun x _ => G x) (E0 := E0) (E := E0.withFns G67) tab AG67 rfl rfl hm Tryd.func67 (by kernel_rfl) [PM.data Kd.bool] (fun X Y H => by obtain ⟨⟨a1, ⟨a2, _⟩⟩, _⟩ := X; exact val_of (t67 a1 a2) (hd a1 a2 H)) IO L
end Go.Proofs.YtmnbcnhpklejcaaDoor
namespace U
def gridR (c : Int) (l : List Ln) : Bool := inn c 1 80 && (inn (l.length : Int) 1 50 && !l.any (misfit c))
end U
namespace Go.Proofs.YtmnbcnhpklejcaaDoor
abbrev w67 : FSpec := s67 (fun x => U.okl x.1.2.1) fun x => U.gridR x.1.1 x.1.2.1
theorem wk67 : SpecOK Tryd.prog E0 67 w67 := by
  refine k67 fun c l H => ?_
  have H : U.okl l = true := H
  show _ = some (U.gridR c l)
  unfold U.gridR
  cases h1 : U.inn c 1 80 <;> cases h2 : U.inn (l.length : Int) 1 50 <;> simp only [d67, Tr.val, h1, h2, H, cond_true, cond_false, Bool.true_and, Bool.false_and]
def d90 (a1 : Int) (a2 : List Line) (b : Int) (c : Int) : Tr (Bool) :=
  Tr.ite (U.okl a2)
    (Tr.ite (U.gridR a1 a2) (Tr.ite (U.inn b (0 : Int) (IntKind.i64.wrap ((↑a2.length : Int) - (1 : Int)))) (Tr.ret (U.inn c (0 : Int) (IntKind.i64.wrap (a1 - (1 : Int))))) (Tr.ret false))
      (Tr.ret false))
    Tr.fail
def e90 (r : Bool) : FRes := { rs := Slot.av (AV.one (Leaf.dat Kd.bool r)), upd := [], new := [] }
@[reducible] def a90 : List AK := [AK.d gridk, AK.d (.int .i64), AK.d (.int .i64)]
@[reducible] def b90 : List BK := []
theorem t90 (a1 : Int) (a2 : List Line) (b : Int) (c : Int) : evFn (E0.withFns [((67 : Nat), w67), ((93 : Nat), w93)]) Tryd.f90 [PM.data Kd.bool] (akAV a90 ((a1, a2, ()), b, c, ())) (bkBs b90 ()) = (d90 a1 a2 b c).map e90 := by kernel_rfl
def s90 (C : akT a90 → Bool) (G : akT a90 → Bool) : FSpec := aspec a90 b90 e90 (fun x _ => C x) (fun x _ => G x)
theorem k90 {C : akT a90 → Bool} {G : akT a90 → Bool} (hd : ∀ (a1 : Int) (a2 : List Line) (b : Int) (c : Int), C ((a1, a2, ()), b, c, ()) = true → (d90 a1 a2 b c).val = some (G ((a1, a2, ()), b, c, ()))) (IO : ItOK Tryd.prog (E0.withFns [((67 : Nat), w67), ((93 : Nat), w93)]) := by exact itOK_none rfl) (L : ∀ c, Tryd.f90.body = some c → LsOK (evI 2) ((E0.withFns [((67 : Nat), w67), ((93 : Nat), w93)]).lend 0) c := by exact fun c _ => LsOK_none rfl c) : SpecOK Tryd.prog E0 90 (s90 C G) :=
  aspec_ok (ak := a90) (bl := b90) (e := e90) (c := fun x _ => C x) (g := fun x _ => G x) (E0 := E0) (E := E0.withFns [((67 : Nat), w67), ((93 : Nat), w93)]) tab (.cons wk67 (.cons wk93 .nil)) rfl rfl hm Tryd.func90 (by kernel_rfl) [PM.data Kd.bool] (fun X Y H => by obtain ⟨⟨a1, ⟨a2, _⟩⟩, ⟨b, ⟨c, _⟩⟩⟩ := X; exact val_of (t90 a1 a2 b c) (hd a1 a2 b c H)) IO L
end Go.Proofs.YtmnbcnhpklejcaaDoor
namespace U
def place (c : Int) (l : List Ln) (row col : Int) : Bool := gridR c l && (inn row 0 ((l.length : Int) - 1) && inn col 0 (c - 1))
theorem gridR_cols {c : Int} {l : List Ln} (h : gridR c l = true) : 1 ≤ c ∧ c ≤ 80 ∧ 1 ≤ l.length ∧ l.length ≤ 50 := by
  unfold gridR inn at h
  simp only [Bool.and_eq_true, decide_eq_true_eq] at h
  omega
end U
namespace Go.Proofs.YtmnbcnhpklejcaaDoor
abbrev w90 : FSpec := s90 (fun x => U.okl x.1.2.1) fun x => U.place x.1.1 x.1.2.1 x.2.1 x.2.2.1
theorem wk90 : SpecOK Tryd.prog E0 90 w90 := by
  refine k90 fun c l row col H => ?_
  have H : U.okl l = true := H
  show _ = some (U.place c l row col)
  unfold U.place
  cases h0 : U.gridR c l with
  | false => simp only [d90, Tr.val, H, h0, cond_true, cond_false, Bool.false_and]
  | true =>
    obtain ⟨a1, a2, a3, a4⟩ := U.gridR_cols h0
    have e1 : IntKind.i64.wrap ((l.length : Int) - 1) = (l.length : Int) - 1 := w64 (by omega) (by omega)
    have e2 : IntKind.i64.wrap (c - 1) = c - 1 := w64 (by omega) (by omega)
    cases h1 : U.inn row 0 ((l.length : Int) - 1) <;> cases h2 : U.inn col 0 (c - 1) <;> simp only [d90, Tr.val, h0, h1, h2, H, e1, e2, cond_true, cond_false, Bool.true_and, Bool.false_and, Bool.and_false]
def d92 (h0 : List Cell) (h1_0 : ByteArray) (h1_1 : Int) (h1_2 : Int) (h1_3 : Int) (h1_4 : Int) (h2_0 : Int) : Tr (List Cell × ByteArray × Int × Int × Int × Int × Int) :=
  let v1 : Int := (h2_0 + (1 : Int))
  let v2 : List Cell := (h0.set h2_0.toNat (h1_0, h1_1, (h1_2, h1_3, h1_4, ()), ()))
  Tr.ite (inB h2_0 h0.length)
    (Tr.ite (decide (h1_1 = (2 : Int)))
      (Tr.ite (inB (IntKind.i64.wrap v1) v2.length) (Tr.ret (v2.set (IntKind.i64.wrap v1).toNat (ByteArray.empty, (0 : Int), (h1_2, h1_3, h1_4, ()), ()), h1_0, h1_1, h1_2, h1_3, h1_4, h2_0)) Tr.fail)
      (Tr.ret (v2, h1_0, h1_1, h1_2, h1_3, h1_4, h2_0)))
    Tr.fail
def e92 (r : List Cell × ByteArray × Int × Int × Int × Int × Int) : FRes := { rs := Slot.tup [], upd := [Blk.row ( 48) celk r.fst, Blk.box [Leaf.dat Kd.str r.snd.fst, Leaf.dat (.int .i64) r.snd.snd.fst, Leaf.dat (.int .i64) r.snd.snd.snd.fst, Leaf.dat (.int .i64) r.snd.snd.snd.snd.fst, Leaf.dat (.int .i64) r.snd.snd.snd.snd.snd.fst], Blk.box [Leaf.dat (.int .i64) r.snd.snd.snd.snd.snd.snd]], new := [] }
@[reducible] def a92 : List AK := [AK.c (Leaf.row (0 : Nat)), AK.c (Leaf.ptr (1 : Nat) (0 : Nat)), AK.c (Leaf.ptr (2 : Nat) (0 : Nat))]
@[reducible] def b92 : List BK := [BK.row (48 : TypeId) celk, BK.box [SK.d Kd.str, SK.d (.int .i64), SK.d (.int .i64), SK.d (.int .i64), SK.d (.int .i64)], BK.box [SK.d (.int .i64)]]
theorem t92 (h0 : List Cell) (h1_0 : ByteArray) (h1_1 : Int) (h1_2 : Int) (h1_3 : Int) (h1_4 : Int) (h2_0 : Int) : evFn (E0) Tryd.f92 [] (akAV a92 ()) (bkBs b92 (h0, (h1_0, h1_1, h1_2, h1_3, h1_4, ()), (h2_0, ()), ())) = (d92 h0 h1_0 h1_1 h1_2 h1_3 h1_4 h2_0).map e92 := by kernel_rfl
def s92 (C : akT a92 → bksT b92 → Bool) (G : akT a92 → bksT b92 → List Cell × ByteArray × Int × Int × Int × Int × Int) : FSpec := aspec a92 b92 e92 (C) (G)
theorem k92 {C : akT a92 → bksT b92 → Bool} {G : akT a92 → bksT b92 → List Cell × ByteArray × Int × Int × Int × Int × Int} (hd : ∀ (h0 : List Cell) (h1_0 : ByteArray) (h1_1 : Int) (h1_2 : Int) (h1_3 : Int) (h1_4 : Int) (h2_0 : Int), C () (h0, (h1_0, h1_1, h1_2, h1_3, h1_4, ()), (h2_0, ()), ()) = true → (d92 h0 h1_0 h1_1 h1_2 h1_3 h1_4 h2_0).val = some (G () (h0, (h1_0, h1_1, h1_2, h1_3, h1_4, ()), (h2_0, ()), ()))) (IO : ItOK Tryd.prog (E0) := by exact itOK_none rfl) (L : ∀ c, Tryd.f92.body = some c → LsOK (evI 2) ((E0).lend 3) c := by exact fun c _ => LsOK_none rfl c) : SpecOK Tryd.prog E0 92 (s92 C G) :=
  aspec_ok (ak := a92) (bl := b92) (e := e92) (c := C) (g := G) (E0 := E0) (E := E0) tab .nil rfl rfl hm Tryd.func92 (by kernel_rfl) [] (fun X Y H => by obtain ⟨h0, ⟨⟨h1_0, ⟨h1_1, ⟨h1_2, ⟨h1_3, ⟨h1_4, _⟩⟩⟩⟩⟩, ⟨⟨h2_0, _⟩, _⟩⟩⟩ := Y; exact val_of (t92 h0 h1_0 h1_1 h1_2 h1_3 h1_4 h2_0) (hd h0 h1_0 h1_1 h1_2 h1_3 h1_4 h2_0 H)) IO L
end Go.Proofs.YtmnbcnhpklejcaaDoor
namespace U
def putC (l : List Cl) (i : Nat) (c : Cl) : List Cl := if c.2.1 = 2 then (l.set i c).set (i + 1) (ByteArray.empty, 0, c.2.2.1, ()) else l.set i c
def setL (ls : List Ln) (r : Nat) (f : List Cl → List Cl) : List Ln := ls.set r (mend (f (ls.getD r dL).1), (ls.getD r dL).2)
end U
namespace Go.Proofs.YtmnbcnhpklejcaaDoor
abbrev putOK (col : Int) (n : Nat) (w : Int) : Bool := decide (0 ≤ col ∧ col < (n : Int) ∧ (w = 2 → col + 1 < (n : Int)) ∧ n ≤ 1048576)
abbrev w92 : FSpec := s92 (fun _ y => putOK y.2.2.1.1 (List.length (α := Cell) y.1) y.2.1.2.1)
  fun _ y => (U.putC y.1 y.2.2.1.1.toNat (y.2.1.1, y.2.1.2.1, (y.2.1.2.2.1, y.2.1.2.2.2.1, y.2.1.2.2.2.2.1, ()), ()), y.2.1.1, y.2.1.2.1, y.2.1.2.2.1, y.2.1.2.2.2.1, y.2.1.2.2.2.2.1, y.2.2.1.1)
theorem wk92 : SpecOK Tryd.prog E0 92 w92 := by
  refine k92 fun l t w a b c col H => ?_
  obtain ⟨h1, h2, h3, h4⟩ := of_decide_eq_true H
  dsimp only at h1 h2 h3 h4
  obtain ⟨n, rfl⟩ := Int.eq_ofNat_of_zero_le h1
  have hn : n < l.length := Int.ofNat_lt.1 h2
  have w1 : IntKind.i64.wrap ((n : Int) + 1) = ((n + 1 : Nat) : Int) := wrap64_nat (by omega)
  show _ = some (U.putC l n (t, w, (a, b, c, ()), ()), t, w, a, b, c, (n : Int))
  unfold U.putC
  by_cases hw : w = 2
  · have i1 : inB ((n + 1 : Nat) : Int) (l.set n (t, w, (a, b, c, ()), ())).length = true := by rw [List.length_set]; exact inB_nat (by have := h3 hw; omega)
    simp only [d92, Tr.val, inB_nat hn, hw, w1, Int.toNat_natCast, decide_true, cond_true, if_true]
    subst hw
    rw [i1]
    rfl
  · simp only [d92, Tr.val, inB_nat hn, hw, decide_false, cond_true, cond_false, if_false]
    rfl
namespace P
abbrev G91 : List (Nat × FSpec) := [(97, w97), (86, w86), (92, w92), (30, w30)]
theorem AG91 : AllFn Tryd.prog E0 G91 := .cons wk97 (.cons wk86 (.cons wk92 (.cons wk30 .nil)))
def d91 (a1 : Int) (a2 : List Line) (b : Int) (h0_0 : ByteArray) (h0_1 : Int) (h0_2 : Int) (h0_3 : Int) (h0_4 : Int) (h1_0 : Int) : Tr (Int × List Line × Int × ByteArray × Int × Int × Int × Int × Int) :=
  let v1 : List U.Cl := (U.putC (a2.getD b.toNat link.dflt).fst h1_0.toNat (h0_0, h0_1, (h0_2, h0_3, h0_4, ()), ()))
  Tr.ite (decide (a2.length ≤ (1048576 : Nat)))
    (Tr.ite (inB b a2.length)
      (Tr.ite (decide (List.length (a2.getD b.toNat link.dflt).fst ≤ (1048576 : Nat)))
        (Tr.ite (putOK h1_0 (List.length (a2.getD b.toNat link.dflt).fst) h0_1)
          (Tr.ite (decide (v1.length ≤ (1048576 : Nat)))
            (Tr.ite (inB b a2.length) (Tr.ret (a1, a2.set b.toNat (U.mend v1, (a2.getD b.toNat link.dflt).snd), (0 : Int), h0_0, h0_1, h0_2, h0_3, h0_4, h1_0)) Tr.fail) Tr.fail)
          Tr.fail)
        Tr.fail)
      Tr.fail)
    Tr.fail
def e91 (r : Int × List Line × Int × ByteArray × Int × Int × Int × Int × Int) : FRes := { rs := Slot.tup [AV.agg [Leaf.dat (.int .i64) r.fst, Leaf.dat link.sl r.snd.fst], AV.one (Leaf.dat (.int .i64) r.snd.snd.fst)], upd := [Blk.box [Leaf.dat Kd.str r.snd.snd.snd.fst, Leaf.dat (.int .i64) r.snd.snd.snd.snd.fst, Leaf.dat (.int .i64) r.snd.snd.snd.snd.snd.fst, Leaf.dat (.int .i64) r.snd.snd.snd.snd.snd.snd.fst, Leaf.dat (.int .i64) r.snd.snd.snd.snd.snd.snd.snd.fst], Blk.box [Leaf.dat (.int .i64) r.snd.snd.snd.snd.snd.snd.snd.snd]], new := [] }
@[reducible] def a91 : List AK := [AK.d gridk, AK.d (.int .i64), AK.c (Leaf.fn (92 : FuncId) [(0 : Nat), (1 : Nat)])]
@[reducible] def b91 : List BK := [BK.box [SK.d Kd.str, SK.d (.int .i64), SK.d (.int .i64), SK.d (.int .i64), SK.d (.int .i64)], BK.box [SK.d (.int .i64)]]
theorem t91 (a1 : Int) (a2 : List Line) (b : Int) (h0_0 : ByteArray) (h0_1 : Int) (h0_2 : Int) (h0_3 : Int) (h0_4 : Int) (h1_0 : Int) : evFn (E0.withFns G91) Tryd.f91 [PM.data gridk, PM.data (.int .i64)] (akAV a91 ((a1, a2, ()), b, ())) (bkBs b91 ((h0_0, h0_1, h0_2, h0_3, h0_4, ()), (h1_0, ()), ())) = (d91 a1 a2 b h0_0 h0_1 h0_2 h0_3 h0_4 h1_0).map e91 := by kernel_rfl
def s91 (C : akT a91 → bksT b91 → Bool) (G : akT a91 → bksT b91 → Int × List Line × Int × ByteArray × Int × Int × Int × Int × Int) : FSpec := aspec a91 b91 e91 (C) (G)
theorem k91 {C : akT a91 → bksT b91 → Bool} {G : akT a91 → bksT b91 → Int × List Line × Int × ByteArray × Int × Int × Int × Int × Int} (hd : ∀ (a1 : Int) (a2 : List Line) (b : Int) (h0_0 : ByteArray) (h0_1 : Int) (h0_2 : Int) (h0_3 : Int) (h0_4 : Int) (h1_0 : Int), C ((a1, a2, ()), b, ()) ((h0_0, h0_1, h0_2, h0_3, h0_4, ()), (h1_0, ()), ()) = true → (d91 a1 a2 b h0_0 h0_1 h0_2 h0_3 h0_4 h1_0).val = some (G ((a1, a2, ()), b, ()) ((h0_0, h0_1, h0_2, h0_3, h0_4, ()), (h1_0, ()), ()))) (IO : ItOK Tryd.prog (E0.withFns G91) := by exact itOK_none rfl) (L : ∀ c, Tryd.f91.body = some c → LsOK (evI 2) ((E0.withFns G91).lend 2) c := by exact fun c _ => LsOK_none rfl c) : SpecOK Tryd.prog E0 91 (s91 C G) :=
  aspec_ok (ak := a91) (bl := b91) (e := e91) (c := C) (g := G) (E0 := E0) (E := E0.withFns G91) tab AG91 rfl rfl hm Tryd.func91 (by kernel_rfl) [PM.data gridk, PM.data (.int .i64)] (fun X Y H => by obtain ⟨⟨a1, ⟨a2, _⟩⟩, ⟨b, _⟩⟩ := X; obtain ⟨⟨h0_0, ⟨h0_1, ⟨h0_2, ⟨h0_3, ⟨h0_4, _⟩⟩⟩⟩⟩, ⟨⟨h1_0, _⟩, _⟩⟩ := Y; exact val_of (t91 a1 a2 b h0_0 h0_1 h0_2 h0_3 h0_4 h1_0) (hd a1 a2 b h0_0 h0_1 h0_2 h0_3 h0_4 h1_0 H)) IO L
abbrev w91 : FSpec := s91 (fun x y => decide (0 ≤ (x.2.1 : Int) ∧ (x.2.1 : Int) < (List.length (α := Line) x.1.2.1 : Int) ∧ List.length (α := Line) x.1.2.1 ≤ 1048576) && putOK y.2.1.1 (List.length (α := Cell) (List.getD (α := Line) x.1.2.1 x.2.1.toNat U.dL).1) y.1.2.1)
  fun x y => (x.1.1, U.setL x.1.2.1 x.2.1.toNat fun l => U.putC l y.2.1.1.toNat (y.1.1, y.1.2.1, (y.1.2.2.1, y.1.2.2.2.1, y.1.2.2.2.2.1, ()), ()), 0, y.1.1, y.1.2.1, y.1.2.2.1, y.1.2.2.2.1, y.1.2.2.2.2.1, y.2.1.1)
theorem wk91 : SpecOK Tryd.prog E0 91 w91 := by
  refine k91 fun n l row t w a b c col H => ?_
  have H : (decide (0 ≤ row ∧ row < (l.length : Int) ∧ l.length ≤ 1048576) && putOK col (l.getD row.toNat U.dL).1.length w) = true := H
  rw [Bool.and_eq_true] at H
  obtain ⟨H1, H2⟩ := H
  obtain ⟨h1, h2, h3⟩ := of_decide_eq_true H1
  obtain ⟨r, rfl⟩ := Int.eq_ofNat_of_zero_le h1
  have hr : r < l.length := Int.ofNat_lt.1 h2
  have g4 : (l.getD r U.dL).1.length ≤ 1048576 := (of_decide_eq_true H2).2.2.2
  have e0 : l.getD r link.dflt = l.getD r U.dL := rfl
  have e1 : ∀ (m : List U.Cl) c, (U.putC m col.toNat c).length = m.length := fun m c => by unfold U.putC; split <;> simp
  simp only [d91, Tr.val, Int.toNat_natCast, inB_nat hr, h3, e0, e1, g4, decide_true, cond_true] at H2 ⊢
  rw [H2]
  rfl
end P
def d33 (a1 : Int) (a2 : List Line) (b : Int) (c : Int) (y1 : ByteArray) (y2 : Int) (y31 : Int) (y32 : Int) (y33 : Int) : Tr (Int × List Line × Int) :=
  let v1 : Int := ((↑a2.length : Int))
  let v2 : List Cell := ((a2.getD b.toNat U.dL).fst)
  let v3 : Int := (a1 - (1 : Int))
  Tr.ite (U.okl a2)
    (Tr.ite (!U.place a1 a2 b c) (Tr.ret ((0 : Int), [], (1 : Int)))
      (Tr.ite (decide (y1.size ≤ (1048576 : Nat)))
        (Tr.ite (!U.cellR (y1, y2, (y31, y32, y33, ()), ())) (Tr.ret ((0 : Int), [], (1 : Int)))
          (Tr.ite (decide (y1 = { data := #[] })) (Tr.ret ((0 : Int), [], (1 : Int)))
            (Tr.ite (decide (y2 = (2 : Int)))
              (Tr.ite (decide (c = IntKind.i64.wrap v3)) (Tr.ret ((0 : Int), [], (9 : Int)))
                (Tr.ite (decide ((0 : Int) ≤ b ∧ b < v1 ∧ a2.length ≤ (1048576 : Nat)) && putOK c v2.length y2)
                  (Tr.ret (a1, U.setL a2 b.toNat fun (l : List U.Cl) => U.putC l c.toNat (y1, y2, (y31, y32, y33, ()), ()), (0 : Int))) Tr.fail))
              (Tr.ite (decide ((0 : Int) ≤ b ∧ b < v1 ∧ a2.length ≤ (1048576 : Nat)) && putOK c v2.length y2)
                (Tr.ret (a1, U.setL a2 b.toNat fun (l : List U.Cl) => U.putC l c.toNat (y1, y2, (y31, y32, y33, ()), ()), (0 : Int))) Tr.fail))))
        Tr.fail))
    Tr.fail
def e33 (r : Int × List Line × Int) : FRes := { rs := Slot.tup [AV.agg [Leaf.dat (.int .i64) r.fst, Leaf.dat link.sl r.snd.fst], AV.one (Leaf.dat (.int .i64) r.snd.snd)], upd := [], new := [] }
@[reducible] def a33 : List AK := [AK.d gridk, AK.d (.int .i64), AK.d (.int .i64), AK.d celk]
@[reducible] def b33 : List BK := []
theorem t33 (a1 : Int) (a2 : List Line) (b : Int) (c : Int) (y1 : ByteArray) (y2 : Int) (y31 : Int) (y32 : Int) (y33 : Int) : evFn (E0.withFns [((90 : Nat), w90), ((89 : Nat), w89), ((91 : Nat), P.w91)]) Tryd.f33 [PM.data gridk, PM.data (.int .i64)] (akAV a33 ((a1, a2, ()), b, c, (y1, y2, (y31, y32, y33, ()), ()), ())) (bkBs b33 ()) = (d33 a1 a2 b c y1 y2 y31 y32 y33).map e33 := by kernel_rfl
def s33 (C : akT a33 → Bool) (G : akT a33 → Int × List Line × Int) : FSpec := aspec a33 b33 e33 (fun x _ => C x) (fun x _ => G x)
theorem k33 {C : akT a33 → Bool} {G : akT a33 → Int × List Line × Int} (hd : ∀ (a1 : Int) (a2 : List Line) (b : Int) (c : Int) (y1 : ByteArray) (y2 : Int) (y31 : Int) (y32 : Int) (y33 : Int), C ((a1, a2, ()), b, c, (y1, y2, (y31, y32, y33, ()), ()), ()) = true → (d33 a1 a2 b c y1 y2 y31 y32 y33).val = some (G ((a1, a2, ()), b, c, (y1, y2, (y31, y32, y33, ()), ()), ()))) (IO : ItOK Tryd.prog (E0.withFns [((90 : Nat), w90), ((89 : Nat), w89), ((91 : Nat), P.w91)]) := by exact itOK_none rfl) (L : ∀ c, Tryd.f33.body = some c → LsOK (evI 2) ((E0.withFns [((90 : Nat), w90), ((89 : Nat), w89), ((91 : Nat), P.w91)]).lend 0) c := by exact fun c _ => LsOK_none rfl c) : SpecOK Tryd.prog E0 33 (s33 C G) :=
  aspec_ok (ak := a33) (bl := b33) (e := e33) (c := fun x _ => C x) (g := fun x _ => G x) (E0 := E0) (E := E0.withFns [((90 : Nat), w90), ((89 : Nat), w89), ((91 : Nat), P.w91)]) tab (.cons wk90 (.cons wk89 (.cons P.wk91 .nil))) rfl rfl hm Tryd.func33 (by kernel_rfl) [PM.data gridk, PM.data (.int .i64)] (fun X Y H => by obtain ⟨⟨a1, ⟨a2, _⟩⟩, ⟨b, ⟨c, ⟨⟨y1, ⟨y2, ⟨⟨y31, ⟨y32, ⟨y33, _⟩⟩⟩, _⟩⟩⟩, _⟩⟩⟩⟩ := X; exact val_of (t33 a1 a2 b c y1 y2 y31 y32 y33) (hd a1 a2 b c y1 y2 y31 y32 y33 H)) IO L
end Go.Proofs.YtmnbcnhpklejcaaDoor
namespace U
def rawPut (c : Int) (l : List Ln) (row col : Int) (x : Cl) : Int × List Ln × Int :=
  if place c l row col = true ∧ cellR x = true ∧ x.1.size ≠ 0 then
    if x.2.1 = 2 ∧ col = c - 1 then (0, [], 9) else (c, setL l row.toNat fun m => putC m col.toNat x, 0)
  else (0, [], 1)
theorem inn_iff {a b c : Int} : inn a b c = true ↔ b ≤ a ∧ a ≤ c := by unfold inn; simp [Bool.and_eq_true, decide_eq_true_eq]
theorem place_at {c : Int} {l : List Ln} {row col : Int} (h : place c l row col = true) : 0 ≤ row ∧ row < (l.length : Int) ∧ 0 ≤ col ∧ col < c ∧ ∀ y ∈ l, fitC y.1 = true ∧ (y.1.length : Int) = c := by
  unfold place gridR at h
  simp only [Bool.and_eq_true, inn_iff, Bool.not_eq_true', List.any_eq_false] at h
  obtain ⟨⟨_, _, h1⟩, h2, h3⟩ := h
  refine ⟨h2.1, by omega, h3.1, by omega, fun y hy => ?_⟩
  have := h1 y hy
  unfold misfit at this
  simpa using this
theorem getD_mem {l : List Ln} {i : Nat} (hi : i < l.length) : l.getD i dL ∈ l := by rw [getD_el hi]; exact List.getElem_mem hi
end U
namespace Go.Proofs.YtmnbcnhpklejcaaDoor
abbrev w33 : FSpec := s33 (fun x => U.okl x.1.2.1 && decide (ByteArray.size x.2.2.2.1.1 ≤ 1048576)) fun x => U.rawPut x.1.1 x.1.2.1 x.2.1 x.2.2.1 x.2.2.2.1
theorem wk33 : SpecOK Tryd.prog E0 33 w33 := by
  refine k33 fun c l row col t w a b d H => ?_
  have H : (U.okl l && decide (t.size ≤ 1048576)) = true := H
  rw [Bool.and_eq_true] at H
  obtain ⟨H1, H2⟩ := H
  have H2 := of_decide_eq_true H2
  show _ = some (U.rawPut c l row col (t, w, (a, b, d, ()), ()))
  unfold U.rawPut
  cases hp : U.place c l row col with
  | false => simp only [d33, Tr.val, H1, hp, cond_true, Bool.not_false, Bool.false_eq_true, false_and, if_false]
  | true =>
    cases hc : U.cellR (t, w, (a, b, d, ()), ()) with
    | false => simp only [d33, Tr.val, H1, H2, hp, hc, cond_true, cond_false, Bool.not_true, Bool.not_false, decide_true, Bool.false_eq_true, false_and, and_false, if_false]
    | true =>
      by_cases ht : t.size = 0
      · obtain rfl := ba_nil ht
        simp only [d33, Tr.val, H1, H2, hp, hc, cond_true, cond_false, Bool.not_true, decide_true]
        rw [if_neg (fun h => h.2.2 rfl)]
      · obtain ⟨p1, p2, p3, p4, p5⟩ := U.place_at hp
        obtain ⟨a1, a2, a3, a4⟩ := U.gridR_cols (c := c) (l := l) (by unfold U.place at hp; rw [Bool.and_eq_true] at hp; exact hp.1)
        have e2 : IntKind.i64.wrap (c - 1) = c - 1 := w64 (by omega) (by omega)
        have hr : row.toNat < l.length := by omega
        have hlen := (p5 _ (U.getD_mem hr)).2
        rw [if_pos ⟨rfl, rfl, ht⟩]
        by_cases hw : w = 2
        · by_cases hcc : col = c - 1
          · subst hw
            subst hcc
            simp only [d33, Tr.val, H1, H2, hp, hc, ba_ne ht, e2, decide_true, decide_false, cond_true, cond_false, Bool.not_true, and_self, if_true]
          · have hput : (decide (0 ≤ row ∧ row < (l.length : Int) ∧ l.length ≤ 1048576) && putOK col (l.getD row.toNat U.dL).1.length w) = true := by
              unfold putOK
              rw [Bool.and_eq_true, decide_eq_true_eq, decide_eq_true_eq]
              omega
            subst hw
            simp only [d33, Tr.val, H1, H2, hp, hc, ba_ne ht, e2, hcc, hput, decide_true, decide_false, cond_true, cond_false, Bool.not_true, and_false, if_false]
        · have hput : (decide (0 ≤ row ∧ row < (l.length : Int) ∧ l.length ≤ 1048576) && putOK col (l.getD row.toNat U.dL).1.length w) = true := by
            unfold putOK
            rw [Bool.and_eq_true, decide_eq_true_eq, decide_eq_true_eq]
            omega
          simp only [d33, Tr.val, H1, H2, hp, hc, ba_ne ht, hw, hput, decide_true, decide_false, cond_true, cond_false, Bool.not_true, false_and, if_false]
def live162 (key : Nat) : Lv :=
  bif Nat.beq key 8 then { ls := [7, 8] } else bif Nat.beq key 1008 then { ls := [7] } else
  bif Nat.beq key 8888 then { ls := [41, 44] } else
  { ls := [] }
abbrev M162 (ls : Nat → VS → Option (Tr (Ex × VS))) : Env := (E0.withFns [(172, w172)]).loops live162 ls
@[reducible] def p162_0 : LP := { n := 48, sl := [.c (Leaf.row ( 0)), .d (.int .i64)], bl := [(0, .row 48 (celk))] }
def B162_0 (x1 : Int) (h0 : List Cell) : Tr (p162_0.T ⊕ (List Cell)) :=
  let v1 : Int := ((↑h0.length : Int))
  let v2 : Int := (vwHi v1 none - vwLo (some x1))
  let v3 : Int := (vwHi v1 (some x1) - (0 : Int))
  let v4 : List Cell := (sub h0 (0 : Nat) ((0 : Nat) + v3.toNat))
  Tr.ite (decide (x1 < v1))
    (Tr.ite (vwOK v1 (some x1) none)
      (Tr.ite (vwOK v1 none (some x1)) (Tr.ret (Sum.inl ((IntKind.i64.wrap (x1 + (↑(v4.length.min v2.toNat) : Int)), ()), putAt h0 (vwLo (some x1)).toNat (List.take v2.toNat v4), ()))) Tr.fail) Tr.fail)
    (Tr.ret (Sum.inr h0))
def X162_0 (r : (List Cell)) : Ex × VS := Prod.mk (Ex.exit ( 0)) { n := 48, v := [Slot.av (AV.one (Leaf.row ( 0)))], h := [( 0, Blk.row ( 48) celk r)] }
def b162_0 : p162_0.T → Tr (p162_0.T ⊕ (List Cell)) := fun ⟨⟨x1, _⟩, ⟨h0, _⟩⟩ => B162_0 x1 h0
theorem h162_0 (ls : Nat → VS → Option (Tr (Ex × VS))) (x : p162_0.T) : (evC (evI 2) (lc Tryd.f162 0) (Env.lend (M162 ls) 0) (unV (live162 8) (p162_0.V x))).map (decL 0 (live162 8) (live162 1008)) = (b162_0 x).map (encR p162_0.V X162_0) := by
  obtain ⟨⟨x1, _⟩, ⟨h0, _⟩⟩ := x; kernel_rfl
theorem c162_0 (x : p162_0.T) : canV 0 (live162 8) (unV (live162 8) (p162_0.V x)) = p162_0.V x := by
  obtain ⟨⟨x1, _⟩, ⟨h0, _⟩⟩ := x; kernel_rfl
theorem l162_0 {T : p162_0.T → Tr (List Cell)} {ls : Nat → VS → Option (Tr (Ex × VS))} (hls : ∀ x, (Env.lend (M162 ls) 0).ls 8 x = p162_0.ls (fun a => (T a).map X162_0) x) (hS : ∀ x r, (T x).val = some r → Rounds b162_0 x r) : LoopOK (evI 2) (Env.lend (M162 ls) 0) (lc Tryd.f162 0) :=
  loopA 8 (live162 8) (live162 1008) p162_0 b162_0 X162_0 T (by kernel_rfl) rfl rfl hls (h162_0 ls) c162_0 hS
def T162 (x : p162_0.T) : Tr (List Cell) :=
  .ite (decide ((x.1.1 : Int) = 1 ∧ 1 ≤ List.length (α := Cell) x.2.1 ∧ List.length (α := Cell) x.2.1 ≤ 1048576)) (.ret (List.replicate (List.length (α := Cell) x.2.1) (List.getD (α := Cell) x.2.1 0 U.dC))) .fail
abbrev E162 : Env := M162 fun key x => bif Nat.beq key 8 then p162_0.ls (fun a => (T162 a).map X162_0) x else none
theorem rep162 (c : Cell) (N : Nat) (hN : N ≤ 1048576) : ∀ (k n : Nat) (h : List Cell), N - n ≤ k → 1 ≤ n → n ≤ N → h.length = N → h.take n = List.replicate n c → Rounds b162_0 (((n : Int), ()), h, ()) (List.replicate N c) := by
  intro k
  induction k with
  | zero =>
    intro n h h1 h2 h3 h4 h5
    have : n = N := by omega
    subst this
    rw [← h5, List.take_of_length_le (by omega)]
    refine .exit ?_
    simp only [b162_0, B162_0, Tr.val, h4, show ¬ ((n : Int) < (n : Int)) by omega, decide_false, cond_false]
  | succ k ih =>
    intro n h h1 h2 h3 h4 h5
    by_cases hn : n = N
    · exact ih n h (by omega) h2 h3 h4 h5
    · have e1 : vwHi (N : Int) none - vwLo (some (n : Int)) = ((N - n : Nat) : Int) := by simp only [vwHi, vwLo]; omega
      have e2 : vwOK (N : Int) (some (n : Int)) none = true := by
        show decide (0 ≤ (n : Int) ∧ (n : Int) ≤ (N : Int) ∧ (N : Int) ≤ (N : Int)) = true
        exact decide_eq_true (by omega)
      have e3 : vwOK (N : Int) none (some (n : Int)) = true := by
        show decide ((0 : Int) ≤ 0 ∧ (0 : Int) ≤ (n : Int) ∧ (n : Int) ≤ (N : Int)) = true
        exact decide_eq_true (by omega)
      have e4 : vwHi (N : Int) (some (n : Int)) - 0 = (n : Int) := by simp only [vwHi]; omega
      have e5 : sub h 0 (0 + n) = List.replicate n c := by unfold sub; rw [Nat.zero_add, List.drop_zero, h5]
      obtain ⟨m, hm, m1, m2, m3⟩ : ∃ m, n.min (N - n) = m ∧ m ≤ n ∧ m ≤ N - n ∧ 1 ≤ m := ⟨_, rfl, Nat.min_le_left _ _, Nat.min_le_right _ _, by
        have : n.min (N - n) = min n (N - n) := rfl
        omega⟩
      have e6 : IntKind.i64.wrap ((n : Int) + (m : Int)) = ((n + m : Nat) : Int) := by
        rw [w64 (by omega) (by omega)]
        omega
      have e7 : List.take (N - n) (List.replicate n c) = List.replicate m c := by
        rw [List.take_replicate, ← hm]
        congr 1
        exact Nat.min_comm _ _
      refine .step (y := ((((n + m : Nat) : Int), ()), putAt h n (List.replicate m c), ())) ?_ (ih (n + m) _ (by omega) (by omega) (by omega) ?_ ?_)
      · simp only [b162_0, B162_0, Tr.val, h4, show ((n : Int) < (N : Int)) by omega, e1, e2, e3, e4, e5, Int.toNat_natCast, List.length_replicate, hm, e6, e7, decide_true, cond_true]
        rfl
      · simp only [putAt, List.length_append, List.length_take, List.length_drop, List.length_replicate]
        omega
      · unfold putAt
        rw [h5, ← List.append_assoc, List.replicate_append_replicate, List.take_left' (by rw [List.length_replicate])]
theorem L162 : LoopOK (evI 2) (E162.lend 0) (lc Tryd.f162 0) := by
  refine l162_0 (T := T162) (fun x => rfl) ?_
  rintro ⟨⟨n, z⟩, h, z2⟩ r hh
  obtain ⟨g1, g2⟩ := pre_val hh
  obtain ⟨e1, e2, e3⟩ := of_decide_eq_true g1
  dsimp only at e1 e2 e3 g2
  subst e1
  cases g2
  refine rep162 (h.getD 0 U.dC) h.length e3 h.length 1 h (by omega) (by omega) e2 rfl ?_
  cases h with
  | nil => simp at e2
  | cons x h => rfl
def d162 (a : List Cell) (b : Int) : Tr (List Cell) :=
  let v1 : Int := ((↑a.length : Int))
  let v2 : List Cell := (List.replicate (IntKind.i64.wrap (IntKind.u64.wrap b)).toNat (ByteArray.empty, (0 : Int), ((0 : Int), (0 : Int), (0 : Int), ()), ()))
  let v3 : List Cell := (List.take v2.length a)
  let v4 : List Cell := (putAt v2 (0 : Nat) v3)
  let v5 : Int := ((↑(a.length.min v2.length) : Int))
  Tr.ite (decide (b < (0 : Int))) Tr.fail
    (Tr.ite (decide (IntKind.u64.wrap v1 = (1 : Int) ∧ (0 : Int) ≤ IntKind.u64.wrap b ∧ IntKind.u64.wrap b < (128 : Int)))
      (Tr.ite false Tr.fail
        (Tr.ite (decide ((9223372036854775807 : Int) < IntKind.u64.wrap b)) Tr.fail
          (Tr.ite
            (decide
              ((0 : Int) ≤ IntKind.i64.wrap (IntKind.u64.wrap b) ∧
                IntKind.i64.wrap (IntKind.u64.wrap b) ≤ IntKind.i64.wrap (IntKind.u64.wrap b) ∧ (IntKind.i64.wrap (IntKind.u64.wrap b)).toNat * (48 : Nat) ≤ (140737488355328 : Nat)))
            (Tr.ite (decide (v5 = (1 : Int) ∧ (1 : Nat) ≤ v4.length ∧ v4.length ≤ (1048576 : Nat))) (Tr.ret (List.replicate v4.length (v4.getD (0 : Nat) U.dC))) Tr.fail) Tr.fail)))
      Tr.fail)
def e162 (r : List Cell) : FRes := { rs := Slot.av (AV.one (Leaf.dat celk.sl r)), upd := [], new := [] }
@[reducible] def a162 : List AK := [AK.d celk.sl, AK.d (.int .i64)]
@[reducible] def b162 : List BK := []
theorem t162 (a : List Cell) (b : Int) : evFn (E162) Tryd.f162 [PM.data celk.sl] (akAV a162 (a, b, ())) (bkBs b162 ()) = (d162 a b).map e162 := by kernel_rfl
def s162 (C : akT a162 → Bool) (G : akT a162 → List Cell) : FSpec := aspec a162 b162 e162 (fun x _ => C x) (fun x _ => G x)
theorem k162 {C : akT a162 → Bool} {G : akT a162 → List Cell} (hd : ∀ (a : List Cell) (b : Int), C (a, b, ()) = true → (d162 a b).val = some (G (a, b, ()))) (IO : ItOK Tryd.prog (E162) := by exact itOK_none rfl) (L : ∀ c, Tryd.f162.body = some c → LsOK (evI 2) ((E162).lend 0) c := by exact fun c _ => LsOK_none rfl c) : SpecOK Tryd.prog E0 162 (s162 C G) :=
  aspec_ok (ak := a162) (bl := b162) (e := e162) (c := fun x _ => C x) (g := fun x _ => G x) (E0 := E0) (E := E162) tab (.cons wk172 .nil) rfl rfl hm Tryd.func162 (by kernel_rfl) [PM.data celk.sl] (fun X Y H => by obtain ⟨a, ⟨b, _⟩⟩ := X; exact val_of (t162 a b) (hd a b H)) IO L
abbrev w162 : FSpec := s162 (fun x => decide (List.length (α := Cell) x.1 = 1 ∧ 1 ≤ (x.2.1 : Int) ∧ (x.2.1 : Int) < 128)) fun x => List.replicate x.2.1.toNat (List.getD (α := Cell) x.1 0 U.dC)
theorem wk162 : SpecOK Tryd.prog E0 162 w162 := by
  refine k162 (fun l n H => ?_) (L := ls_ok (lcs := [lc Tryd.f162 0]) (rgs := []) (by kernel_rfl) (by kernel_rfl) L162 trivial)
  have H : (l.length = 1 ∧ (1 : Int) ≤ n ∧ (n : Int) < 128) := of_decide_eq_true H
  obtain ⟨h1, h2, h3⟩ := H
  obtain ⟨m, rfl⟩ := Int.eq_ofNat_of_zero_le (a := n) (Int.le_trans (by decide) h2)
  have h4 : 1 ≤ m ∧ m < 128 := by omega
  have u1 : IntKind.u64.wrap (m : Int) = (m : Int) := by simp [IntKind.wrap, IntKind.signed, IntKind.bits]; omega
  have u2 : IntKind.i64.wrap (m : Int) = (m : Int) := w64 (by omega) (by omega)
  have u3 : IntKind.u64.wrap 1 = 1 := by decide
  match l, h1 with
  | [x], _ =>
    have e1 : List.take m [x] = [x] := List.take_of_length_le (by simp; omega)
    show _ = some (List.replicate m x)
    have e2 : Nat.min 1 m = 1 := Nat.min_eq_left h4.1
    have e3 : (putAt (List.replicate m ((ByteArray.empty, (0 : Int), ((0 : Int), (0 : Int), (0 : Int), ()), ()) : Cell)) 0 [x]).length = m := by
      simp only [putAt, List.length_append, List.length_take, List.length_drop, List.length_replicate, List.length_cons, List.length_nil]
      omega
    have e4 : ∀ (q : List Cell), (putAt q 0 [x]).getD 0 U.dC = x := fun q => rfl
    have a1 : (0 : Int) ≤ (m : Int) := by omega
    have a2 : (m : Int) < 128 := by omega
    have a3 : (m : Int) ≤ (m : Int) := by omega
    have a4 : m * 48 ≤ 140737488355328 := by omega
    have a5 : 1 ≤ m := by omega
    have a6 : m ≤ 1048576 := by omega
    simp only [d162, Tr.val, u1, u2, Int.toNat_natCast, List.length_replicate, List.length_cons, List.length_nil, Nat.zero_add, e1, e2, e4, show ((1 : Nat) : Int) = 1 from rfl, u3, show ¬ ((m : Int) < 0) by omega, show ¬ ((9223372036854775807 : Int) < (m : Int)) by omega, decide_true, decide_false, cond_true, cond_false]
    simp only [e3, a1, a2, a3, a4, a5, a6, and_self, true_and, decide_true, cond_true]
def d150 (a : Int) (b1 : Int) (b2 : Int) (b3 : Int) : Tr (List Cell × Bool) :=
  Tr.ite (decide ((1 : Nat) = (1 : Nat) ∧ (1 : Int) ≤ a ∧ a < (128 : Int)))
    (Tr.ret (List.replicate a.toNat ([(ByteArray.empty, (1 : Int), ((0 : Int), b2, (0 : Int), ()), ())].getD (0 : Nat) U.dC), false)) Tr.fail
def e150 (r : List Cell × Bool) : FRes := { rs := Slot.av (AV.agg [Leaf.dat celk.sl r.fst, Leaf.dat Kd.bool r.snd]), upd := [], new := [] }
@[reducible] def a150 : List AK := [AK.d (.int .i64), AK.d attk]
@[reducible] def b150 : List BK := []
theorem t150 (a : Int) (b1 : Int) (b2 : Int) (b3 : Int) : evFn (E0.withFns [((88 : Nat), w88), ((162 : Nat), w162)]) Tryd.f150 [PM.data link] (akAV a150 (a, (b1, b2, b3, ()), ())) (bkBs b150 ()) = (d150 a b1 b2 b3).map e150 := by kernel_rfl
def s150 (C : akT a150 → Bool) (G : akT a150 → List Cell × Bool) : FSpec := aspec a150 b150 e150 (fun x _ => C x) (fun x _ => G x)
theorem k150 {C : akT a150 → Bool} {G : akT a150 → List Cell × Bool} (hd : ∀ (a : Int) (b1 : Int) (b2 : Int) (b3 : Int), C (a, (b1, b2, b3, ()), ()) = true → (d150 a b1 b2 b3).val = some (G (a, (b1, b2, b3, ()), ()))) (IO : ItOK Tryd.prog (E0.withFns [((88 : Nat), w88), ((162 : Nat), w162)]) := by exact itOK_none rfl) (L : ∀ c, Tryd.f150.body = some c → LsOK (evI 2) ((E0.withFns [((88 : Nat), w88), ((162 : Nat), w162)]).lend 0) c := by exact fun c _ => LsOK_none rfl c) : SpecOK Tryd.prog E0 150 (s150 C G) :=
  aspec_ok (ak := a150) (bl := b150) (e := e150) (c := fun x _ => C x) (g := fun x _ => G x) (E0 := E0) (E := E0.withFns [((88 : Nat), w88), ((162 : Nat), w162)]) tab (.cons wk88 (.cons wk162 .nil)) rfl rfl hm Tryd.func150 (by kernel_rfl) [PM.data link] (fun X Y H => by obtain ⟨a, ⟨⟨b1, ⟨b2, ⟨b3, _⟩⟩⟩, _⟩⟩ := X; exact val_of (t150 a b1 b2 b3) (hd a b1 b2 b3 H)) IO L
abbrev w150 : FSpec := s150 (fun x => decide (1 ≤ (x.1 : Int) ∧ (x.1 : Int) < 128)) fun x => (List.replicate x.1.toNat (U.blank x.2.1), false)
theorem wk150 : SpecOK Tryd.prog E0 150 w150 := by
  refine k150 fun n a b c H => ?_
  have H : (1 : Int) ≤ n ∧ (n : Int) < 128 := of_decide_eq_true H
  simp only [d150, Tr.val, H, and_self, decide_true, cond_true]
  rfl
def live117 (key : Nat) : Lv :=
  bif Nat.beq key 3 then { ls := [0, 5, 7, 8, 9], wd := [⟨7, none, .row 34 link⟩] } else bif Nat.beq key 1003 then { ls := [7] } else
  { ls := [] }
abbrev M117 (ls : Nat → VS → Option (Tr (Ex × VS))) : Env := (E0.withFns [(150, w150)]).loops live117 ls
@[reducible] def p117_0 : LP := { n := 19, sl := [.d (.int .i64), .c (Leaf.ptr ( 0) ( 0)), .c (Leaf.row ( 1)), .d (.int .i64), .d (.int .i64)], bl := [(0, .box [.d (.int .i64), .d (.int .i64), .d (.int .i64)]), (1, .row 34 (link))] }
def B117_0 (x0 : Int) (x3 : Int) (x4 : Int) (h0_0 : Int) (h0_1 : Int) (h0_2 : Int) (h1 : List Line) : Tr (p117_0.T ⊕ (List Line)) :=
  Tr.ite (decide (x4 < x3))
    (Tr.ite (decide ((1 : Int) ≤ x0 ∧ x0 < (128 : Int)))
      (Tr.ite (decide ((h1.length + (1 : Nat)) * (32 : Nat) ≤ (140737488355328 : Nat)))
        (Tr.ret (Sum.inl ((x0, x3, IntKind.i64.wrap (x4 + (1 : Int)), ()), (h0_0, h0_1, h0_2, ()), h1 ++ [(List.replicate x0.toNat (U.blank (h0_0, h0_1, h0_2, ())), false, ())], ()))) Tr.fail)
      Tr.fail)
    (Tr.ret (Sum.inr h1))
def X117_0 (r : (List Line)) : Ex × VS := Prod.mk (Ex.exit ( 0)) { n := 19, v := [Slot.av (AV.one (Leaf.row ( 0)))], h := [( 0, Blk.row ( 34) link r)] }
def b117_0 : p117_0.T → Tr (p117_0.T ⊕ (List Line)) := fun ⟨⟨x0, ⟨x3, ⟨x4, _⟩⟩⟩, ⟨⟨h0_0, ⟨h0_1, ⟨h0_2, _⟩⟩⟩, ⟨h1, _⟩⟩⟩ => B117_0 x0 x3 x4 h0_0 h0_1 h0_2 h1
theorem h117_0 (ls : Nat → VS → Option (Tr (Ex × VS))) (x : p117_0.T) : (evC (evI 2) (lc Tryd.f117 0) (Env.lend (M117 ls) 0) (unV (live117 3) (p117_0.V x))).map (decL 0 (live117 3) (live117 1003)) = (b117_0 x).map (encR p117_0.V X117_0) := by
  obtain ⟨⟨x0, ⟨x3, ⟨x4, _⟩⟩⟩, ⟨⟨h0_0, ⟨h0_1, ⟨h0_2, _⟩⟩⟩, ⟨h1, _⟩⟩⟩ := x; kernel_rfl
theorem c117_0 (x : p117_0.T) : canV 0 (live117 3) (unV (live117 3) (p117_0.V x)) = p117_0.V x := by
  obtain ⟨⟨x0, ⟨x3, ⟨x4, _⟩⟩⟩, ⟨⟨h0_0, ⟨h0_1, ⟨h0_2, _⟩⟩⟩, ⟨h1, _⟩⟩⟩ := x; kernel_rfl
theorem l117_0 {T : p117_0.T → Tr (List Line)} {ls : Nat → VS → Option (Tr (Ex × VS))} (hls : ∀ x, (Env.lend (M117 ls) 0).ls 3 x = p117_0.ls (fun a => (T a).map X117_0) x) (hS : ∀ x r, (T x).val = some r → Rounds b117_0 x r) : LoopOK (evI 2) (Env.lend (M117 ls) 0) (lc Tryd.f117 0) :=
  loopA 3 (live117 3) (live117 1003) p117_0 b117_0 X117_0 T (by kernel_rfl) rfl rfl hls (h117_0 ls) c117_0 hS
theorem fold_rep {α : Type} (c : α) : ∀ (k i : Nat) (a : List α), (List.range' i k).foldl (fun s _ => s ++ [c]) a = a ++ List.replicate k c
  | 0, _, a => by simp
  | k + 1, i, a => by rw [List.range'_succ, List.foldl_cons, fold_rep c k, List.append_assoc, List.replicate_succ]; rfl
def T117 (x : p117_0.T) : Tr (List Line) :=
  .ite (decide ((x.1.2.2.1 : Int) = 0 ∧ 0 ≤ (x.1.2.1 : Int) ∧ (x.1.2.1 : Int) ≤ 1000 ∧ 1 ≤ (x.1.1 : Int) ∧ (x.1.1 : Int) < 128 ∧ List.length (α := Line) x.2.2.1 ≤ 1000))
    (.ret (x.2.2.1 ++ List.replicate x.1.2.1.toNat (List.replicate x.1.1.toNat (U.blank (x.2.1.1, x.2.1.2.1, x.2.1.2.2.1, ())), false, ()))) .fail
abbrev E117 : Env := M117 fun key x => bif Nat.beq key 3 then p117_0.ls (fun a => (T117 a).map X117_0) x else none
theorem L117 : LoopOK (evI 2) (E117.lend 0) (lc Tryd.f117 0) := by
  refine l117_0 (T := T117) (fun x => rfl) ?_
  rintro ⟨⟨c, n, i, z⟩, ⟨a, b, d, z1⟩, h, z2⟩ r hh
  obtain ⟨g1, g2⟩ := pre_val hh
  have g1 : ((i : Int) = 0 ∧ (0 : Int) ≤ n ∧ (n : Int) ≤ 1000 ∧ (1 : Int) ≤ c ∧ (c : Int) < 128 ∧ h.length ≤ 1000) := of_decide_eq_true g1
  obtain ⟨rfl, e2, e3, e4, e5, e6⟩ := g1
  obtain ⟨m, rfl⟩ := Int.eq_ofNat_of_zero_le (a := n) e2
  have e3' : m ≤ 1000 := by
    have : (m : Int) ≤ 1000 := e3
    omega
  cases g2
  have := Rounds.uptoA (B := b117_0) (σ := List Line) (N := m) (fun i s => ((c, (m : Int), (i : Int), ()), (a, b, d, ()), s, ())) (fun _ s => s ++ [(List.replicate c.toNat (U.blank (a, b, d, ())), false, ())]) (fun s => s) (fun i s => s.length ≤ 1000 + i) (fun i s hi hv => ?_) (fun s hv => ?_) m 0 h (by omega) (by omega)
  · rw [fold_rep] at this
    exact this
  · have e8 : (s.length + 1) * 32 ≤ 140737488355328 := by omega
    refine ⟨?_, by simp only [List.length_append, List.length_singleton]; omega⟩
    simp only [b117_0, B117_0, Tr.val, e4, e5, e8, show ((i : Int) < (m : Int)) by omega, and_self, decide_true, cond_true, wrap64_nat (show i ≤ 1048576 by omega)]
  · simp only [b117_0, B117_0, Tr.val, show ¬ ((m : Int) < (m : Int)) by omega, decide_false, cond_false]
def d117 (a : Int) (b : Int) (c1 : Int) (c2 : Int) (c3 : Int) : Tr (List (List U.Cl × Bool × Unit)) :=
  Tr.ite (decide ((0 : Int) = (0 : Int) ∧ (0 : Int) ≤ b ∧ b ≤ (1000 : Int) ∧ (1 : Int) ≤ a ∧ a < (128 : Int) ∧ (0 : Nat) ≤ (1000 : Nat)))
    (Tr.ret (List.replicate b.toNat (List.replicate a.toNat (U.blank (c1, c2, c3, ())), false, ()))) Tr.fail
def e117 (r : List (List U.Cl × Bool × Unit)) : FRes := { rs := Slot.av (AV.one (Leaf.dat link.sl r)), upd := [], new := [] }
@[reducible] def a117 : List AK := [AK.d (.int .i64), AK.d (.int .i64), AK.d attk]
@[reducible] def b117 : List BK := []
theorem t117 (a : Int) (b : Int) (c1 : Int) (c2 : Int) (c3 : Int) : evFn (E117) Tryd.f117 [PM.data link.sl] (akAV a117 (a, b, (c1, c2, c3, ()), ())) (bkBs b117 ()) = (d117 a b c1 c2 c3).map e117 := by kernel_rfl
def s117 (C : akT a117 → Bool) (G : akT a117 → List (List U.Cl × Bool × Unit)) : FSpec := aspec a117 b117 e117 (fun x _ => C x) (fun x _ => G x)
theorem k117 {C : akT a117 → Bool} {G : akT a117 → List (List U.Cl × Bool × Unit)} (hd : ∀ (a : Int) (b : Int) (c1 : Int) (c2 : Int) (c3 : Int), C (a, b, (c1, c2, c3, ()), ()) = true → (d117 a b c1 c2 c3).val = some (G (a, b, (c1, c2, c3, ()), ()))) (IO : ItOK Tryd.prog (E117) := by exact itOK_none rfl) (L : ∀ c, Tryd.f117.body = some c → LsOK (evI 2) ((E117).lend 0) c := by exact fun c _ => LsOK_none rfl c) : SpecOK Tryd.prog E0 117 (s117 C G) :=
  aspec_ok (ak := a117) (bl := b117) (e := e117) (c := fun x _ => C x) (g := fun x _ => G x) (E0 := E0) (E := E117) tab (.cons wk150 .nil) rfl rfl hm Tryd.func117 (by kernel_rfl) [PM.data link.sl] (fun X Y H => by obtain ⟨a, ⟨b, ⟨⟨c1, ⟨c2, ⟨c3, _⟩⟩⟩, _⟩⟩⟩ := X; exact val_of (t117 a b c1 c2 c3) (hd a b c1 c2 c3 H)) IO L
abbrev w117 : FSpec := s117 (fun x => decide (1 ≤ (x.1 : Int) ∧ (x.1 : Int) < 128 ∧ 0 ≤ (x.2.1 : Int) ∧ (x.2.1 : Int) ≤ 1000)) fun x => List.replicate x.2.1.toNat (List.replicate x.1.toNat (U.blank x.2.2.1), false, ())
theorem wk117 : SpecOK Tryd.prog E0 117 w117 := by
  refine k117 (fun c n a b d H => ?_) (L := ls_ok (lcs := [lc Tryd.f117 0]) (rgs := []) (by kernel_rfl) (by kernel_rfl) L117 trivial)
  have H : (1 : Int) ≤ c ∧ (c : Int) < 128 ∧ (0 : Int) ≤ n ∧ (n : Int) ≤ 1000 := of_decide_eq_true H
  obtain ⟨h1, h2, h3, h4⟩ := H
  simp only [d117, Tr.val, h1, h2, h3, h4, and_self, decide_true, cond_true, List.length_nil, Nat.zero_le, List.nil_append]
def d85 (a : Int) (b : Int) : Tr (Int × List Line × Int) :=
  Tr.ite (!U.inn a (1 : Int) (80 : Int)) (Tr.ret ((0 : Int), [], (1 : Int)))
    (Tr.ite (!U.inn b (1 : Int) (50 : Int)) (Tr.ret ((0 : Int), [], (1 : Int)))
      (Tr.ite (decide ((1 : Int) ≤ a ∧ a < (128 : Int) ∧ (0 : Int) ≤ b ∧ b ≤ (1000 : Int)))
        (Tr.ret (a, List.replicate b.toNat (List.replicate a.toNat (U.blank ((0 : Int), (0 : Int), (0 : Int), ())), false, ()), (0 : Int))) Tr.fail))
def e85 (r : Int × List Line × Int) : FRes := { rs := Slot.tup [AV.agg [Leaf.dat (.int .i64) r.fst, Leaf.dat link.sl r.snd.fst], AV.one (Leaf.dat (.int .i64) r.snd.snd)], upd := [], new := [] }
@[reducible] def a85 : List AK := [AK.d (.int .i64), AK.d (.int .i64)]
@[reducible] def b85 : List BK := []
theorem t85 (a : Int) (b : Int) : evFn (E0.withFns [((93 : Nat), w93), ((117 : Nat), w117)]) Tryd.f85 [PM.data gridk, PM.data (.int .i64)] (akAV a85 (a, b, ())) (bkBs b85 ()) = (d85 a b).map e85 := by kernel_rfl
def s85' (G : akT a85 → Int × List Line × Int) : FSpec := aspec0 a85 b85 e85 (fun x _ => G x)
theorem k85' {G : akT a85 → Int × List Line × Int} (hd : ∀ (a : Int) (b : Int), (d85 a b).val = some (G (a, b, ()))) (IO : ItOK Tryd.prog (E0.withFns [((93 : Nat), w93), ((117 : Nat), w117)]) := by exact itOK_none rfl) (L : ∀ c, Tryd.f85.body = some c → LsOK (evI 2) ((E0.withFns [((93 : Nat), w93), ((117 : Nat), w117)]).lend 0) c := by exact fun c _ => LsOK_none rfl c) : SpecOK Tryd.prog E0 85 (s85' G) :=
  aspec0_ok (ak := a85) (bl := b85) (e := e85) (g := fun x _ => G x) (E0 := E0) (E := E0.withFns [((93 : Nat), w93), ((117 : Nat), w117)]) tab (.cons wk93 (.cons wk117 .nil)) rfl rfl hm Tryd.func85 (by kernel_rfl) [PM.data gridk, PM.data (.int .i64)] (fun X Y => by obtain ⟨a, ⟨b, _⟩⟩ := X; exact val_of (t85 a b) (hd a b)) IO L
end Go.Proofs.YtmnbcnhpklejcaaDoor
namespace U
def rawNew (c r : Int) : Int × List Ln × Int := if inn c 1 80 = true ∧ inn r 1 50 = true then (c, List.replicate r.toNat (List.replicate c.toNat (blank (0, 0, 0, ())), false, ()), 0) else (0, [], 1)
end U
namespace Go.Proofs.YtmnbcnhpklejcaaDoor
abbrev w85 : FSpec := s85' fun x => U.rawNew x.1 x.2.1
theorem wk85 : SpecOK Tryd.prog E0 85 w85 := by
  refine k85' fun c r => ?_
  show _ = some (U.rawNew c r)
  unfold U.rawNew
  cases h1 : U.inn c 1 80 with
  | false => simp only [d85, Tr.val, h1, Bool.not_false, cond_true, Bool.false_eq_true, false_and, if_false]
  | true =>
    cases h2 : U.inn r 1 50 with
    | false => simp only [d85, Tr.val, h1, h2, Bool.not_false, Bool.not_true, cond_true, cond_false, Bool.false_eq_true, and_false, if_false]
    | true =>
      obtain ⟨a1, a2⟩ := U.inn_iff.1 h1
      obtain ⟨b1, b2⟩ := U.inn_iff.1 h2
      simp only [d85, Tr.val, h1, h2, Bool.not_true, cond_true, cond_false, a1, show c < 128 by omega, show 0 ≤ r by omega, show r ≤ 1000 by omega, and_self, decide_true, if_true]
def d29 : Tr (Bool) :=
  Tr.ite true
    (Tr.ite true (Tr.ite true (Tr.ite true (Tr.ite true (Tr.ite true (Tr.ite true (Tr.ite true (Tr.ret true) Tr.fail) Tr.fail) (Tr.ret false)) Tr.fail) (Tr.ret false)) (Tr.ret false)) (Tr.ret false))
    Tr.fail
def e29 (r : Bool) : FRes := { rs := Slot.av (AV.one (Leaf.dat Kd.bool r)), upd := [], new := [] }
@[reducible] def a29 : List AK := []
@[reducible] def b29 : List BK := []
theorem t29 : evFn (E0.withFns [((85 : Nat), w85), ((33 : Nat), w33)]) Tryd.f29 [PM.data Kd.bool] (akAV a29 ()) (bkBs b29 ()) = (d29).map e29 := by kernel_rfl
def s29' (G : akT a29 → Bool) : FSpec := aspec0 a29 b29 e29 (fun x _ => G x)
theorem k29' {G : akT a29 → Bool} (hd : (d29).val = some (G ())) (IO : ItOK Tryd.prog (E0.withFns [((85 : Nat), w85), ((33 : Nat), w33)]) := by exact itOK_none rfl) (L : ∀ c, Tryd.f29.body = some c → LsOK (evI 2) ((E0.withFns [((85 : Nat), w85), ((33 : Nat), w33)]).lend 0) c := by exact fun c _ => LsOK_none rfl c) : SpecOK Tryd.prog E0 29 (s29' G) :=
  aspec0_ok (ak := a29) (bl := b29) (e := e29) (g := fun x _ => G x) (E0 := E0) (E := E0.withFns [((85 : Nat), w85), ((33 : Nat), w33)]) tab (.cons wk85 (.cons wk33 .nil)) rfl rfl hm Tryd.func29 (by kernel_rfl) [PM.data Kd.bool] (fun X Y => by exact val_of (t29) (hd)) IO L
abbrev w29 : FSpec := s29' fun _ => true
theorem wk29 : SpecOK Tryd.prog E0 29 w29 := k29' rfl
end Go.Proofs.YtmnbcnhpklejcaaDoor

end
section
set_option linter.unusedVariables false
set_option linter.unusedSimpArgs false
set_option maxRecDepth 20000
open Go Go.Ev
namespace U
theorem mendAt_eq {i : Nat} {l : List Cl} (h : whole l i = true) : mendAt i l = l := by unfold mendAt; rw [if_pos h]
theorem cw_set {l : List Cl} {i j : Nat} {c : Cl} (hi : i < l.length) : cw (l.set i c) j = if j = i then c.2.1 else cw l j := by
  unfold cw
  rw [List.getD_eq_getElem?_getD, List.getD_eq_getElem?_getD, List.getElem?_set]
  by_cases h : i = j
  · subst h
    rw [if_pos rfl, if_pos hi, if_pos rfl]
    rfl
  · rw [if_neg h, if_neg (fun e => h e.symm)]
theorem mend_step {l : List Cl} {i : Nat} (hi : i < l.length) (h : ∀ j, j < i → whole l j = true) : ∀ j, j < i + 1 → whole (mendAt i l) j = true := by
  intro j hj
  cases hw : whole l i with
  | true =>
    rw [mendAt_eq hw]
    by_cases e : j = i
    · rw [e]; exact hw
    · exact h j (by omega)
  | false =>
    unfold mendAt
    rw [hw, if_neg (by decide)]
    have hl : (l.set i (blank (l.getD i dC).2.2.1)).length = l.length := by simp
    have hb : (blank (l.getD i dC).2.2.1).2.1 = 1 := rfl
    have key : ∀ k, cw (l.set i (blank (l.getD i dC).2.2.1)) k = if k = i then 1 else cw l k := fun k => by rw [cw_set hi, hb]
    generalize l.set i (blank (l.getD i dC).2.2.1) = m at *
    by_cases e : j = i
    · subst e
      unfold whole
      rw [key, if_pos rfl]
      simp
    · have hj' : j < i := by omega
      have h1 := h j hj'
      unfold whole at h1 ⊢
      unfold whole at hw
      rw [key, key, key, if_neg e, hl]
      by_cases c2 : cw l j = 2
      · rw [if_pos c2] at h1 ⊢
        by_cases e2 : j + 1 = i
        · exfalso
          subst e2
          simp only [Bool.and_eq_true, decide_eq_true_eq] at h1
          rw [if_neg (by omega), if_pos h1.2] at hw
          simp [c2] at hw
        · rw [if_neg e2]; exact h1
      · rw [if_neg c2] at h1 ⊢
        by_cases c0 : cw l j = 0
        · rw [if_pos c0] at h1 ⊢
          have : ¬ j - 1 = i := by omega
          rw [if_neg this]
          exact h1
        · rw [if_neg c0]
theorem mend_fold (N : Nat) : ∀ (k i : Nat) (l : List Cl), i + k = N → l.length = N → (∀ j, j < i → whole l j = true) →
    ((List.range' i k).foldl (fun l i => mendAt i l) l).length = N ∧ ∀ j, j < N → whole ((List.range' i k).foldl (fun l i => mendAt i l) l) j = true
  | 0, i, l, h1, h2, h3 => ⟨h2, fun j hj => h3 j (by omega)⟩
  | k + 1, i, l, h1, h2, h3 => by
    rw [List.range'_succ, List.foldl_cons]
    exact mend_fold N k (i + 1) (mendAt i l) (by omega) (by rw [mendAt_len]; exact h2) (mend_step (by omega) h3)
theorem mend_len (l : List Cl) : (mend l).length = l.length := (mend_fold l.length l.length 0 l (by omega) rfl (fun j h => absurd h (Nat.not_lt_zero j))).1
theorem mend_whole (l : List Cl) : ∀ j, j < (mend l).length → whole (mend l) j = true := by
  rw [mend_len]
  exact (mend_fold l.length l.length 0 l (by omega) rfl (fun j h => absurd h (Nat.not_lt_zero j))).2
theorem mend_mem {P : Cl → Prop} (hb : ∀ c, P c → P (blank c.2.2.1)) : ∀ (k i : Nat) (l : List Cl), i + k ≤ l.length → (∀ c ∈ l, P c) → ∀ c ∈ (List.range' i k).foldl (fun l i => mendAt i l) l, P c
  | 0, i, l, _, h => h
  | k + 1, i, l, hl, h => by
    rw [List.range'_succ, List.foldl_cons]
    refine mend_mem hb k (i + 1) (mendAt i l) (by rw [mendAt_len]; omega) fun c hc => ?_
    unfold mendAt at hc
    split at hc
    · exact h c hc
    · rcases List.mem_or_eq_of_mem_set hc with hc | hc
      · exact h c hc
      · rw [hc]
        exact hb _ (h _ (by rw [getD_el (by omega)]; exact List.getElem_mem _))
theorem blank_R {c : Cl} (h : cellR c = true) : cellR (blank c.2.2.1) = true := by
  have hl : look c.2.2.1 = true := by
    unfold cellR at h
    split at h
    · rw [Bool.and_eq_true] at h; exact h.1
    · split at h
      · rw [Bool.and_eq_true] at h; exact h.1
      · cases h
  have hi : inn c.2.2.1.2.1 0 256 = true := by
    unfold look at hl
    simp only [Bool.and_eq_true] at hl
    exact hl.2.1
  unfold cellR
  rw [if_pos (show (blank c.2.2.1).1.size = 0 from rfl)]
  unfold look
  simp only [blank, hi, Bool.and_eq_true]
  decide
end U
namespace Go.Proofs.YtmnbcnhpklejcaaDoor
open Go.RowKit
def d5 (a1 : List Cell) (a2 : Bool) : Tr (Bool) :=
  let v1 : Int := ((↑(U.cutL a1).length : Int))
  let v2 : Int := ((↑(U.cutL a1).length : Int))
  let v3 : Int := ((↑(U.mend (U.cutL a1)).length : Int))
  Tr.ite (decide (v2 = v1 ∧ (0 : Int) = (0 : Int)) && U.okc (U.cutL a1))
    (Tr.ite (allN (fun (i : Nat) => U.cellR ((U.cutL a1).getD i U.dC)) (U.cutL a1).length (0 : Nat))
      (Tr.ite (decide ((U.cutL a1).length ≤ (1048576 : Nat)))
        (Tr.ite (U.okc (U.mend (U.cutL a1)))
          (Tr.ite (!(U.fitC (U.mend (U.cutL a1)) && decide (v3 = v2))) (Tr.ret false)
            (Tr.ite (decide ((U.mend (U.cutL a1)).length ≤ (1048576 : Nat)))
              (Tr.ite (decide ((U.mend (U.mend (U.cutL a1))).length ≤ (1048576 : Nat)))
                (Tr.ite (!U.eqL (U.mend (U.mend (U.cutL a1)), a2, ()) (U.mend (U.cutL a1), a2, ())) (Tr.ret false)
                  (Tr.ite false (Tr.ret false)
                    (Tr.ite (U.okc (U.cutL a1))
                      (Tr.ite (!(U.fitC (U.cutL a1) && decide (v1 = v2))) (Tr.ret true)
                        (Tr.ite (decide ((U.mend (U.cutL a1)).length ≤ (1048576 : Nat))) (Tr.ret (U.eqL (U.mend (U.cutL a1), a2, ()) (U.cutL a1, a2, ()))) Tr.fail))
                      Tr.fail)))
                Tr.fail)
              Tr.fail))
          Tr.fail)
        Tr.fail)
      (Tr.ret true))
    Tr.fail
def e5 (r : Bool) : FRes := { rs := Slot.av (AV.one (Leaf.dat Kd.bool r)), upd := [], new := [] }
@[reducible] def a5 : List AK := [AK.d link]
@[reducible] def b5 : List BK := []
def s5 (C : akT a5 → Bool) (G : akT a5 → Bool) : FSpec := aspec a5 b5 e5 (fun x _ => C x) (fun x _ => G x)
end Go.Proofs.YtmnbcnhpklejcaaDoor
namespace U
theorem okc_iff {l : List Cl} : okc l = true ↔ l.length ≤ 1048576 ∧ ∀ c ∈ l, c.1.size ≤ 1048576 := by
  unfold okc
  rw [Bool.and_eq_true, decide_eq_true_eq, List.all_eq_true]
  constructor
  · rintro ⟨a, b⟩; exact ⟨a, fun c hc => of_decide_eq_true (b c hc)⟩
  · rintro ⟨a, b⟩; exact ⟨a, fun c hc => decide_eq_true (b c hc)⟩
theorem mend_ok {l : List Cl} (h : okc l = true) : okc (mend l) = true := by
  rw [okc_iff] at *
  exact ⟨by rw [mend_len]; exact h.1, mend_mem (P := fun c => c.1.size ≤ 1048576) (fun c _ => Nat.zero_le _) l.length 0 l (by omega) h.2⟩
theorem fitC_iff {l : List Cl} : fitC l = true ↔ (∀ c ∈ l, cellR c = true) ∧ ∀ j, j < l.length → whole l j = true := by
  unfold fitC
  rw [all0]
  constructor
  · intro h
    refine ⟨fun c hc => ?_, fun j hj => ?_⟩
    · obtain ⟨i, hi, rfl⟩ := List.getElem_of_mem hc
      have := h i hi
      rw [Bool.and_eq_true, getD_el hi] at this
      exact this.1
    · have := h j hj
      rw [Bool.and_eq_true] at this
      exact this.2
  · rintro ⟨a, b⟩ j hj
    rw [Bool.and_eq_true, getD_el hj]
    exact ⟨a _ (List.getElem_mem hj), b j hj⟩
theorem mend_fit {l : List Cl} (h : ∀ c ∈ l, cellR c = true) : fitC (mend l) = true :=
  fitC_iff.2 ⟨mend_mem (P := fun c => cellR c = true) (fun _ h => blank_R h) l.length 0 l (by omega) h, mend_whole l⟩
end U
namespace Go.Proofs.YtmnbcnhpklejcaaDoor
end Go.Proofs.YtmnbcnhpklejcaaDoor

end
