/- Part 3 of what the proof leans on: an evaluator of Go code over plain data, with its soundness; contracts of functions; laws of plain data. -/
import Derived.Laws.Externs
import Derived.Test.YtmnbcnhpklejcaaDoorZq2
section
set_option linter.unusedVariables false
set_option linter.unusedSimpArgs false
set_option maxRecDepth 20000
namespace Go.Ev
def ib (b : Bool) : SRes := { rs := one (.dat .bool b) }
def ii (n : Int) : SRes := { rs := one (.dat (.int .i64) n) }
@[reducible] def spk : Kd := .pr (.int .i32) (.pr (.int .i32) .un)
end Go.Ev
namespace U
open Go Go.Ev
def valid (r : Int) : Bool := (decide (0 ≤ r) && decide (r < 55296)) || (decide (57343 < r) && decide (r ≤ 1114111))
def zero : List (Int × Int × Unit) := [(768, 879, ()), (8203, 8205, ()), (65024, 65039, ())]
def wide : List (Int × Int × Unit) := [(4352, 4447, ()), (12353, 19903, ()), (19968, 40959, ()), (44032, 55203, ()), (63744, 64255, ()), (65281, 65376, ()), (127744, 129791, ()), (131072, 262141, ())]
def inn (a b c : Int) : Bool := decide (b ≤ a) && decide (a ≤ c)
def span (x : Int × Int × Unit) (r : Int) : Bool := decide (x.1 ≤ r) && decide (r ≤ x.2.1)
end U
namespace Go.Proofs.YtmnbcnhpklejcaaDoor
open Go.Ev Go.RowKit
abbrev rb (b : Bool) : FRes := ⟨one (.dat .bool b), [], []⟩
abbrev ri (n : Int) : FRes := ⟨one (.dat (.int .i64) n), [], []⟩
def w154 : FSpec := dspec [.str] fun x => ib (U.full x.1)
def w169 : FSpec := dspec [.str] fun x => { rs := .tup [.one (.dat (.int .i32) (U.dec x.1).1), .one (.dat (.int .i64) (U.dec x.1).2)] }
def w156 : FSpec := dspec [.int .i32] fun x => ib (U.valid x.1)
def w158 : FSpec := dspec [] fun _ => { rs := one (.dat (.sl spk) U.zero) }
def w159 : FSpec := dspec [] fun _ => { rs := one (.dat (.sl spk) U.wide) }
def w138 : FSpec := dspec [.int .i64, .int .i64, .int .i64] fun x => ib (U.inn x.1 x.2.1 x.2.2.1)
def w171 : FSpec := bspec [.d spk, .c (.ptr 0 0)] [.box [.d (.int .i32)]] fun x y => { rs := one (.dat .bool (U.span x.1 y.1.1)), upd := [.box [.dat (.int .i32) y.1.1]] }
theorem inB_true {i : Int} {n : Nat} (h : 0 ≤ i ∧ i < n) : inB i n = true := by simp [inB, h]
theorem wrap32_id {n : Int} (h0 : -2147483648 ≤ n) (h1 : n ≤ 2147483647) : IntKind.i32.wrap n = n := by
  rw [IntKind.wrap_i32]; omega
theorem m63 {x : Int} (h0 : 0 ≤ x) (h1 : x ≤ 255) : IntKind.u8.wrap (((BitVec.ofInt 8 x &&& BitVec.ofInt 8 63).toNat : Int)) = x % 64 := u8_and63 x h0 (by omega)
theorem m31 {x : Int} (h0 : 0 ≤ x) (h1 : x ≤ 255) : IntKind.u8.wrap (((BitVec.ofInt 8 x &&& BitVec.ofInt 8 31).toNat : Int)) = x % 32 := u8_and31 x h0 (by omega)
theorem m15 {x : Int} (h0 : 0 ≤ x) (h1 : x ≤ 255) : IntKind.u8.wrap (((BitVec.ofInt 8 x &&& BitVec.ofInt 8 15).toNat : Int)) = x % 16 := u8_and15 x h0 (by omega)
theorem m7 {x : Int} (h0 : 0 ≤ x) (h1 : x ≤ 255) : IntKind.u8.wrap (((BitVec.ofInt 8 x &&& BitVec.ofInt 8 7).toNat : Int)) = x % 8 := u8_and7 x h0 (by omega)
theorem o6 {x y : Int} (hx0 : 0 ≤ x) (hx : x % 64 = 0) (hx1 : x < 2147483648) (h0 : 0 ≤ y) (h1 : y < 64) : IntKind.i32.wrap (((BitVec.ofInt 32 x ||| BitVec.ofInt 32 y).toNat : Int)) = x + y := i32_or6 x y hx0 hx hx1 h0 h1
theorem o12 {x y : Int} (hx0 : 0 ≤ x) (hx : x % 4096 = 0) (hx1 : x < 2147483648) (h0 : 0 ≤ y) (h1 : y < 4096) : IntKind.i32.wrap (((BitVec.ofInt 32 x ||| BitVec.ofInt 32 y).toNat : Int)) = x + y := i32_or12 x y hx0 hx hx1 h0 h1
theorem o18 {x y : Int} (hx0 : 0 ≤ x) (hx : x % 262144 = 0) (hx1 : x < 2147483648) (h0 : 0 ≤ y) (h1 : y < 262144) : IntKind.i32.wrap (((BitVec.ofInt 32 x ||| BitVec.ofInt 32 y).toNat : Int)) = x + y := i32_or18 x y hx0 hx hx1 h0 h1
theorem v154 (s : ByteArray) : (evFn (E0.withFns []) Tryd.f154 [.data .bool] (toAVs [.str] (s, ())) []).val = some (rb (U.full s)) := by
  have b0 := bt_ge s 0
  have b1 := bt_lt s 0
  obtain ⟨x0, x1, big, hq, f0, f1, hl, hh, hx⟩ := U.row b0 b1
  have hq' : IntKind.i64.wrap (IntKind.u8.wrap (((BitVec.ofInt 8 (rget (.int .u8) U.firstL (bt s 0)) &&& BitVec.ofInt 8 7).toNat : Int))) = _ := hq
  rw [t154 s rfl rfl rfl rfl rfl]
  unfold U.full
  rw [hq']
  have i0 : inB (bt s 0) 256 = true := inB_true ⟨b0, by omega⟩
  have i1 : inB ((rget (.int .u8) U.firstL (bt s 0) : Int).fdiv 16) 16 = true := inB_true ⟨f0, f1⟩
  by_cases c0 : s.size = 0
  · simp [Tr.val, c0]; rfl
  have c0' : ¬ ((s.size : Int) = 0) := by omega
  have i2 : inB 0 s.size = true := inB_true ⟨by omega, by omega⟩
  rcases U.need_cases (bt s 0) with ⟨hn, hc⟩ | hn | hn
  · have e : ¬ (s.size : Int) < 1 := by omega
    have e1 : (decide ((0 : Int) ≤ (s.size : Int))) = true := by simp
    have e2 : (decide ((1 : Int) ≤ (s.size : Int))) = true := by simp; omega
    simp only [Tr.val, c0, c0', i0, i2, hn, hc, if_true, e1, e2, decide_false, cond_false, cond_true]
    rfl
  · have e2 : (decide ((1 : Int) ≤ (s.size : Int))) = true := by simp; omega
    have e3 : (decide ((0 : Int) ≤ (s.size : Int))) = true := by simp
    have hc : ¬ bt s 0 < 128 := by
      intro h
      unfold U.need at hn
      rw [if_pos h] at hn
      omega
    simp only [Tr.val, c0, c0', i0, i2, hn, hc, if_false, e2, e3, decide_false, cond_false, cond_true, if_pos (show (0 : Int) ≤ 1 by omega)]
    rfl
  · have hn2 : 2 ≤ U.need (bt s 0) := by omega
    have hc : ¬ bt s 0 < 128 := by omega
    have hn1 : ¬ U.need (bt s 0) ≤ 1 := by omega
    have hlo := hl hn2
    have hhi := hh hn2
    simp only [Tr.val, c0, c0', i0, i1, i2, hc, hn1, if_false, hlo, hhi, decide_false, cond_false, cond_true]
    by_cases c1 : U.need (bt s 0) ≤ (s.size : Int)
    · simp only [c1, decide_true, cond_true]; try rfl
    · simp only [c1, decide_false, cond_false]
      unfold U.ok1 U.cont
      by_cases c2 : 1 < s.size
      · have c2' : (1 : Int) < (s.size : Int) := by omega
        have i3 : inB 1 s.size = true := inB_true ⟨by omega, by omega⟩
        by_cases c3 : bt s 1 < U.lo (bt s 0)
        · have c4 : ¬ U.lo (bt s 0) ≤ bt s 1 := by omega
          simp only [c2, c2', i3, c3, c4, decide_true, decide_false, cond_true, cond_false, Bool.false_and, Bool.not_false, Bool.and_self]; try rfl
        · have c4 : U.lo (bt s 0) ≤ bt s 1 := by omega
          by_cases c5 : U.hi (bt s 0) < bt s 1
          · have c6 : ¬ bt s 1 ≤ U.hi (bt s 0) := by omega
            simp only [c2, c2', i3, c3, c4, c5, c6, decide_true, decide_false, cond_true, cond_false, Bool.and_false, Bool.not_false, Bool.and_self]; try rfl
          · have c6 : bt s 1 ≤ U.hi (bt s 0) := by omega
            by_cases c7 : 2 < s.size
            · have c7' : (2 : Int) < (s.size : Int) := by omega
              have i4 : inB 2 s.size = true := inB_true ⟨by omega, by omega⟩
              by_cases c8 : bt s 2 < 128
              · have c9 : ¬ 128 ≤ bt s 2 := by omega
                simp only [c2, c2', i3, i4, c3, c4, c5, c6, c7, c7', c8, c9, decide_true, decide_false, cond_true, cond_false, Bool.and_false, Bool.false_and, Bool.not_false, Bool.not_true, Bool.and_self]; try rfl
              · have c9 : 128 ≤ bt s 2 := by omega
                by_cases c10 : 191 < bt s 2
                · have c11 : ¬ bt s 2 ≤ 191 := by omega
                  simp only [c2, c2', i3, i4, c3, c4, c5, c6, c7, c7', c8, c9, c10, c11, decide_true, decide_false, cond_true, cond_false, Bool.and_false, Bool.false_and, Bool.not_false, Bool.not_true, Bool.and_self]; try rfl
                · have c11 : bt s 2 ≤ 191 := by omega
                  simp only [c2, c2', i3, i4, c3, c4, c5, c6, c7, c7', c8, c9, c10, c11, decide_true, decide_false, cond_true, cond_false, Bool.and_false, Bool.false_and, Bool.not_false, Bool.not_true, Bool.and_self]; try rfl
            · have c7' : ¬ (2 : Int) < (s.size : Int) := by omega
              simp only [c2, c2', i3, c3, c4, c5, c6, c7, c7', decide_true, decide_false, cond_true, cond_false, Bool.and_false, Bool.false_and, Bool.not_false, Bool.not_true, Bool.and_self]; try rfl
      · have c2' : ¬ (1 : Int) < (s.size : Int) := by omega
        have c7 : ¬ 2 < s.size := by omega
        have c7' : ¬ (2 : Int) < (s.size : Int) := by omega
        simp only [c2, c2', c7, c7', decide_true, decide_false, cond_true, cond_false, Bool.and_false, Bool.false_and, Bool.not_false, Bool.not_true, Bool.and_self]; try rfl
theorem wk154 : SpecOK Tryd.prog E0 154 w154 := by
  refine dspec_ok (E0 := E0) (E := E0.withFns []) (fns := []) tab .nil rfl rfl hm Tryd.func154 (by kernel_rfl) [.data .bool] (fun x hx => ?_)
  obtain ⟨s, z⟩ := x
  exact v154 s
abbrev rd (x : Int × Int) : FRes := ⟨.tup [.one (.dat (.int .i32) x.1), .one (.dat (.int .i64) x.2)], [], []⟩
theorem keepb : ∀ x : Fin 256, IntKind.i32.wrap (((BitVec.ofInt 32 (IntKind.i32.wrap (((BitVec.ofInt 32 (IntKind.i32.wrap ((x.val : Nat) : Int)) &&& ~~~BitVec.ofInt 32 ((IntKind.i32.wrap (IntKind.i32.wrap 240 * 2147483648)).fdiv 2147483648)).toNat : Int))) |||
    BitVec.ofInt 32 (IntKind.i32.wrap (((BitVec.ofInt 32 65533 &&& BitVec.ofInt 32 ((IntKind.i32.wrap (IntKind.i32.wrap 240 * 2147483648)).fdiv 2147483648)).toNat : Int)))).toNat : Int)) = ((x.val : Nat) : Int) := by decide +kernel
theorem dropb : ∀ x : Fin 256, IntKind.i32.wrap (((BitVec.ofInt 32 (IntKind.i32.wrap (((BitVec.ofInt 32 (IntKind.i32.wrap ((x.val : Nat) : Int)) &&& ~~~BitVec.ofInt 32 ((IntKind.i32.wrap (IntKind.i32.wrap 241 * 2147483648)).fdiv 2147483648)).toNat : Int))) |||
    BitVec.ofInt 32 (IntKind.i32.wrap (((BitVec.ofInt 32 65533 &&& BitVec.ofInt 32 ((IntKind.i32.wrap (IntKind.i32.wrap 241 * 2147483648)).fdiv 2147483648)).toNat : Int)))).toNat : Int)) = 65533 := by decide +kernel
theorem keep_b {b : Int} (h0 : 0 ≤ b) (h1 : b ≤ 255) : IntKind.i32.wrap (((BitVec.ofInt 32 (IntKind.i32.wrap (((BitVec.ofInt 32 (IntKind.i32.wrap b) &&& ~~~BitVec.ofInt 32 ((IntKind.i32.wrap (IntKind.i32.wrap 240 * 2147483648)).fdiv 2147483648)).toNat : Int))) |||
    BitVec.ofInt 32 (IntKind.i32.wrap (((BitVec.ofInt 32 65533 &&& BitVec.ofInt 32 ((IntKind.i32.wrap (IntKind.i32.wrap 240 * 2147483648)).fdiv 2147483648)).toNat : Int)))).toNat : Int)) = b := by
  obtain ⟨n, rfl⟩ := Int.eq_ofNat_of_zero_le h0
  exact keepb ⟨n, by omega⟩
theorem drop_b {b : Int} (h0 : 0 ≤ b) (h1 : b ≤ 255) : IntKind.i32.wrap (((BitVec.ofInt 32 (IntKind.i32.wrap (((BitVec.ofInt 32 (IntKind.i32.wrap b) &&& ~~~BitVec.ofInt 32 ((IntKind.i32.wrap (IntKind.i32.wrap 241 * 2147483648)).fdiv 2147483648)).toNat : Int))) |||
    BitVec.ofInt 32 (IntKind.i32.wrap (((BitVec.ofInt 32 65533 &&& BitVec.ofInt 32 ((IntKind.i32.wrap (IntKind.i32.wrap 241 * 2147483648)).fdiv 2147483648)).toNat : Int)))).toNat : Int)) = 65533 := by
  obtain ⟨n, rfl⟩ := Int.eq_ofNat_of_zero_le h0
  exact dropb ⟨n, by omega⟩
theorem lo_ge (c : Int) : 128 ≤ U.lo c := by
  unfold U.lo
  repeat' split
  all_goals omega
theorem hi_le (c : Int) : U.hi c ≤ 191 := by
  unfold U.hi
  repeat' split
  all_goals omega
theorem v169 (s : ByteArray) : (evFn (E0.withFns []) Tryd.f169 [.data (.int .i32), .data (.int .i64)] (toAVs [.str] (s, ())) []).val = some (rd (U.dec s)) := by
  have b0 := bt_ge s 0
  have b1 := bt_lt s 0
  have b2 := bt_ge s 1
  have b3 := bt_lt s 1
  have b4 := bt_ge s 2
  have b5 := bt_lt s 2
  have b6 := bt_ge s 3
  have b7 := bt_lt s 3
  obtain ⟨x0, x1, big, hq, f0, f1, hl, hh, hx⟩ := U.row b0 b1
  have hq' : IntKind.i64.wrap (IntKind.u8.wrap (((BitVec.ofInt 8 (rget (.int .u8) U.firstL (bt s 0)) &&& BitVec.ofInt 8 7).toNat : Int))) = _ := hq
  rw [t169 s rfl rfl rfl rfl rfl rfl rfl rfl rfl rfl rfl]
  unfold U.dec
  rw [hq', m63 b2 b3, m63 b4 b5, m63 b6 b7, m31 b0 b1, m15 b0 b1, m7 b0 b1]
  have i0 : inB (bt s 0) 256 = true := inB_true ⟨b0, by omega⟩
  have i1 : inB ((rget (.int .u8) U.firstL (bt s 0) : Int).fdiv 16) 16 = true := inB_true ⟨f0, f1⟩
  by_cases c0 : s.size = 0
  · have c0' : (s.size : Int) < 1 := by omega
    simp only [Tr.val, c0, c0', decide_true, cond_true]; rfl
  have c0' : ¬ (s.size : Int) < 1 := by omega
  have i2 : inB 0 s.size = true := inB_true ⟨by omega, by omega⟩
  rcases U.need_cases (bt s 0) with ⟨hn, hc⟩ | hn | hn
  · have hbig := big.2 (by omega)
    have hxx := hx (by omega)
    rw [if_pos hc] at hxx
    simp only [Tr.val, c0, c0', i0, i2, hn, hxx, keep_b b0 b1, decide_false, decide_true, cond_false, cond_true, show ¬ ((1 : Int) = 0) by omega, show (240 : Int) ≤ 240 by omega]
  · have hc : ¬ bt s 0 < 128 := by
      intro h
      unfold U.need at hn
      rw [if_pos h] at hn
      omega
    have hxx := hx (by omega)
    rw [if_neg hc] at hxx
    simp only [Tr.val, c0, c0', i0, i2, hn, hxx, drop_b b0 b1, decide_false, decide_true, cond_false, cond_true, show (240 : Int) ≤ 241 by omega]
  · have hn2 : 2 ≤ U.need (bt s 0) := by omega
    have hc : ¬ bt s 0 < 128 := by omega
    have hn1 : ¬ U.need (bt s 0) ≤ 1 := by omega
    have hn0 : ¬ U.need (bt s 0) = 0 := by omega
    have hn11 : ¬ U.need (bt s 0) = 1 := by omega
    have hbig : ¬ (240 : Int) ≤ (rget (.int .u8) U.firstL (bt s 0) : Int) := fun h => hn1 (big.1 h)
    have hlo := hl hn2
    have hhi := hh hn2
    simp only [Tr.val, c0, c0', i0, i1, i2, hc, hn1, hn0, hn11, hbig, if_false, hlo, hhi, decide_false, decide_true, cond_false, cond_true]
    by_cases c1 : (s.size : Int) < U.need (bt s 0)
    · simp only [c1, decide_true, cond_true]
    · have i3 : inB 1 s.size = true := inB_true ⟨by omega, by omega⟩
      simp only [c1, i3, decide_false, cond_false, cond_true]
      unfold U.ok1 U.cont
      by_cases c3 : bt s 1 < U.lo (bt s 0)
      · have c4 : ¬ U.lo (bt s 0) ≤ bt s 1 := by omega
        simp only [c3, c4, decide_true, decide_false, cond_true, cond_false, Bool.false_and, Bool.not_false]
      · have c4 : U.lo (bt s 0) ≤ bt s 1 := by omega
        by_cases c5 : U.hi (bt s 0) < bt s 1
        · have c6 : ¬ bt s 1 ≤ U.hi (bt s 0) := by omega
          simp only [c3, c4, c5, c6, decide_true, decide_false, cond_true, cond_false, Bool.and_false, Bool.not_false]
        · have c6 : bt s 1 ≤ U.hi (bt s 0) := by omega
          have l1 := lo_ge (bt s 0)
          have l2 := hi_le (bt s 0)
          simp only [c3, c4, c5, c6, decide_true, decide_false, cond_true, cond_false, Bool.and_self, Bool.not_true]
          have w1 : IntKind.i32.wrap (bt s 1 % 64) = bt s 1 - 128 := by rw [wrap32_id (by omega) (by omega)]; omega
          by_cases d2 : U.need (bt s 0) = 2
          · have e0 : IntKind.i32.wrap (bt s 0 % 32) = bt s 0 - 192 := by rw [wrap32_id (by omega) (by omega)]; omega
            have e1 : IntKind.i32.wrap ((bt s 0 - 192) * 64) = (bt s 0 - 192) * 64 := wrap32_id (by omega) (by omega)
            simp only [d2, w1, e0, e1, decide_true, cond_true, show (2 : Int) ≤ 2 by omega]
            rw [o6 (by omega) (by omega) (by omega) (by omega) (by omega)]
            rfl
          · have d2' : ¬ U.need (bt s 0) ≤ 2 := by omega
            have i4 : inB 2 s.size = true := inB_true ⟨by omega, by omega⟩
            simp only [d2, d2', i4, decide_false, cond_false, cond_true]
            by_cases c8 : bt s 2 < 128
            · have c9 : ¬ 128 ≤ bt s 2 := by omega
              simp only [c8, c9, decide_true, decide_false, cond_true, cond_false, Bool.false_and, Bool.not_false]
            · have c9 : 128 ≤ bt s 2 := by omega
              by_cases c10 : 191 < bt s 2
              · have c11 : ¬ bt s 2 ≤ 191 := by omega
                simp only [c8, c9, c10, c11, decide_true, decide_false, cond_true, cond_false, Bool.and_false, Bool.not_false]
              · have c11 : bt s 2 ≤ 191 := by omega
                simp only [c8, c9, c10, c11, decide_true, decide_false, cond_true, cond_false, Bool.and_self, Bool.not_true]
                have w2 : IntKind.i32.wrap (bt s 2 % 64) = bt s 2 - 128 := by rw [wrap32_id (by omega) (by omega)]; omega
                have w11 : IntKind.i32.wrap ((bt s 1 - 128) * 64) = (bt s 1 - 128) * 64 := wrap32_id (by omega) (by omega)
                by_cases d3 : U.need (bt s 0) = 3
                · have e0 : IntKind.i32.wrap (bt s 0 % 16) = bt s 0 - 224 := by rw [wrap32_id (by omega) (by omega)]; omega
                  have e1 : IntKind.i32.wrap ((bt s 0 - 224) * 4096) = (bt s 0 - 224) * 4096 := wrap32_id (by omega) (by omega)
                  simp only [d3, w1, w2, w11, e0, e1, decide_true, cond_true, show (3 : Int) ≤ 3 by omega]
                  rw [o12 (x := (bt s 0 - 224) * 4096) (y := (bt s 1 - 128) * 64) (by omega) (by omega) (by omega) (by omega) (by omega), o6 (x := (bt s 0 - 224) * 4096 + (bt s 1 - 128) * 64) (y := bt s 2 - 128) (by omega) (by omega) (by omega) (by omega) (by omega)]
                  rfl
                · have d3' : ¬ U.need (bt s 0) ≤ 3 := by omega
                  have d4 : U.need (bt s 0) = 4 := by omega
                  have i5 : inB 3 s.size = true := inB_true ⟨by omega, by omega⟩
                  simp only [d3, d3', i5, decide_false, cond_false, cond_true]
                  by_cases c12 : bt s 3 < 128
                  · have c13 : ¬ 128 ≤ bt s 3 := by omega
                    simp only [c12, c13, decide_true, decide_false, cond_true, cond_false, Bool.false_and, Bool.not_false]
                  · have c13 : 128 ≤ bt s 3 := by omega
                    by_cases c14 : 191 < bt s 3
                    · have c15 : ¬ bt s 3 ≤ 191 := by omega
                      simp only [c12, c13, c14, c15, decide_true, decide_false, cond_true, cond_false, Bool.and_false, Bool.not_false]
                    · have c15 : bt s 3 ≤ 191 := by omega
                      have e0 : IntKind.i32.wrap (bt s 0 % 8) = bt s 0 - 240 := by rw [wrap32_id (by omega) (by omega)]; omega
                      have e1 : IntKind.i32.wrap ((bt s 0 - 240) * 262144) = (bt s 0 - 240) * 262144 := wrap32_id (by omega) (by omega)
                      have w12 : IntKind.i32.wrap ((bt s 1 - 128) * 4096) = (bt s 1 - 128) * 4096 := wrap32_id (by omega) (by omega)
                      have w21 : IntKind.i32.wrap ((bt s 2 - 128) * 64) = (bt s 2 - 128) * 64 := wrap32_id (by omega) (by omega)
                      have w3 : IntKind.i32.wrap (bt s 3 % 64) = bt s 3 - 128 := by rw [wrap32_id (by omega) (by omega)]; omega
                      simp only [c12, c13, c14, c15, w1, w2, w12, w21, w3, e0, e1, decide_true, decide_false, cond_true, cond_false, Bool.and_self, Bool.not_true]
                      rw [o18 (x := (bt s 0 - 240) * 262144) (y := (bt s 1 - 128) * 4096) (by omega) (by omega) (by omega) (by omega) (by omega), o12 (x := (bt s 0 - 240) * 262144 + (bt s 1 - 128) * 4096) (y := (bt s 2 - 128) * 64) (by omega) (by omega) (by omega) (by omega) (by omega), o6 (x := (bt s 0 - 240) * 262144 + (bt s 1 - 128) * 4096 + (bt s 2 - 128) * 64) (y := bt s 3 - 128) (by omega) (by omega) (by omega) (by omega) (by omega)]
                      rfl
theorem wk169 : SpecOK Tryd.prog E0 169 w169 := by
  refine dspec_ok (E0 := E0) (E := E0.withFns []) (fns := []) tab .nil rfl rfl hm Tryd.func169 (by kernel_rfl) [.data (.int .i32), .data (.int .i64)] (fun x hx => ?_)
  obtain ⟨s, z⟩ := x
  exact v169 s
end Go.Proofs.YtmnbcnhpklejcaaDoor
end
section
set_option linter.unusedVariables false
set_option linter.unusedSimpArgs false
set_option maxRecDepth 20000
namespace U
open Go Go.Ev
abbrev Sp := Int × Int × Unit
def fi (l : List Sp) (r : Int) : Option Nat := findN (fun j => span (l.getD j (0, 0, ())) r) l.length 0
def idx (l : List Sp) (r : Int) : Int := match fi l r with
  | some j => (j : Int)
  | none => -1
def within (l : List Sp) (r : Int) : Bool := l.any fun x => span x r
theorem idx_within (l : List Sp) (r : Int) : decide (0 ≤ idx l r) = within l r := by
  have h := find_any (fun x => span x r) (0, 0, ()) l
  have h' : (fi l r).isSome = within l r := h
  rw [← h']
  unfold idx
  cases fi l r with
  | none => rfl
  | some j => exact decide_eq_true (by show (0 : Int) ≤ (j : Int); omega)
end U
namespace Go.Proofs.YtmnbcnhpklejcaaDoor
open Go.Ev Go.RowKit
def w155 : FSpec := w169
def w177 : FSpec := bspec [.d (.sl spk), .c (.fn 171 [0])] [.box [.d (.int .i32)]] fun x y => { c := some (decide (List.length x.1 ≤ 1048576)), rs := one (.dat (.int .i64) (U.idx x.1 y.1.1)), upd := [.box [.dat (.int .i32) y.1.1]] }
def w170 : FSpec := bspec [.d (.sl spk), .c (.fn 171 [0])] [.box [.d (.int .i32)]] fun x y => { c := some (decide (List.length x.1 ≤ 1048576)), rs := one (.dat .bool (U.within x.1 y.1.1)), upd := [.box [.dat (.int .i32) y.1.1]] }
def w157 : FSpec := dspec [.sl spk, .int .i32] fun x => { c := some (decide (List.length x.1 ≤ 1048576)), rs := one (.dat .bool (U.within x.1 x.2.1)) }
def F1 : List (Nat × FSpec) := [(169, w169)]
def F2 : List (Nat × FSpec) := [(171, w171)]
def F3 : List (Nat × FSpec) := [(177, w177)]
def F4 : List (Nat × FSpec) := [(170, w170)]
def F5 : List (Nat × FSpec) := [(156, w156), (157, w157), (158, w158), (159, w159)]
def live177 (key : Nat) : Lv := bif Nat.beq key 2 then { ls := [0, 1, 7, 8] } else bif Nat.beq key 1002 then { ls := [4] } else { ls := [] }
@[reducible] def p177 : LP := { n := 19, sl := [.d (.sl spk), .c (.fn 171 [0]), .d (.int .i64), .d (.int .i64)], bl := [(0, .box [.d (.int .i32)])] }
def B177 (x : p177.T) : Tr (p177.T ⊕ (Ex × VS)) :=
 .ite (decide ((x.1.2.2.1 : Int) < (x.1.2.1 : Int))) (.ite (inB x.1.2.2.1 (List.length (α := U.Sp) x.1.1)) (.ite (U.span ((rget spk x.1.1 x.1.2.2.1).1, (rget spk x.1.1 x.1.2.2.1).2.1, ()) x.2.1.1) (.ret (.inr (.ret, ⟨19, [dI .i64 x.1.2.2.1], [(0, .box [.dat (.int .i32) x.2.1.1])]⟩))) (.ret (.inl ((x.1.1, x.1.2.1, IntKind.i64.wrap (x.1.2.2.1 + 1), ()), x.2)))) .fail) (.ret (.inr (.exit 0, ⟨19, [hole0], [(0, .box [.dat (.int .i32) x.2.1.1])]⟩)))
def tr177 (x : p177.T) : Tr (Ex × VS) :=
  .ite (decide ((x.1.2.1 : Int) = (List.length (α := U.Sp) x.1.1 : Int) ∧ (x.1.2.2.1 : Int) = 0 ∧ List.length (α := U.Sp) x.1.1 ≤ 1048576))
    (.ite ((U.fi x.1.1 x.2.1.1).isSome)
      (.ret (.ret, ⟨19, [dI .i64 (((U.fi x.1.1 x.2.1.1).getD 0 : Nat) : Int)], [(0, .box [.dat (.int .i32) x.2.1.1])]⟩))
      (.ret (.exit 0, ⟨19, [hole0], [(0, .box [.dat (.int .i32) x.2.1.1])]⟩))) .fail
def ls177 (key : Nat) (x : VS) : Option (Tr (Ex × VS)) := bif Nat.beq key 2 then p177.ls tr177 x else none
abbrev E177 : Env := (E0.withFns F2).loops live177 ls177
theorem hB177 (x : p177.T) : (evC (evI 2) (lc Tryd.f177 0) (E177.lend 1) (unV [0, 1, 7, 8] (p177.V x))).map (decL 1 [0, 1, 7, 8] [4]) = (B177 x).map (encL p177.V) := by
  obtain ⟨⟨xs, n, i, z⟩, ⟨r, z'⟩, z''⟩ := x
  kernel_rfl
theorem hc177 (x : p177.T) : canV 1 [0, 1, 7, 8] (unV [0, 1, 7, 8] (p177.V x)) = p177.V x := by
  obtain ⟨⟨xs, n, i, z⟩, ⟨r, z'⟩, z''⟩ := x
  kernel_rfl
theorem run177 (xs : List U.Sp) (r : Int) (z z' z'' : Unit) (hl : xs.length ≤ 1048576) : runB B177 (xs.length + 1) ((xs, (xs.length : Int), 0, z), (r, z'), z'') =
    some (outN (U.fi xs r) (fun j => (Ex.ret, ⟨19, [dI .i64 (j : Int)], [(0, .box [.dat (.int .i32) r])]⟩)) (Ex.exit 0, ⟨19, [hole0], [(0, .box [.dat (.int .i32) r])]⟩)) := by
  refine runB_find (B := B177) (N := xs.length) (fun i => ((xs, (xs.length : Int), (i : Int), z), (r, z'), z'')) _ (fun j => (Ex.ret, ⟨19, [dI .i64 (j : Int)], [(0, .box [.dat (.int .i32) r])]⟩)) _ (fun i hi => ?_) ?_ xs.length 0 (by omega)
  · have h1 : decide ((i : Int) < (xs.length : Int)) = true := decide_eq_true (by omega)
    have h2 : inB (i : Int) xs.length = true := inB_nat hi
    simp only [B177, Tr.val, h1, h2, cond_true, rget_nat, wrap64_nat (show i ≤ 1048576 by omega)]
    show (bif U.span (xs.getD i (0, 0, ())) r then _ else _) = _
    cases U.span (xs.getD i (0, 0, ())) r <;> rfl
  · have h1 : decide ((xs.length : Int) < (xs.length : Int)) = false := decide_eq_false (by omega)
    simp only [B177, Tr.val, h1, cond_false]
theorem loop177 : LoopOK (evI 2) (E177.lend 1) (lc Tryd.f177 0) := by
  refine loopP 2 { ls := [0, 1, 7, 8] } { ls := [4] } p177 B177 tr177 (by kernel_rfl) rfl rfl (fun x => rfl) hB177 hc177 ?_
  rintro ⟨⟨xs, n, i, z⟩, ⟨r, z'⟩, z''⟩ q hq
  simp only [tr177, Tr.val] at hq
  cases hd : decide ((n : Int) = (List.length (α := U.Sp) xs : Int) ∧ (i : Int) = 0 ∧ List.length (α := U.Sp) xs ≤ 1048576) with
  | false => rw [hd] at hq; cases hq
  | true =>
    rw [hd] at hq
    have hd' : (n : Int) = (List.length (α := U.Sp) xs : Int) ∧ (i : Int) = 0 ∧ List.length (α := U.Sp) xs ≤ 1048576 := of_decide_eq_true hd
    obtain ⟨rfl, rfl, hl⟩ := hd'
    refine ⟨List.length (α := U.Sp) xs + 1, (run177 xs r z z' z'' hl).trans ?_⟩
    rw [← hq]
    cases U.fi xs r <;> rfl
theorem t177 (xs : List U.Sp) (r : Int) : evFn E177 Tryd.f177 [.data (.int .i64)] (akAV [.d (.sl spk), .c (.fn 171 [0])] (xs, ())) (bkBs [.box [.d (.int .i32)]] ((r, ()), ())) =
    .ite (decide ((xs.length : Int) = (xs.length : Int) ∧ (0 : Int) = 0 ∧ xs.length ≤ 1048576))
      (.ite ((U.fi xs r).isSome) (.ret ⟨one (.dat (.int .i64) (((U.fi xs r).getD 0 : Nat) : Int)), [.box [.dat (.int .i32) r]], []⟩) (.ret ⟨one (.dat (.int .i64) (-1 : Int)), [.box [.dat (.int .i32) r]], []⟩)) .fail := by kernel_rfl
theorem wk171 : SpecOK Tryd.prog E0 171 w171 := by
  refine bspec_ok (E0 := E0) (E := E0.withFns []) (fns := []) tab .nil rfl rfl hm Tryd.func171 (by kernel_rfl) [.data .bool] (fun x y hc => ?_)
  obtain ⟨⟨a, b, z⟩, z'⟩ := x
  obtain ⟨⟨r, z''⟩, z3⟩ := y
  have e : evFn (E0.withFns []) Tryd.f171 [.data .bool] (akAV [.d spk, .c (.ptr 0 0)] ((a, b, z), z')) (bkBs [.box [.d (.int .i32)]] ((r, z''), z3)) = _ := t171 a b r
  rw [e]
  show Tr.val _ = some (⟨one (.dat .bool (decide (a ≤ r) && decide (r ≤ b))), [.box [.dat (.int .i32) r]], []⟩ : FRes)
  cases h : decide (a ≤ r) <;> simp only [Tr.val, h, cond_true, cond_false, Bool.true_and, Bool.false_and] <;> rfl
theorem A2 : AllFn Tryd.prog E0 F2 := .cons wk171 .nil
theorem wk177 : SpecOK Tryd.prog E0 177 w177 := by
  refine bspec_ok (E0 := E0) (E := E177) (fns := F2) tab A2 rfl rfl hm Tryd.func177 (by kernel_rfl) [.data (.int .i64)] (fun x y hc => ?_) (L := ls_ok (lcs := [lc Tryd.f177 0]) (rgs := []) (by kernel_rfl) (by kernel_rfl) loop177 trivial)
  obtain ⟨xs, z⟩ := x
  obtain ⟨⟨r, z'⟩, z''⟩ := y
  have hl : xs.length ≤ 1048576 := by simpa using hc
  have e := t177 xs r
  refine (congrArg Tr.val e).trans ?_
  rw [show (decide ((xs.length : Int) = (xs.length : Int) ∧ (0 : Int) = 0 ∧ xs.length ≤ 1048576)) = true from by simpa using hl]
  show Tr.val _ = some (⟨one (.dat (.int .i64) (U.idx xs r)), [.box [.dat (.int .i32) r]], []⟩ : FRes)
  unfold U.idx
  cases U.fi xs r <;> rfl
theorem A3 : AllFn Tryd.prog E0 F3 := .cons wk177 .nil
theorem wk170 : SpecOK Tryd.prog E0 170 w170 := by
  refine bspec_ok (E0 := E0) (E := E0.withFns F3) (fns := F3) tab A3 rfl rfl hm Tryd.func170 (by kernel_rfl) [.data .bool] (fun x y hc => ?_)
  obtain ⟨xs, z⟩ := x
  obtain ⟨⟨r, z'⟩, z''⟩ := y
  have hl : (decide (xs.length ≤ 1048576)) = true := by simpa using hc
  have e : evFn (E0.withFns F3) Tryd.f170 [.data .bool] (akAV [.d (.sl spk), .c (.fn 171 [0])] (xs, ())) (bkBs [.box [.d (.int .i32)]] ((r, ()), ())) =
    .ite (decide (xs.length ≤ (1048576 : Nat))) (.ret ⟨one (.dat .bool (decide ((0 : Int) ≤ U.idx xs r))), [.box [.dat (.int .i32) r]], []⟩) .fail := by kernel_rfl
  refine (congrArg Tr.val e).trans ?_
  rw [hl, U.idx_within]
  rfl
theorem A4 : AllFn Tryd.prog E0 F4 := .cons wk170 .nil
theorem wk157 : SpecOK Tryd.prog E0 157 w157 := by
  refine dspec_ok (E0 := E0) (E := E0.withFns F4) (fns := F4) tab A4 rfl rfl hm Tryd.func157 (by kernel_rfl) [.data .bool] (fun x hc => ?_)
  obtain ⟨xs, r, z⟩ := x
  have hl : (decide (xs.length ≤ 1048576)) = true := by simpa using hc
  have e : evFn (E0.withFns F4) Tryd.f157 [.data .bool] (toAVs [.sl spk, .int .i32] (xs, r, z)) [] = .ite (decide (xs.length ≤ (1048576 : Nat))) (.ret ⟨one (.dat .bool (U.within xs r)), [], []⟩) .fail := by kernel_rfl
  rw [e, hl]
  rfl
theorem wk156 : SpecOK Tryd.prog E0 156 w156 := by
  refine dspec_ok (E0 := E0) (E := E0.withFns []) (fns := []) tab .nil rfl rfl hm Tryd.func156 (by kernel_rfl) [.data .bool] (fun x hc => ?_)
  obtain ⟨n, z⟩ := x
  have e : evFn (E0.withFns []) Tryd.f156 [.data .bool] (toAVs [.int .i32] (n, z)) [] = _ := t156 n
  rw [e]
  show Tr.val _ = some (rb (U.valid n))
  unfold U.valid
  by_cases a : (0 : Int) ≤ n <;> by_cases b : n < 55296 <;> by_cases c : (57343 : Int) < n <;> by_cases d : n ≤ 1114111 <;>
    simp only [Tr.val, a, b, c, d, decide_true, decide_false, cond_true, cond_false, Bool.true_and, Bool.and_true, Bool.false_and, Bool.and_false, Bool.or_true, Bool.true_or, Bool.or_false, Bool.or_self] <;> rfl
theorem wk158 : SpecOK Tryd.prog E0 158 w158 := by
  refine dspec_ok (E0 := E0) (E := E0.withFns []) (fns := []) tab .nil rfl rfl hm Tryd.func158 (by kernel_rfl) [.data (.sl spk)] (fun x hc => ?_)
  rw [show toAVs [] x = toAVs [] () from rfl, t158]
  rfl
theorem wk159 : SpecOK Tryd.prog E0 159 w159 := by
  refine dspec_ok (E0 := E0) (E := E0.withFns []) (fns := []) tab .nil rfl rfl hm Tryd.func159 (by kernel_rfl) [.data (.sl spk)] (fun x hc => ?_)
  rw [show toAVs [] x = toAVs [] () from rfl, t159]
  rfl
theorem A5 : AllFn Tryd.prog E0 F5 := .cons wk156 (.cons wk157 (.cons wk158 (.cons wk159 .nil)))
theorem wk138 : SpecOK Tryd.prog E0 138 w138 := by
  refine dspec_ok (E0 := E0) (E := E0.withFns []) (fns := []) tab .nil rfl rfl hm Tryd.func138 (by kernel_rfl) [.data .bool] (fun x hc => ?_)
  obtain ⟨a, b, c, z⟩ := x
  have e : evFn (E0.withFns []) Tryd.f138 [.data .bool] (toAVs [.int .i64, .int .i64, .int .i64] (a, b, c, z)) [] = _ := t138 a b c
  rw [e]
  show Tr.val _ = some (rb (U.inn a b c))
  unfold U.inn
  by_cases h : b ≤ a <;> simp only [Tr.val, h, decide_true, decide_false, cond_true, cond_false, Bool.true_and, Bool.false_and] <;> rfl
end Go.Proofs.YtmnbcnhpklejcaaDoor
end
section
set_option linter.unusedVariables false
set_option linter.unusedSimpArgs false
set_option maxRecDepth 20000
namespace U
open Go Go.Ev
def width (r : Int) : Int := bif !valid r || (decide (r < 32) || (decide (127 ≤ r) && decide (r < 160))) then -1 else bif within zero r then 0 else bif within wide r then 2 else 1
def bad (s : ByteArray) : Int := bif decide (need (bt s 0) = 0) then 1 else bif !ok1 s then 1 else bif !cont (bt s 2) then 2 else 3
def isL (s : ByteArray) : Bool := !decide ((dec s).1 = 65533) || decide (1 < (dec s).2)
def first (s : ByteArray) : Int × Int × Int := bif !full s then (0, 0, 2) else bif isL s then ((dec s).1, (dec s).2, 0) else (0, bad s, 4)
def look (a : Int × Int × Int × Unit) : Bool := inn a.1 0 256 && (inn a.2.1 0 256 && inn a.2.2.1 0 255)
end U
namespace Go.Proofs.YtmnbcnhpklejcaaDoor
open Go.Ev Go.RowKit
@[reducible] def attk : Kd := .pr (.int .i64) (.pr (.int .i64) (.pr (.int .i64) .un))
@[reducible] def celk : Kd := .pr .str (.pr (.int .i64) (.pr attk .un))
@[reducible] def link : Kd := .pr (.sl celk) (.pr .bool .un)
def w140 : FSpec := dspec [.int .i32] fun x => ii (U.width x.1)
def w139 : FSpec := dspec [.str] fun x => { c := some (decide (ByteArray.size x.1 ≤ 1048576)), rs := .tup [.one (.dat (.int .i32) (U.first x.1).1), .one (.dat (.int .i64) (U.first x.1).2.1), .one (.dat (.int .i64) (U.first x.1).2.2)] }
def w94 : FSpec := dspec [attk] fun x => ib (U.look x.1)
def F6 : List (Nat × FSpec) := [(154, w154), (155, w155)]
def F7 : List (Nat × FSpec) := [(138, w138)]
def live139 (key : Nat) : Lv := bif Nat.beq key 6 then { ls := [0, 6] } else bif Nat.beq key 1006 then { ls := [6] } else { ls := [] }
abbrev E139 : Env := { (E0.withFns F6).loops live139 (fun _ _ => none) with fuel := 4 }
end Go.Proofs.YtmnbcnhpklejcaaDoor
end
section
set_option linter.unusedVariables false
set_option maxRecDepth 20000
namespace Go.Proofs.YtmnbcnhpklejcaaDoor
open Go.Ev Go.RowKit
theorem t140 (r : Int)
    : evFn (E0.withFns F5) Tryd.f140 [PM.data (Kd.int IntKind.i64)] (toAVs [Kd.int IntKind.i32] (r, ())) [] =
Tr.ite (!U.valid r) (Tr.ret { rs := Slot.av (AV.one (Leaf.dat (Kd.int IntKind.i64) (-1 : Int))), upd := [], new := [] })
  (Tr.ite (decide (r < (32 : Int))) (Tr.ret { rs := Slot.av (AV.one (Leaf.dat (Kd.int IntKind.i64) (-1 : Int))), upd := [], new := [] })
    (Tr.ite (decide ((127 : Int) ≤ r))
      (Tr.ite (decide (r < (160 : Int))) (Tr.ret { rs := Slot.av (AV.one (Leaf.dat (Kd.int IntKind.i64) (-1 : Int))), upd := [], new := [] })
        (Tr.ite true
          (Tr.ite (U.within U.zero r) (Tr.ret { rs := Slot.av (AV.one (Leaf.dat (Kd.int IntKind.i64) (0 : Int))), upd := [], new := [] })
            (Tr.ite true
              (Tr.ite (U.within U.wide r) (Tr.ret { rs := Slot.av (AV.one (Leaf.dat (Kd.int IntKind.i64) (2 : Int))), upd := [], new := [] })
                (Tr.ret { rs := Slot.av (AV.one (Leaf.dat (Kd.int IntKind.i64) (1 : Int))), upd := [], new := [] }))
              Tr.fail))
          Tr.fail))
      (Tr.ite true
        (Tr.ite (U.within U.zero r) (Tr.ret { rs := Slot.av (AV.one (Leaf.dat (Kd.int IntKind.i64) (0 : Int))), upd := [], new := [] })
          (Tr.ite true
            (Tr.ite (U.within U.wide r) (Tr.ret { rs := Slot.av (AV.one (Leaf.dat (Kd.int IntKind.i64) (2 : Int))), upd := [], new := [] })
              (Tr.ret { rs := Slot.av (AV.one (Leaf.dat (Kd.int IntKind.i64) (1 : Int))), upd := [], new := [] }))
            Tr.fail))
        Tr.fail))) := by
  kernel_rfl
theorem t139 (s : ByteArray) {v1 : Int} {v2 : Int} {v3 : Int} {v4 : Int}
    (h1 : ((U.dec s).snd + (1 : Int)) = v1)
    (h2 : (IntKind.i64.wrap v1 + (1 : Int)) = v2)
    (h3 : (IntKind.i64.wrap v2 + (1 : Int)) = v3)
    (h4 : (IntKind.i64.wrap v3 + (1 : Int)) = v4)
    : evFn E139 Tryd.f139 [PM.data (Kd.int IntKind.i32), PM.data (Kd.int IntKind.i64), PM.data (Kd.int IntKind.i64)] (toAVs [Kd.str] (s, ())) [] =
Tr.ite (!U.full s)
  (Tr.ret
    { rs := Slot.tup [AV.one (Leaf.dat (Kd.int IntKind.i32) (0 : Int)), AV.one (Leaf.dat (Kd.int IntKind.i64) (0 : Int)), AV.one (Leaf.dat (Kd.int IntKind.i64) (2 : Int))], upd := [], new := [] })
  (Tr.ite (!decide ((U.dec s).fst = (65533 : Int)))
    (Tr.ret
      { rs := Slot.tup [AV.one (Leaf.dat (Kd.int IntKind.i32) (U.dec s).fst), AV.one (Leaf.dat (Kd.int IntKind.i64) (U.dec s).snd), AV.one (Leaf.dat (Kd.int IntKind.i64) (0 : Int))], upd := [],
        new := [] })
    (Tr.ite (decide ((1 : Int) < (U.dec s).snd))
      (Tr.ret
        { rs := Slot.tup [AV.one (Leaf.dat (Kd.int IntKind.i32) (U.dec s).fst), AV.one (Leaf.dat (Kd.int IntKind.i64) (U.dec s).snd), AV.one (Leaf.dat (Kd.int IntKind.i64) (0 : Int))], upd := [],
          new := [] })
      (Tr.ite (decide ((U.dec s).snd < (↑s.size : Int)))
        (Tr.ite (decide ((0 : Int) ≤ IntKind.i64.wrap v1 ∧ IntKind.i64.wrap v1 ≤ (↑s.size : Int)))
          (Tr.ite (!U.full (s.extract (0 : Nat) (IntKind.i64.wrap v1).toNat))
            (Tr.ite (decide (IntKind.i64.wrap v1 < (↑s.size : Int)))
              (Tr.ite (decide ((0 : Int) ≤ IntKind.i64.wrap v2 ∧ IntKind.i64.wrap v2 ≤ (↑s.size : Int)))
                (Tr.ite (!U.full (s.extract (0 : Nat) (IntKind.i64.wrap v2).toNat))
                  (Tr.ite (decide (IntKind.i64.wrap v2 < (↑s.size : Int)))
                    (Tr.ite (decide ((0 : Int) ≤ IntKind.i64.wrap v3 ∧ IntKind.i64.wrap v3 ≤ (↑s.size : Int)))
                      (Tr.ite (!U.full (s.extract (0 : Nat) (IntKind.i64.wrap v3).toNat))
                        (Tr.ite (decide (IntKind.i64.wrap v3 < (↑s.size : Int)))
                          (Tr.ite (decide ((0 : Int) ≤ IntKind.i64.wrap v4 ∧ IntKind.i64.wrap v4 ≤ (↑s.size : Int)))
                            (Tr.ite (!U.full (s.extract (0 : Nat) (IntKind.i64.wrap v4).toNat)) Tr.fail
                              (Tr.ret
                                {
                                  rs :=
                                    Slot.tup
                                      [AV.one (Leaf.dat (Kd.int IntKind.i32) (0 : Int)), AV.one (Leaf.dat (Kd.int IntKind.i64) (IntKind.i64.wrap v3)),
                                        AV.one (Leaf.dat (Kd.int IntKind.i64) (4 : Int))],
                                  upd := [], new := [] }))
                            Tr.fail)
                          (Tr.ret
                            {
                              rs :=
                                Slot.tup
                                  [AV.one (Leaf.dat (Kd.int IntKind.i32) (0 : Int)), AV.one (Leaf.dat (Kd.int IntKind.i64) (IntKind.i64.wrap v3)), AV.one (Leaf.dat (Kd.int IntKind.i64) (4 : Int))],
                              upd := [], new := [] }))
                        (Tr.ret
                          {
                            rs :=
                              Slot.tup
                                [AV.one (Leaf.dat (Kd.int IntKind.i32) (0 : Int)), AV.one (Leaf.dat (Kd.int IntKind.i64) (IntKind.i64.wrap v2)), AV.one (Leaf.dat (Kd.int IntKind.i64) (4 : Int))],
                            upd := [], new := [] }))
                      Tr.fail)
                    (Tr.ret
                      {
                        rs :=
                          Slot.tup [AV.one (Leaf.dat (Kd.int IntKind.i32) (0 : Int)), AV.one (Leaf.dat (Kd.int IntKind.i64) (IntKind.i64.wrap v2)), AV.one (Leaf.dat (Kd.int IntKind.i64) (4 : Int))],
                        upd := [], new := [] }))
                  (Tr.ret
                    { rs := Slot.tup [AV.one (Leaf.dat (Kd.int IntKind.i32) (0 : Int)), AV.one (Leaf.dat (Kd.int IntKind.i64) (IntKind.i64.wrap v1)), AV.one (Leaf.dat (Kd.int IntKind.i64) (4 : Int))],
                      upd := [], new := [] }))
                Tr.fail)
              (Tr.ret
                { rs := Slot.tup [AV.one (Leaf.dat (Kd.int IntKind.i32) (0 : Int)), AV.one (Leaf.dat (Kd.int IntKind.i64) (IntKind.i64.wrap v1)), AV.one (Leaf.dat (Kd.int IntKind.i64) (4 : Int))],
                  upd := [], new := [] }))
            (Tr.ret
              { rs := Slot.tup [AV.one (Leaf.dat (Kd.int IntKind.i32) (0 : Int)), AV.one (Leaf.dat (Kd.int IntKind.i64) (U.dec s).snd), AV.one (Leaf.dat (Kd.int IntKind.i64) (4 : Int))], upd := [],
                new := [] }))
          Tr.fail)
        (Tr.ret
          { rs := Slot.tup [AV.one (Leaf.dat (Kd.int IntKind.i32) (0 : Int)), AV.one (Leaf.dat (Kd.int IntKind.i64) (U.dec s).snd), AV.one (Leaf.dat (Kd.int IntKind.i64) (4 : Int))], upd := [],
            new := [] })))) := by
  subst h1; subst h2; subst h3; subst h4; kernel_rfl
theorem t155 (s : ByteArray) {v1 : Int}
    (h1 : (bt s (0 : Int)) = v1)
    : evFn (E0.withFns F1) Tryd.f155 [PM.data (Kd.int IntKind.i32), PM.data (Kd.int IntKind.i64)] (toAVs [Kd.str] (s, ())) [] =
Tr.ite (!decide (s = { data := #[] }))
  (Tr.ite (inB (0 : Int) s.size)
    (Tr.ite (decide (v1 < (128 : Int)))
      (Tr.ite (inB (0 : Int) s.size) (Tr.ret { rs := Slot.tup [AV.one (Leaf.dat (Kd.int IntKind.i32) (IntKind.i32.wrap v1)), AV.one (Leaf.dat (Kd.int IntKind.i64) (1 : Int))], upd := [], new := [] })
        Tr.fail)
      (Tr.ret { rs := Slot.tup [AV.one (Leaf.dat (Kd.int IntKind.i32) (U.dec s).fst), AV.one (Leaf.dat (Kd.int IntKind.i64) (U.dec s).snd)], upd := [], new := [] }))
    Tr.fail)
  (Tr.ret { rs := Slot.tup [AV.one (Leaf.dat (Kd.int IntKind.i32) (U.dec s).fst), AV.one (Leaf.dat (Kd.int IntKind.i64) (U.dec s).snd)], upd := [], new := [] }) := by
  subst h1; kernel_rfl
theorem t94 (a : Int) (b : Int) (c : Int)
    : evFn (E0.withFns F7) Tryd.f94 [PM.data Kd.bool] (toAVs [attk] ((a, b, c, ()), ())) [] =
Tr.ite (U.inn a (0 : Int) (256 : Int))
  (Tr.ite (U.inn b (0 : Int) (256 : Int)) (Tr.ret { rs := Slot.av (AV.one (Leaf.dat Kd.bool (U.inn c (0 : Int) (255 : Int)))), upd := [], new := [] })
    (Tr.ret { rs := Slot.av (AV.one (Leaf.dat Kd.bool false)), upd := [], new := [] }))
  (Tr.ret { rs := Slot.av (AV.one (Leaf.dat Kd.bool false)), upd := [], new := [] }) := by
  kernel_rfl
end Go.Proofs.YtmnbcnhpklejcaaDoor
end
section
set_option linter.unusedVariables false
set_option linter.unusedSimpArgs false
set_option maxRecDepth 20000
namespace U
open Go Go.Ev Go.Proofs.YtmnbcnhpklejcaaDoor
theorem bt_pre {s : ByteArray} {k i : Nat} (h : i < k) (hk : k ≤ s.size) : bt (s.extract 0 k) (i : Int) = bt s (i : Int) := by
  rw [bt_eq (by omega), bt_eq (by omega), bl_ext, List.drop_zero]
  simp only [List.getD_eq_getElem?_getD, Int.toNat_natCast]
  rw [List.getElem?_take_of_lt h]
theorem size_pre {s : ByteArray} {k : Nat} (hk : k ≤ s.size) : (s.extract 0 k).size = k := by
  rw [← bl_len, bl_ext, List.drop_zero, List.length_take, bl_len]
  omega
theorem full_pre {s : ByteArray} {k : Nat} (h1 : 1 ≤ k) (hk : k ≤ s.size) : full (s.extract 0 k) =
    (bif decide (need (bt s 0) ≤ (k : Int)) then true else bif decide (1 < k) && !ok1 s then true else decide (2 < k) && !cont (bt s 2)) := by
  unfold full
  have e0 : bt (s.extract 0 k) 0 = bt s 0 := bt_pre (i := 0) (by omega) hk
  have e2 : 2 < k → bt (s.extract 0 k) 2 = bt s 2 := fun h => bt_pre (i := 2) h hk
  have e1 : 1 < k → ok1 (s.extract 0 k) = ok1 s := fun h => by
    unfold ok1
    have e1 : bt (s.extract 0 k) 1 = bt s 1 := bt_pre (i := 1) h hk
    rw [e0, e1]
  rw [size_pre hk, e0, decide_eq_false (show ¬ k = 0 by omega), cond_false]
  by_cases h : 1 < k
  · rw [e1 h]
    by_cases h2 : 2 < k
    · rw [e2 h2]
    · simp only [h2, decide_false, Bool.false_and]
  · have h2 : ¬ 2 < k := by omega
    simp only [h, h2, decide_false, Bool.false_and]
theorem bad_cases {s : ByteArray} (hf : full s = true) (hl : isL s = false) : (dec s).1 = 65533 ∧ (dec s).2 = 1 ∧ 1 ≤ s.size ∧
    (need (bt s 0) = 0 ∨ (2 ≤ need (bt s 0) ∧ 1 < s.size ∧ ok1 s = false) ∨ (3 ≤ need (bt s 0) ∧ 2 < s.size ∧ ok1 s = true ∧ cont (bt s 2) = false) ∨
      (need (bt s 0) = 4 ∧ 3 < s.size ∧ ok1 s = true ∧ cont (bt s 2) = true)) := by
  unfold isL at hl
  unfold full at hf
  have hs : ¬ s.size = 0 := fun h => by rw [decide_eq_true h] at hf; cases hf
  rw [decide_eq_false hs, cond_false] at hf
  have hN := need_cases (bt s 0)
  unfold dec at hl ⊢
  simp only [decide_eq_false hs, cond_false] at hl ⊢
  by_cases c0 : need (bt s 0) = 0
  · simp only [decide_eq_true c0, cond_true]
    exact ⟨by trivial, by trivial, by omega, .inl c0⟩
  simp only [decide_eq_false c0, cond_false] at hl ⊢
  by_cases c1 : need (bt s 0) = 1
  · simp only [decide_eq_true c1, cond_true] at hl
    have h2 : bt s 0 = 65533 := by simpa using hl
    omega
  simp only [decide_eq_false c1, cond_false] at hl ⊢
  by_cases c2 : (s.size : Int) < need (bt s 0)
  · simp only [decide_eq_true c2, cond_true]
    rw [decide_eq_false (show ¬ need (bt s 0) ≤ (s.size : Int) by omega), cond_false] at hf
    refine ⟨by trivial, by trivial, by omega, ?_⟩
    cases ho : ok1 s with
    | false =>
      by_cases h1 : 1 < s.size
      · exact .inr (.inl ⟨by omega, h1, by trivial⟩)
      · have h2 : ¬ 2 < s.size := by omega
        simp [h1, h2] at hf
    | true =>
      rw [ho] at hf
      simp only [Bool.not_true, Bool.and_false, cond_false, Bool.and_eq_true, decide_eq_true_eq, Bool.not_eq_true'] at hf
      exact .inr (.inr (.inl ⟨by omega, hf.1, by trivial, hf.2⟩))
  simp only [decide_eq_false c2, cond_false] at hl ⊢
  cases ho : ok1 s with
  | false =>
    simp only [ho, Bool.not_false, cond_true]
    exact ⟨by trivial, by trivial, by omega, .inr (.inl ⟨by omega, by omega, by trivial⟩)⟩
  | true =>
    rw [ho] at hl
    simp only [Bool.not_true, cond_false] at hl ⊢
    by_cases c3 : need (bt s 0) = 2
    · simp only [decide_eq_true c3, cond_true] at hl
      simp at hl
    simp only [decide_eq_false c3, cond_false] at hl ⊢
    cases hc : cont (bt s 2) with
    | false =>
      simp only [hc, Bool.not_false, cond_true]
      exact ⟨by trivial, by trivial, by omega, .inr (.inr (.inl ⟨by omega, by omega, by trivial, by trivial⟩))⟩
    | true =>
      rw [hc] at hl
      simp only [Bool.not_true, cond_false] at hl ⊢
      by_cases c4 : need (bt s 0) = 3
      · simp only [decide_eq_true c4, cond_true] at hl
        simp at hl
      simp only [decide_eq_false c4, cond_false] at hl ⊢
      cases hd : cont (bt s 3) with
      | false =>
        simp only [hd, Bool.not_false, cond_true]
        exact ⟨by trivial, by trivial, by omega, .inr (.inr (.inr ⟨by omega, by omega, by trivial, by trivial⟩))⟩
      | true =>
        rw [hd] at hl
        simp at hl
end U
namespace Go.Proofs.YtmnbcnhpklejcaaDoor
open Go.Ev Go.RowKit
theorem v155 (s : ByteArray) : (evFn (E0.withFns F1) Tryd.f155 [.data (.int .i32), .data (.int .i64)] (toAVs [.str] (s, ())) []).val = some (rd (U.dec s)) := by
  rw [t155 s rfl]
  by_cases c0 : s = { data := #[] }
  · simp only [Tr.val, c0, decide_true, Bool.not_true, cond_false]
  · have hp : 0 < s.size := by
      rcases Nat.eq_zero_or_pos s.size with e | e
      · refine absurd (bl_inj ?_) c0
        rw [show bl ({ data := #[] } : ByteArray) = [] from rfl]
        exact List.length_eq_zero_iff.1 (by rw [bl_len]; exact e)
      · exact e
    have i0 : inB 0 s.size = true := inB_true ⟨by omega, by omega⟩
    have hs : ¬ s.size = 0 := by omega
    have b0 := bt_ge s 0
    have b1 := bt_lt s 0
    by_cases c1 : bt s 0 < 128
    · have hn : U.need (bt s 0) = 1 := by unfold U.need; rw [if_pos c1]
      have e : U.dec s = (bt s 0, 1) := by
        unfold U.dec
        rw [decide_eq_false hs, hn]
        rfl
      simp only [Tr.val, c0, c1, i0, e, decide_true, decide_false, Bool.not_false, cond_true, wrap32_id (show -2147483648 ≤ bt s 0 by omega) (by omega)]
    · simp only [Tr.val, c0, c1, i0, decide_true, decide_false, Bool.not_false, cond_true, cond_false]
theorem wk155 : SpecOK Tryd.prog E0 155 w155 := by
  refine dspec_ok (E0 := E0) (E := E0.withFns F1) (fns := F1) tab (.cons wk169 .nil) rfl rfl hm Tryd.func155 (by kernel_rfl) [.data (.int .i32), .data (.int .i64)] (fun x hx => ?_)
  obtain ⟨s, z⟩ := x
  exact v155 s
theorem A6 : AllFn Tryd.prog E0 F6 := .cons wk154 (.cons wk155 .nil)
theorem v140 (r : Int) : (evFn (E0.withFns F5) Tryd.f140 [.data (.int .i64)] (toAVs [.int .i32] (r, ())) []).val = some (ri (U.width r)) := by
  rw [t140 r]
  unfold U.width
  cases h1 : U.valid r <;> by_cases h2 : r < 32 <;> by_cases h3 : 127 ≤ r <;> by_cases h4 : r < 160 <;> cases h5 : U.within U.zero r <;> cases h6 : U.within U.wide r <;>
    simp only [Tr.val, h1, h2, h3, h4, h5, h6, decide_true, decide_false, cond_true, cond_false, Bool.not_true, Bool.not_false, Bool.true_and, Bool.and_true, Bool.false_and, Bool.and_false, Bool.or_true, Bool.true_or, Bool.or_false, Bool.false_or, Bool.or_self, Bool.and_self] <;> rfl
theorem wk140 : SpecOK Tryd.prog E0 140 w140 := by
  refine dspec_ok (E0 := E0) (E := E0.withFns F5) (fns := F5) tab A5 rfl rfl hm Tryd.func140 (by kernel_rfl) [.data (.int .i64)] (fun x hx => ?_)
  obtain ⟨s, z⟩ := x
  exact v140 s
theorem wk94 : SpecOK Tryd.prog E0 94 w94 := by
  refine dspec_ok (E0 := E0) (E := E0.withFns F7) (fns := F7) tab (.cons wk138 .nil) rfl rfl hm Tryd.func94 (by kernel_rfl) [.data .bool] (fun x hx => ?_)
  obtain ⟨⟨a, b, c, z⟩, z'⟩ := x
  have e : evFn (E0.withFns F7) Tryd.f94 [.data .bool] (toAVs [attk] ((a, b, c, z), z')) [] = _ := t94 a b c
  rw [e]
  show Tr.val _ = some (rb (U.inn a 0 256 && (U.inn b 0 256 && U.inn c 0 255)))
  cases h1 : U.inn a 0 256 <;> cases h2 : U.inn b 0 256 <;> simp only [Tr.val, h1, h2, cond_true, cond_false, Bool.true_and, Bool.false_and] <;> rfl
abbrev r3 (x : Int × Int × Int) : FRes := ⟨.tup [.one (.dat (.int .i32) x.1), .one (.dat (.int .i64) x.2.1), .one (.dat (.int .i64) x.2.2)], [], []⟩
theorem v139 (s : ByteArray) : (evFn E139 Tryd.f139 [.data (.int .i32), .data (.int .i64), .data (.int .i64)] (toAVs [.str] (s, ())) []).val = some (r3 (U.first s)) := by
  rw [t139 s rfl rfl rfl rfl]
  unfold U.first
  cases hf : U.full s with
  | false => simp only [Tr.val, hf, Bool.not_false, cond_true]
  | true =>
    simp only [Tr.val, hf, Bool.not_true, cond_false]
    cases hl : U.isL s with
    | true =>
      unfold U.isL at hl
      by_cases c1 : (U.dec s).1 = 65533
      · rw [decide_eq_true c1] at hl
        have c2 : (1 : Int) < (U.dec s).2 := by simpa using hl
        simp only [c1, c2, decide_true, Bool.not_true, cond_true, cond_false]
      · simp only [c1, decide_false, Bool.not_false, cond_true]
    | false =>
      obtain ⟨h1, h2, h3, h4⟩ := U.bad_cases hf hl
      rw [h1, h2]
      have w2 : IntKind.i64.wrap (1 + 1) = 2 := by decide
      have w3 : IntKind.i64.wrap (2 + 1) = 3 := by decide
      have w4 : IntKind.i64.wrap (3 + 1) = 4 := by decide
      simp only [w2, w3, w4, decide_true, Bool.not_true, cond_false, show ¬ (1 : Int) < 1 by omega, decide_false]
      unfold U.bad
      by_cases c1 : (1 : Int) < (s.size : Int)
      · have p2 := U.full_pre (s := s) (k := 2) (by omega) (by omega)
        rw [show ((2 : Int).toNat) = 2 from rfl, show ((3 : Int).toNat) = 3 from rfl, show ((4 : Int).toNat) = 4 from rfl, p2]
        have i2 : decide ((0 : Int) ≤ 2 ∧ (2 : Int) ≤ (s.size : Int)) = true := decide_eq_true ⟨by omega, by omega⟩
        rcases h4 with h4 | ⟨a, b, c⟩ | ⟨a, b, c, d⟩ | ⟨a, b, c, d⟩
        · simp only [c1, i2, h4, decide_true, cond_true, Bool.not_true, cond_false, show (0 : Int) ≤ ((2 : Nat) : Int) by omega]
        · have e0 : ¬ U.need (bt s 0) = 0 := by omega
          by_cases e2 : U.need (bt s 0) ≤ ((2 : Nat) : Int)
          · simp only [c1, i2, e0, e2, c, decide_true, decide_false, cond_true, Bool.not_true, Bool.not_false, cond_false]
          · simp only [c1, i2, e0, e2, c, decide_true, decide_false, cond_true, Bool.not_true, Bool.not_false, cond_false, show 1 < 2 by omega, Bool.and_self]
        · have e0 : ¬ U.need (bt s 0) = 0 := by omega
          have e2 : ¬ U.need (bt s 0) ≤ ((2 : Nat) : Int) := by omega
          have p3 := U.full_pre (s := s) (k := 3) (by omega) (by omega)
          rw [p3]
          have i3 : decide ((0 : Int) ≤ 3 ∧ (3 : Int) ≤ (s.size : Int)) = true := decide_eq_true ⟨by omega, by omega⟩
          have c2 : (2 : Int) < (s.size : Int) := by omega
          by_cases e3 : U.need (bt s 0) ≤ ((3 : Nat) : Int)
          · simp only [c1, c2, i2, i3, e0, e2, e3, c, d, decide_true, decide_false, cond_true, Bool.not_true, Bool.not_false, cond_false, show 1 < 2 by omega, show ¬ 2 < 2 by omega, Bool.and_self, Bool.and_false, Bool.false_and]
          · simp only [c1, c2, i2, i3, e0, e2, e3, c, d, decide_true, decide_false, cond_true, Bool.not_true, Bool.not_false, cond_false, show 1 < 2 by omega, show ¬ 2 < 2 by omega, show 1 < 3 by omega, show 2 < 3 by omega, Bool.and_self, Bool.and_false, Bool.false_and]
        · have e0 : ¬ U.need (bt s 0) = 0 := by omega
          have e2 : ¬ U.need (bt s 0) ≤ ((2 : Nat) : Int) := by omega
          have e3 : ¬ U.need (bt s 0) ≤ ((3 : Nat) : Int) := by omega
          have e4 : U.need (bt s 0) ≤ ((4 : Nat) : Int) := by omega
          have p3 := U.full_pre (s := s) (k := 3) (by omega) (by omega)
          have p4 := U.full_pre (s := s) (k := 4) (by omega) (by omega)
          rw [p3, p4]
          have i3 : decide ((0 : Int) ≤ 3 ∧ (3 : Int) ≤ (s.size : Int)) = true := decide_eq_true ⟨by omega, by omega⟩
          have i4 : decide ((0 : Int) ≤ 4 ∧ (4 : Int) ≤ (s.size : Int)) = true := decide_eq_true ⟨by omega, by omega⟩
          have c2 : (2 : Int) < (s.size : Int) := by omega
          have c3 : (3 : Int) < (s.size : Int) := by omega
          simp only [c1, c2, c3, i2, i3, i4, e0, e2, e3, e4, c, d, decide_true, decide_false, cond_true, Bool.not_true, Bool.not_false, cond_false, show 1 < 2 by omega, show ¬ 2 < 2 by omega, show 1 < 3 by omega, show 2 < 3 by omega, Bool.and_self, Bool.and_false, Bool.false_and]
      · rcases h4 with h4 | ⟨a, b, c⟩ | ⟨a, b, c, d⟩ | ⟨a, b, c, d⟩
        · simp only [c1, h4, decide_true, decide_false, cond_true, cond_false]
        · omega
        · omega
        · omega
end Go.Proofs.YtmnbcnhpklejcaaDoor
end
section
set_option linter.unusedVariables false
set_option linter.unusedSimpArgs false
set_option maxRecDepth 20000
open Go Go.Ev
namespace Go.Proofs.YtmnbcnhpklejcaaDoor
open Go.RowKit
abbrev Attr := Int × Int × Int × Unit
abbrev Cell := ByteArray × Int × Attr × Unit
abbrev Line := List Cell × Bool × Unit
theorem wk139 : SpecOK Tryd.prog E0 139 w139 := by
  refine dspec_ok (E0 := E0) (E := E139) (fns := F6) tab A6 rfl rfl hm Tryd.func139 (by kernel_rfl) [.data (.int .i32), .data (.int .i64), .data (.int .i64)] (fun x hx => ?_)
  obtain ⟨s, z⟩ := x
  exact v139 s
abbrev G0 : List (Nat × FSpec) := [(139, w139), (140, w140), (138, w138), (94, w94)]
theorem AG0 : AllFn Tryd.prog E0 G0 := .cons wk139 (.cons wk140 (.cons wk138 (.cons wk94 .nil)))
def live141 (key : Nat) : Lv :=
  bif Nat.beq key 2 then { ls := [0, 3] } else bif Nat.beq key 1002 then { ls := [2, 3] } else
  { ls := [] }
abbrev M141 (ls : Nat → VS → Option (Tr (Ex × VS))) : Env := (E0.withFns G0).loops live141 ls
@[reducible] def p141_0 : LP := { n := 28, sl := [.d (Kd.str), .d (.int .i64)], bl := [] }
def B141_0 (x0 : ByteArray) (x1 : Int) : Tr (p141_0.T ⊕ (Int × Int ⊕ Int)) :=
 let v1 : Int := (U.first x0).fst
 let v2 : Int := (U.first x0).snd.snd
 let v3 : Int := (U.first x0).snd.fst
 Tr.ite (!decide (x0 = { data := #[] })) (Tr.ite (decide (x0.size ≤ (1048576 : Nat))) (Tr.ite (!decide (v2 = (0 : Int))) (Tr.ret (Sum.inr (Sum.inl ((-1 : Int), x1)))) (Tr.ite (!decide (U.width v1 = (0 : Int))) (Tr.ret (Sum.inr (Sum.inl ((-1 : Int), x1)))) (Tr.ite (decide ((0 : Int) ≤ v3 ∧ v3 ≤ (↑x0.size : Int))) (Tr.ret (Sum.inl ((x0.extract v3.toNat x0.size, IntKind.i64.wrap (x1 + (1 : Int)), ()), ()))) Tr.fail))) Tr.fail) (Tr.ret (Sum.inr (Sum.inr x1)))
def X141_0 : (Int × Int ⊕ Int) → Ex × VS
  | (.inl r) => Prod.mk Ex.ret { n := 28, v := [Slot.av (AV.one (Leaf.dat (.int .i64) r.fst)), Slot.av (AV.one (Leaf.dat (.int .i64) r.snd))], h := [] }
  | (.inr r) => Prod.mk (Ex.exit ( 0)) { n := 28, v := [Slot.av (AV.one Leaf.undef), Slot.av (AV.one (Leaf.dat (.int .i64) r))], h := [] }
def b141_0 : p141_0.T → Tr (p141_0.T ⊕ (Int × Int ⊕ Int)) := fun ⟨⟨x0, ⟨x1, _⟩⟩, _⟩ => B141_0 x0 x1
theorem h141_0 (ls : Nat → VS → Option (Tr (Ex × VS))) (x : p141_0.T) : (evC (evI 2) (lc Tryd.f141 0) (Env.lend (M141 ls) 0) (unV (live141 2) (p141_0.V x))).map (decL 0 (live141 2) (live141 1002)) = (b141_0 x).map (encR p141_0.V X141_0) := by
  obtain ⟨⟨x0, ⟨x1, _⟩⟩, _⟩ := x; kernel_rfl
theorem c141_0 (x : p141_0.T) : canV 0 (live141 2) (unV (live141 2) (p141_0.V x)) = p141_0.V x := by
  obtain ⟨⟨x0, ⟨x1, _⟩⟩, _⟩ := x; kernel_rfl
theorem l141_0 {T : p141_0.T → Tr (Int × Int ⊕ Int)} {ls : Nat → VS → Option (Tr (Ex × VS))} (hls : ∀ x, (Env.lend (M141 ls) 0).ls 2 x = p141_0.ls (fun a => (T a).map X141_0) x) (hS : ∀ x r, (T x).val = some r → Rounds b141_0 x r) : LoopOK (evI 2) (Env.lend (M141 ls) 0) (lc Tryd.f141 0) :=
  loopA 2 (live141 2) (live141 1002) p141_0 b141_0 X141_0 T (by kernel_rfl) rfl rfl hls (h141_0 ls) c141_0 hS
end Go.Proofs.YtmnbcnhpklejcaaDoor
namespace U
open Go Go.Ev
def marksL : Nat → ByteArray → Int → Int × Int ⊕ Int
  | 0, _, n => .inr n
  | k + 1, s, n => if s.size = 0 then .inr n else if (first s).2.2 = 0 ∧ width (first s).1 = 0 then marksL k (s.extract (first s).2.1.toNat s.size) (n + 1) else .inl (-1, n)
def marks (s : ByteArray) : Int := match marksL s.size s 0 with
  | .inr n => n
  | .inl r => r.1
def cellR (c : ByteArray × Int × (Int × Int × Int × Unit) × Unit) : Bool :=
  if c.1.size = 0 then look c.2.2.1 && inn c.2.1 0 1 else
  if (first c.1).2.2 = 0 ∧ inn c.2.1 1 2 = true ∧ width (first c.1).1 = c.2.1 then look c.2.2.1 && inn (marks (c.1.extract (first c.1).2.1.toNat c.1.size)) 0 2 else false
theorem first_ok {s : ByteArray} (h : (first s).2.2 = 0) : 1 ≤ (first s).2.1 ∧ (first s).2.1 ≤ (s.size : Int) := by
  unfold first at h ⊢
  cases hf : full s with
  | false => rw [hf] at h; simp at h
  | true =>
    rw [hf] at h
    cases hl : isL s with
    | false => rw [hl] at h; simp at h
    | true =>
      simp only [Bool.not_true, cond_false, cond_true]
      unfold full at hf
      unfold isL at hl
      have hN := need_cases (bt s 0)
      unfold dec at hl ⊢
      by_cases c0 : s.size = 0
      · simp [c0] at hf
      by_cases c1 : need (bt s 0) = 0
      · simp [c0, c1] at hl
      by_cases c2 : need (bt s 0) = 1
      · simp only [c0, c2, decide_true, decide_false, cond_true, cond_false, show ¬ (1 : Int) = 0 by omega]
        omega
      by_cases c3 : (s.size : Int) < need (bt s 0)
      · simp [c0, c1, c2, c3] at hl
      cases ho : ok1 s with
      | false => simp [c0, c1, c2, c3, ho] at hl
      | true =>
        by_cases c4 : need (bt s 0) = 2
        · have h9 : ¬ ((s.size : Int) < 2) := by omega
          simp [c0, c4, ho, h9]
          omega
        cases h1 : cont (bt s 2) with
        | false => simp [c0, c1, c2, c3, c4, ho, h1] at hl
        | true =>
          by_cases c5 : need (bt s 0) = 3
          · have h9 : ¬ ((s.size : Int) < 3) := by omega
            simp [c0, c5, ho, h1, h9]
            omega
          cases h2 : cont (bt s 3) with
          | false => simp [c0, c1, c2, c3, c4, c5, ho, h1, h2] at hl
          | true =>
            simp only [c0, c1, c2, c3, c4, c5, ho, h1, h2, decide_true, decide_false, cond_true, cond_false, Bool.not_true]
            omega
end U
namespace Go.Proofs.YtmnbcnhpklejcaaDoor
open Go Go.Ev Go.RowKit
def T141 (x : p141_0.T) : Tr (Int × Int ⊕ Int) := .ite (decide (ByteArray.size x.1.1 ≤ 1048576 ∧ x.1.2.1 = 0)) (.spl (U.marksL (ByteArray.size x.1.1) x.1.1 0) (0, 0) 0) .fail
abbrev E141 : Env := M141 fun key x => bif Nat.beq key 2 then p141_0.ls (fun a => (T141 a).map X141_0) x else none
theorem r141 : ∀ (k : Nat) (s : ByteArray) (n : Nat), s.size ≤ k → n + k ≤ 1048576 → Rounds b141_0 ((s, (n : Int), ()), ()) (U.marksL k s n)
  | 0, s, n, h1, h2 => by
    refine .exit ?_
    have := ba_nil (s := s) (by omega)
    subst this
    rfl
  | k + 1, s, n, h1, h2 => by
    by_cases h0 : s.size = 0
    · refine .exit ?_
      have := ba_nil (s := s) (by omega)
      subst this
      rfl
    · have hne := ba_ne h0
      have hsz : s.size ≤ 1048576 := by omega
      simp only [U.marksL, h0, if_false]
      by_cases h3 : (U.first s).2.2 = 0
      · by_cases h4 : U.width (U.first s).1 = 0
        · obtain ⟨a, b⟩ := U.first_ok h3
          rw [if_pos ⟨h3, h4⟩]
          refine .step (y := ((s.extract (U.first s).2.1.toNat s.size, ((n + 1 : Nat) : Int), ()), ())) ?_ ?_
          · have hb : (0 : Int) ≤ (U.first s).2.1 ∧ (U.first s).2.1 ≤ (s.size : Int) := ⟨by omega, b⟩
            simp only [b141_0, B141_0, Tr.val, h3, h4, hne, hsz, hb, decide_true, decide_false, Bool.not_false, Bool.not_true, cond_true, cond_false, wrap64_nat (show n ≤ 1048576 by omega), and_self]
          · refine r141 k _ (n + 1) ?_ (by omega)
            rw [← bl_len, bl_ext, List.length_drop, List.length_take, bl_len]
            omega
        · rw [if_neg (fun h => h4 h.2)]
          refine .exit ?_
          simp only [b141_0, B141_0, Tr.val, h3, h4, hne, hsz, decide_true, decide_false, Bool.not_false, Bool.not_true, cond_true, cond_false]
      · rw [if_neg (fun h => h3 h.1)]
        refine .exit ?_
        simp only [b141_0, B141_0, Tr.val, h3, hne, hsz, decide_true, decide_false, Bool.not_false, Bool.not_true, cond_true, cond_false]
theorem L141 : LoopOK (evI 2) (E141.lend 0) (lc Tryd.f141 0) := by
  refine l141_0 (T := T141) (fun x => rfl) ?_
  rintro ⟨⟨s, n, z⟩, z'⟩ r h
  obtain ⟨h1, h2⟩ := pre_val h
  rw [Tr.val_spl] at h2
  cases h2
  have h1 := of_decide_eq_true h1
  have h3 : n = (0 : Int) := h1.2
  subst h3
  exact r141 _ s 0 (Nat.le_refl _) (by have := h1.1; dsimp at this; omega)
def d141 (a : ByteArray) : Tr (Int) :=
 Tr.ite (decide (a.size ≤ (1048576 : Nat) ∧ (0 : Int) = (0 : Int))) (Tr.ite (U.marksL a.size a (0 : Int)).isLeft (Tr.ret ((U.marksL a.size a (0 : Int)).getLeft?.getD ((0 : Int), (0 : Int))).fst) (Tr.ret ((U.marksL a.size a (0 : Int)).getRight?.getD (0 : Int)))) Tr.fail
def e141 (r : Int) : FRes := { rs := Slot.av (AV.one (Leaf.dat (.int .i64) r)), upd := [], new := [] }
@[reducible] def a141 : List AK := [AK.d Kd.str]
@[reducible] def b141 : List BK := []
theorem t141 (a : ByteArray) : evFn (E141) Tryd.f141 [PM.data (.int .i64)] (akAV a141 (a, ())) (bkBs b141 ()) = (d141 a).map e141 := by kernel_rfl
def s141 (C : akT a141 → Bool) (G : akT a141 → Int) : FSpec := aspec a141 b141 e141 (fun x _ => C x) (fun x _ => G x)
theorem k141 {C : akT a141 → Bool} {G : akT a141 → Int} (hd : ∀ (a : ByteArray), C (a, ()) = true → (d141 a).val = some (G (a, ()))) (IO : ItOK Tryd.prog (E141) := by exact itOK_none rfl) (L : ∀ c, Tryd.f141.body = some c → LsOK (evI 2) ((E141).lend 0) c := by exact fun c _ => LsOK_none rfl c) : SpecOK Tryd.prog E0 141 (s141 C G) :=
  aspec_ok (E := E141) tab AG0 rfl rfl hm Tryd.func141 (by kernel_rfl) [PM.data (.int .i64)] (fun X Y H => by obtain ⟨a, _⟩ := X; exact val_of (t141 a) (hd a H)) IO L
theorem wk141 : SpecOK Tryd.prog E0 141 (s141 (fun x => decide (ByteArray.size x.1 ≤ 1048576)) fun x => U.marks x.1) := by
  refine k141 (fun a h => ?_) (L := ls_ok (lcs := [lc Tryd.f141 0]) (rgs := []) (by kernel_rfl) (by kernel_rfl) L141 trivial)
  have h' : a.size ≤ 1048576 := of_decide_eq_true h
  simp only [d141, Tr.val, h', decide_true, cond_true, and_self]
  show _ = some (U.marks a)
  unfold U.marks
  cases hm : U.marksL a.size a 0 <;> rfl
abbrev G1 : List (Nat × FSpec) := (141, s141 (fun x => decide (ByteArray.size x.1 ≤ 1048576)) fun x => U.marks x.1) :: G0
theorem AG1 : AllFn Tryd.prog E0 G1 := .cons wk141 AG0
abbrev E89 : Env := E0.withFns G1
def d89 (a1 : ByteArray) (a2 : Int) (a31 : Int) (a32 : Int) (a33 : Int) : Tr (Bool) :=
 let v1 : Int := (U.first a1).fst
 let v2 : Int := (U.first a1).snd.snd
 let v3 : Int := (U.first a1).snd.fst
 let v4 : ByteArray := a1.extract v3.toNat a1.size
 Tr.ite (decide (a1 = { data := #[] })) (Tr.ite (U.look (a31, a32, a33, ())) (Tr.ret (U.inn a2 (0 : Int) (1 : Int))) (Tr.ret false)) (Tr.ite (decide (a1.size ≤ (1048576 : Nat))) (Tr.ite (!decide (v2 = (0 : Int))) (Tr.ret false) (Tr.ite (!U.inn a2 (1 : Int) (2 : Int)) (Tr.ret false) (Tr.ite (!decide (U.width v1 = a2)) (Tr.ret false) (Tr.ite (U.look (a31, a32, a33, ())) (Tr.ite (decide ((0 : Int) ≤ v3 ∧ v3 ≤ (↑a1.size : Int))) (Tr.ite (decide (v4.size ≤ (1048576 : Nat))) (Tr.ret (U.inn (U.marks v4) (0 : Int) (2 : Int))) Tr.fail) Tr.fail) (Tr.ret false))))) Tr.fail)
def e89 (r : Bool) : FRes := { rs := Slot.av (AV.one (Leaf.dat Kd.bool r)), upd := [], new := [] }
@[reducible] def a89 : List AK := [AK.d celk]
@[reducible] def b89 : List BK := []
theorem t89 (a1 : ByteArray) (a2 : Int) (a31 : Int) (a32 : Int) (a33 : Int) : evFn (E89) Tryd.f89 [PM.data Kd.bool] (akAV a89 ((a1, a2, (a31, a32, a33, ()), ()), ())) (bkBs b89 ()) = (d89 a1 a2 a31 a32 a33).map e89 := by kernel_rfl
def s89 (C : akT a89 → Bool) (G : akT a89 → Bool) : FSpec := aspec a89 b89 e89 (fun x _ => C x) (fun x _ => G x)
theorem k89 {C : akT a89 → Bool} {G : akT a89 → Bool} (hd : ∀ (a1 : ByteArray) (a2 : Int) (a31 : Int) (a32 : Int) (a33 : Int), C ((a1, a2, (a31, a32, a33, ()), ()), ()) = true → (d89 a1 a2 a31 a32 a33).val = some (G ((a1, a2, (a31, a32, a33, ()), ()), ()))) (IO : ItOK Tryd.prog (E89) := by exact itOK_none rfl) (L : ∀ c, Tryd.f89.body = some c → LsOK (evI 2) ((E89).lend 0) c := by exact fun c _ => LsOK_none rfl c) : SpecOK Tryd.prog E0 89 (s89 C G) :=
  aspec_ok (E := E89) tab AG1 rfl rfl hm Tryd.func89 (by kernel_rfl) [PM.data Kd.bool] (fun X Y H => by obtain ⟨⟨a1, ⟨a2, ⟨⟨a31, ⟨a32, ⟨a33, _⟩⟩⟩, _⟩⟩⟩, _⟩ := X; exact val_of (t89 a1 a2 a31 a32 a33) (hd a1 a2 a31 a32 a33 H)) IO L
theorem wk89 : SpecOK Tryd.prog E0 89 (s89 (fun x => decide (ByteArray.size x.1.1 ≤ 1048576)) fun x => U.cellR x.1) := by
  refine k89 fun s w f g h H => ?_
  have H' : s.size ≤ 1048576 := of_decide_eq_true H
  show _ = some (U.cellR (s, w, (f, g, h, ()), ()))
  unfold U.cellR d89
  by_cases h0 : s.size = 0
  · have := ba_nil h0
    subst this
    cases h1 : U.look (f, g, h, ()) <;> simp only [Tr.val, h1, h0, decide_true, cond_true, cond_false, if_true, Bool.true_and, Bool.false_and]
  · have h1 := ba_ne h0
    by_cases h2 : (U.first s).2.2 = 0
    · obtain ⟨a, b⟩ := U.first_ok h2
      have hb : (0 : Int) ≤ (U.first s).2.1 ∧ (U.first s).2.1 ≤ (s.size : Int) := ⟨by omega, b⟩
      have hs : (s.extract (U.first s).2.1.toNat s.size).size ≤ 1048576 := by
        rw [← bl_len, bl_ext, List.length_drop, List.length_take, bl_len]
        omega
      cases h3 : U.inn w 1 2 <;> by_cases h4 : U.width (U.first s).1 = w <;> cases h5 : U.look (f, g, h, ()) <;>
        simp only [Tr.val, h0, h1, h2, h3, h4, h5, hb, hs, H', decide_true, decide_false, cond_true, cond_false, Bool.not_true, Bool.not_false, if_true, if_false, and_self, and_true, true_and, and_false, false_and, Bool.true_and, Bool.false_and, reduceCtorEq]
    · simp only [Tr.val, h0, h1, h2, H', decide_true, decide_false, cond_true, cond_false, Bool.not_false, if_false, false_and]
def d87 (a : List Cell) (b : Int) : Tr (Bool) :=
 let v1 : Int := (↑a.length : Int)
 let v2 : Int := b + (1 : Int)
 let v3 : Int := b - (1 : Int)
 Tr.ite (inB b a.length) (Tr.ite (decide ((rget celk a b).snd.fst = (2 : Int))) (Tr.ite (decide (IntKind.i64.wrap v2 < v1)) (Tr.ite (inB (IntKind.i64.wrap v2) a.length) (Tr.ret (decide ((rget celk a (IntKind.i64.wrap v2)).snd.fst = (0 : Int)))) Tr.fail) (Tr.ret false)) (Tr.ite (decide ((rget celk a b).snd.fst = (0 : Int))) (Tr.ite (decide ((0 : Int) < b)) (Tr.ite (inB (IntKind.i64.wrap v3) a.length) (Tr.ret (decide ((rget celk a (IntKind.i64.wrap v3)).snd.fst = (2 : Int)))) Tr.fail) (Tr.ret false)) (Tr.ret true))) Tr.fail
def e87 (r : Bool) : FRes := { rs := Slot.av (AV.one (Leaf.dat Kd.bool r)), upd := [], new := [] }
@[reducible] def a87 : List AK := [AK.d celk.sl, AK.d (.int .i64)]
@[reducible] def b87 : List BK := []
theorem t87 (a : List Cell) (b : Int) : evFn (E0) Tryd.f87 [PM.data Kd.bool] (akAV a87 (a, b, ())) (bkBs b87 ()) = (d87 a b).map e87 := by kernel_rfl
def s87 (C : akT a87 → Bool) (G : akT a87 → Bool) : FSpec := aspec a87 b87 e87 (fun x _ => C x) (fun x _ => G x)
theorem k87 {C : akT a87 → Bool} {G : akT a87 → Bool} (hd : ∀ (a : List Cell) (b : Int), C (a, b, ()) = true → (d87 a b).val = some (G (a, b, ()))) (IO : ItOK Tryd.prog (E0) := by exact itOK_none rfl) (L : ∀ c, Tryd.f87.body = some c → LsOK (evI 2) ((E0).lend 0) c := by exact fun c _ => LsOK_none rfl c) : SpecOK Tryd.prog E0 87 (s87 C G) :=
  aspec_ok (E := E0) tab .nil rfl rfl hm Tryd.func87 (by kernel_rfl) [PM.data Kd.bool] (fun X Y H => by obtain ⟨a, ⟨b, _⟩⟩ := X; exact val_of (t87 a b) (hd a b H)) IO L
end Go.Proofs.YtmnbcnhpklejcaaDoor
namespace U
open Go Go.Ev
abbrev Cl := ByteArray × Int × (Int × Int × Int × Unit) × Unit
def dC : Cl := (ByteArray.empty, 0, (0, 0, 0, ()), ())
def cw (l : List Cl) (i : Nat) : Int := (l.getD i dC).2.1
def whole (l : List Cl) (i : Nat) : Bool :=
  if cw l i = 2 then decide (i + 1 < l.length) && decide (cw l (i + 1) = 0) else
  if cw l i = 0 then decide (0 < i) && decide (cw l (i - 1) = 2) else true
end U
namespace Go.Proofs.YtmnbcnhpklejcaaDoor
open Go Go.Ev Go.RowKit
theorem cw_eq (l : List Cell) (i : Nat) : (rget celk l (i : Int)).2.1 = U.cw l i := by rw [rget_nat]; rfl
theorem wk87 : SpecOK Tryd.prog E0 87 (s87 (fun x => decide (0 ≤ (x.2.1 : Int) ∧ (x.2.1 : Int) < (List.length (α := Cell) x.1 : Int) ∧ List.length (α := Cell) x.1 ≤ 1048576)) fun x => U.whole x.1 x.2.1.toNat) := by
  refine k87 fun l i H => ?_
  obtain ⟨h0, h1, h2⟩ := of_decide_eq_true H
  dsimp only at h0 h1 h2
  obtain ⟨n, rfl⟩ := Int.eq_ofNat_of_zero_le h0
  show _ = some (U.whole l n)
  have hn : n < l.length := Int.ofNat_lt.1 h1
  have w1 : IntKind.i64.wrap ((n : Int) + 1) = ((n + 1 : Nat) : Int) := wrap64_nat (by omega)
  unfold U.whole d87
  simp only [Tr.val, inB_nat hn, cond_true, w1, cw_eq]
  by_cases a : U.cw l n = 2
  · by_cases b : n + 1 < l.length
    · have i1 : inB ((n : Int) + 1) l.length = true := by simpa using inB_nat b
      have i2 := cw_eq l (n + 1)
      rw [Int.natCast_add] at i2
      simp [a, b, i1, show ((n : Int) + 1 < (l.length : Int)) by omega]
    · simp [a, b, show ¬ ((n : Int) + 1 < (l.length : Int)) by omega]
  · by_cases b : U.cw l n = 0
    · by_cases c : 0 < n
      · have w2 : IntKind.i64.wrap ((n : Int) - 1) = ((n - 1 : Nat) : Int) := by
          rw [wrap64_id (by omega) (by omega)]
          omega
        simp [a, b, c, w2, inB_nat (show n - 1 < l.length by omega), cw_eq]
      · have : n = 0 := by omega
        subst this
        simp [a, b]
    · simp [a, b]
end Go.Proofs.YtmnbcnhpklejcaaDoor
namespace Go.Proofs.YtmnbcnhpklejcaaDoor
open Go Go.Ev Go.RowKit
abbrev w89 : FSpec := s89 (fun x => decide (ByteArray.size x.1.1 ≤ 1048576)) fun x => U.cellR x.1
abbrev w87 : FSpec := s87 (fun x => decide (0 ≤ (x.2.1 : Int) ∧ (x.2.1 : Int) < (List.length (α := Cell) x.1 : Int) ∧ List.length (α := Cell) x.1 ≤ 1048576)) fun x => U.whole x.1 x.2.1.toNat
abbrev G2 : List (Nat × FSpec) := [(89, w89), (87, w87)]
theorem AG2 : AllFn Tryd.prog E0 G2 := .cons wk89 (.cons wk87 .nil)
def live31 (key : Nat) : Lv :=
  bif Nat.beq key 2 then { ls := [1, 2, 8, 9, 10] } else bif Nat.beq key 1002 then { ls := [1, 2, 4] } else
  { ls := [] }
abbrev M31 (ls : Nat → VS → Option (Tr (Ex × VS))) : Env := (E0.withFns G2).loops live31 ls
@[reducible] def p31_0 : LP := { n := 31, sl := [.d (.int .i64), .c (Leaf.ptr ( 0) ( 0)), .d (celk.sl), .d (.int .i64), .d (.int .i64)], bl := [(0, .box [.d (celk.sl), .d (Kd.bool)])] }
def B31_0 (x0 : Int) (x2 : List Cell) (x3 : Int) (x4 : Int) (h0_0 : List Cell) (h0_1 : Bool) : Tr (p31_0.T ⊕ (Int × List Cell × Bool ⊕ Int × List Cell × Bool)) :=
 let v1 : Int := (↑h0_0.length : Int)
 Tr.ite (decide (x4 < x3)) (Tr.ite (inB x4 x2.length) (Tr.ite (decide (ByteArray.size (rget celk x2 x4).fst ≤ (1048576 : Nat))) (Tr.ite (!U.cellR (rget celk x2 x4)) (Tr.ret (Sum.inr (Sum.inl (x0, h0_0, h0_1)))) (Tr.ite (decide ((0 : Int) ≤ x4 ∧ x4 < v1 ∧ h0_0.length ≤ (1048576 : Nat))) (Tr.ite (!U.whole h0_0 x4.toNat) (Tr.ret (Sum.inr (Sum.inl (x0, h0_0, h0_1)))) (Tr.ret (Sum.inl ((x0, x2, x3, IntKind.i64.wrap (x4 + (1 : Int)), ()), (h0_0, h0_1, ()), ())))) Tr.fail)) Tr.fail) Tr.fail) (Tr.ret (Sum.inr (Sum.inr (x0, h0_0, h0_1))))
def X31_0 : (Int × List Cell × Bool ⊕ Int × List Cell × Bool) → Ex × VS
  | (.inl r) => Prod.mk Ex.ret { n := 31, v := [Slot.av (AV.one (Leaf.dat (.int .i64) r.fst)), Slot.av (AV.one (Leaf.ptr ( 0) ( 0))), Slot.av (AV.one (Leaf.kb false))], h := [( 0, Blk.box [Leaf.dat celk.sl r.snd.fst, Leaf.dat Kd.bool r.snd.snd])] }
  | (.inr r) => Prod.mk (Ex.exit ( 0)) { n := 31, v := [Slot.av (AV.one (Leaf.dat (.int .i64) r.fst)), Slot.av (AV.one (Leaf.ptr ( 0) ( 0))), Slot.av (AV.one Leaf.undef)], h := [( 0, Blk.box [Leaf.dat celk.sl r.snd.fst, Leaf.dat Kd.bool r.snd.snd])] }
def b31_0 : p31_0.T → Tr (p31_0.T ⊕ (Int × List Cell × Bool ⊕ Int × List Cell × Bool)) := fun ⟨⟨x0, ⟨x2, ⟨x3, ⟨x4, _⟩⟩⟩⟩, ⟨⟨h0_0, ⟨h0_1, _⟩⟩, _⟩⟩ => B31_0 x0 x2 x3 x4 h0_0 h0_1
theorem h31_0 (ls : Nat → VS → Option (Tr (Ex × VS))) (x : p31_0.T) : (evC (evI 2) (lc Tryd.f31 0) (Env.lend (M31 ls) 0) (unV (live31 2) (p31_0.V x))).map (decL 0 (live31 2) (live31 1002)) = (b31_0 x).map (encR p31_0.V X31_0) := by
  obtain ⟨⟨x0, ⟨x2, ⟨x3, ⟨x4, _⟩⟩⟩⟩, ⟨⟨h0_0, ⟨h0_1, _⟩⟩, _⟩⟩ := x; kernel_rfl
theorem c31_0 (x : p31_0.T) : canV 0 (live31 2) (unV (live31 2) (p31_0.V x)) = p31_0.V x := by
  obtain ⟨⟨x0, ⟨x2, ⟨x3, ⟨x4, _⟩⟩⟩⟩, ⟨⟨h0_0, ⟨h0_1, _⟩⟩, _⟩⟩ := x; kernel_rfl
theorem l31_0 {T : p31_0.T → Tr (Int × List Cell × Bool ⊕ Int × List Cell × Bool)} {ls : Nat → VS → Option (Tr (Ex × VS))} (hls : ∀ x, (Env.lend (M31 ls) 0).ls 2 x = p31_0.ls (fun a => (T a).map X31_0) x) (hS : ∀ x r, (T x).val = some r → Rounds b31_0 x r) : LoopOK (evI 2) (Env.lend (M31 ls) 0) (lc Tryd.f31 0) :=
  loopA 2 (live31 2) (live31 1002) p31_0 b31_0 X31_0 T (by kernel_rfl) rfl rfl hls (h31_0 ls) c31_0 hS
end Go.Proofs.YtmnbcnhpklejcaaDoor
namespace U
open Go Go.Ev
def okc (l : List Cl) : Bool := decide (l.length ≤ 1048576) && l.all fun c => decide (c.1.size ≤ 1048576)
def fitC (l : List Cl) : Bool := allN (fun i => cellR (l.getD i dC) && whole l i) l.length 0
theorem okc_len {l : List Cl} (h : okc l = true) : l.length ≤ 1048576 := by
  simp only [okc, Bool.and_eq_true, decide_eq_true_eq] at h; exact h.1
theorem okc_at {l : List Cl} (h : okc l = true) {i : Nat} (hi : i < l.length) : (l.getD i dC).1.size ≤ 1048576 := by
  simp only [okc, Bool.and_eq_true, decide_eq_true_eq, List.all_eq_true] at h
  rw [getD_el hi]
  exact h.2 _ (List.getElem_mem hi)
end U
namespace Go.Proofs.YtmnbcnhpklejcaaDoor
open Go Go.Ev Go.RowKit
def T31 (x : p31_0.T) : Tr (Int × List Cell × Bool ⊕ Int × List Cell × Bool) :=
  .ite (decide ((x.1.2.2.1 : Int) = (List.length (α := Cell) x.1.2.1 : Int) ∧ (x.1.2.2.2.1 : Int) = 0 ∧ List.length (α := Cell) x.1.2.1 ≤ List.length (α := Cell) x.2.1.1 ∧ List.length (α := Cell) x.2.1.1 ≤ 1048576) && U.okc x.1.2.1)
    (.ite (allN (fun i => U.cellR (List.getD (α := Cell) x.1.2.1 i U.dC) && U.whole x.2.1.1 i) (List.length (α := Cell) x.1.2.1) 0) (.ret (.inr (x.1.1, x.2.1.1, x.2.1.2.1))) (.ret (.inl (x.1.1, x.2.1.1, x.2.1.2.1)))) .fail
abbrev E31 : Env := M31 fun key x => bif Nat.beq key 2 then p31_0.ls (fun a => (T31 a).map X31_0) x else none
theorem rgetC (l : List Cell) (i : Nat) : rget celk l (i : Int) = l.getD i U.dC := by rw [rget_nat]; rfl
theorem L31 : LoopOK (evI 2) (E31.lend 0) (lc Tryd.f31 0) := by
  refine l31_0 (T := T31) (fun x => rfl) ?_
  rintro ⟨⟨c, l, n, i, z⟩, ⟨m, s, z1⟩, z2⟩ r h
  obtain ⟨h1, h2⟩ := pre_val h
  rw [Bool.and_eq_true] at h1
  obtain ⟨h1, hok⟩ := h1
  obtain ⟨e1, e2, e3, e4⟩ := of_decide_eq_true h1
  dsimp only at e1 e2 e3 e4 hok h2
  subst e1
  subst e2
  have := Rounds.all (B := b31_0) (N := l.length) (fun i => ((c, l, (l.length : Int), (i : Int), ()), (m, s, ()), ())) (fun i => U.cellR (l.getD i U.dC) && U.whole m i) (.inl (c, m, s)) (.inr (c, m, s)) (fun i hi => ?_) ?_
  · cases ha : allN (fun i => U.cellR (l.getD i U.dC) && U.whole m i) l.length 0 <;> simp only [ha, Tr.val, cond_true, cond_false] at h2 this <;> cases h2 <;> exact this
  · have h3 := U.okc_at hok hi
    simp only [b31_0, B31_0, Tr.val, inB_nat hi, rgetC, h3, Int.toNat_natCast, show ((i : Int) < (l.length : Int)) by omega, show ((0 : Int) ≤ (i : Int) ∧ (i : Int) < (m.length : Int) ∧ m.length ≤ 1048576) by omega, decide_true, cond_true, wrap64_nat (show i ≤ 1048576 by omega)]
    cases U.cellR (l.getD i U.dC) <;> cases U.whole m i <;> rfl
  · simp only [b31_0, B31_0, Tr.val, show ¬ ((l.length : Int) < (l.length : Int)) by omega, decide_false, cond_false]
def d31 (a1 : List Cell) (a2 : Bool) (b : Int) : Tr (Bool) :=
 let v1 : Int := (↑a1.length : Int)
 let v2 : Int := (↑a1.length : Int)
 Tr.ite (decide (v2 = v1 ∧ (0 : Int) = (0 : Int) ∧ a1.length ≤ a1.length ∧ a1.length ≤ (1048576 : Nat)) && U.okc a1) (Tr.ite (allN (fun (i : Nat) => U.cellR (a1.getD i U.dC) && U.whole a1 i) a1.length (0 : Nat)) (Tr.ret (decide (v2 = b))) (Tr.ret false)) Tr.fail
def e31 (r : Bool) : FRes := { rs := Slot.av (AV.one (Leaf.dat Kd.bool r)), upd := [], new := [] }
@[reducible] def a31 : List AK := [AK.d link, AK.d (.int .i64)]
@[reducible] def b31 : List BK := []
theorem t31 (a1 : List Cell) (a2 : Bool) (b : Int) : evFn (E31) Tryd.f31 [PM.data Kd.bool] (akAV a31 ((a1, a2, ()), b, ())) (bkBs b31 ()) = (d31 a1 a2 b).map e31 := by kernel_rfl
def s31 (C : akT a31 → Bool) (G : akT a31 → Bool) : FSpec := aspec a31 b31 e31 (fun x _ => C x) (fun x _ => G x)
theorem k31 {C : akT a31 → Bool} {G : akT a31 → Bool} (hd : ∀ (a1 : List Cell) (a2 : Bool) (b : Int), C ((a1, a2, ()), b, ()) = true → (d31 a1 a2 b).val = some (G ((a1, a2, ()), b, ()))) (IO : ItOK Tryd.prog (E31) := by exact itOK_none rfl) (L : ∀ c, Tryd.f31.body = some c → LsOK (evI 2) ((E31).lend 0) c := by exact fun c _ => LsOK_none rfl c) : SpecOK Tryd.prog E0 31 (s31 C G) :=
  aspec_ok (E := E31) tab AG2 rfl rfl hm Tryd.func31 (by kernel_rfl) [PM.data Kd.bool] (fun X Y H => by obtain ⟨⟨a1, ⟨a2, _⟩⟩, ⟨b, _⟩⟩ := X; exact val_of (t31 a1 a2 b) (hd a1 a2 b H)) IO L
abbrev w31 : FSpec := s31 (fun x => U.okc x.1.1) fun x => U.fitC x.1.1 && decide ((List.length (α := Cell) x.1.1 : Int) = (x.2.1 : Int))
theorem wk31 : SpecOK Tryd.prog E0 31 w31 := by
  refine k31 (fun l s n H => ?_) (L := ls_ok (lcs := [lc Tryd.f31 0]) (rgs := []) (by kernel_rfl) (by kernel_rfl) L31 trivial)
  have H : U.okc l = true := H
  have hl := U.okc_len H
  show _ = some (U.fitC l && decide ((l.length : Int) = n))
  unfold U.fitC
  simp only [d31, Tr.val, H, hl, Nat.le_refl, and_self, decide_true, Bool.and_self, cond_true]
  cases allN (fun i => U.cellR (l.getD i U.dC) && U.whole l i) l.length 0 <;> simp
def d80 (a1 : List Cell) (a2 : Bool) : Tr (Bool) :=
 let v1 : Int := (↑a1.length : Int)
 let v2 : Int := (↑a1.length : Int)
 Tr.ite (decide (v2 < (1 : Int))) (Tr.ret true) (Tr.ite (decide ((80 : Int) < v2)) (Tr.ret true) (Tr.ite (U.okc a1) (Tr.ret !(U.fitC a1 && decide (v1 = v2))) Tr.fail))
def e80 (r : Bool) : FRes := { rs := Slot.av (AV.one (Leaf.dat Kd.bool r)), upd := [], new := [] }
@[reducible] def a80 : List AK := [AK.d link]
@[reducible] def b80 : List BK := []
theorem t80 (a1 : List Cell) (a2 : Bool) : evFn (E0.withFns [((31 : Nat), w31)]) Tryd.f80 [PM.data Kd.bool] (akAV a80 ((a1, a2, ()), ())) (bkBs b80 ()) = (d80 a1 a2).map e80 := by kernel_rfl
def s80 (C : akT a80 → Bool) (G : akT a80 → Bool) : FSpec := aspec a80 b80 e80 (fun x _ => C x) (fun x _ => G x)
theorem k80 {C : akT a80 → Bool} {G : akT a80 → Bool} (hd : ∀ (a1 : List Cell) (a2 : Bool), C ((a1, a2, ()), ()) = true → (d80 a1 a2).val = some (G ((a1, a2, ()), ()))) (IO : ItOK Tryd.prog (E0.withFns [((31 : Nat), w31)]) := by exact itOK_none rfl) (L : ∀ c, Tryd.f80.body = some c → LsOK (evI 2) ((E0.withFns [((31 : Nat), w31)]).lend 0) c := by exact fun c _ => LsOK_none rfl c) : SpecOK Tryd.prog E0 80 (s80 C G) :=
  aspec_ok (E := E0.withFns [((31 : Nat), w31)]) tab (.cons wk31 .nil) rfl rfl hm Tryd.func80 (by kernel_rfl) [PM.data Kd.bool] (fun X Y H => by obtain ⟨⟨a1, ⟨a2, _⟩⟩, _⟩ := X; exact val_of (t80 a1 a2) (hd a1 a2 H)) IO L
end Go.Proofs.YtmnbcnhpklejcaaDoor
end
section
set_option linter.unusedVariables false
set_option linter.unusedSimpArgs false
set_option maxRecDepth 20000
open Go Go.Ev
namespace U
abbrev Ln := List Cl × Bool × Unit
def dL : Ln := ([], false, ())
def odd (l : List Cl) : Bool := !(decide (1 ≤ l.length) && decide (l.length ≤ 80) && fitC l)
def okl (l : List Ln) : Bool := decide (l.length ≤ 1048576) && l.all fun x => okc x.1
theorem okl_len {l : List Ln} (h : okl l = true) : l.length ≤ 1048576 := by
  simp only [okl, Bool.and_eq_true, decide_eq_true_eq] at h; exact h.1
theorem okl_at {l : List Ln} (h : okl l = true) {i : Nat} (hi : i < l.length) : okc (l.getD i dL).1 = true := by
  simp only [okl, Bool.and_eq_true, decide_eq_true_eq, List.all_eq_true] at h
  rw [getD_el hi]
  exact h.2 _ (List.getElem_mem hi)
end U
namespace Go.Proofs.YtmnbcnhpklejcaaDoor
open Go.RowKit
@[reducible] def bakk : Kd := .pr (.int .i64) (.pr (.sl link) .un)
theorem rgetL (l : List Line) (i : Nat) : rget link l (i : Int) = l.getD i U.dL := by rw [rget_nat]; rfl
abbrev w80 : FSpec := s80 (fun x => U.okc x.1.1) fun x => U.odd x.1.1
theorem wk80 : SpecOK Tryd.prog E0 80 w80 := by
  refine k80 fun l s H => ?_
  have H : U.okc l = true := H
  show _ = some (U.odd l)
  unfold U.odd
  by_cases h1 : (l.length : Int) < 1
  · simp only [d80, Tr.val, h1, H, decide_true, decide_false, cond_true, cond_false, show ¬ 1 ≤ l.length by omega, Bool.false_and, Bool.not_false]
  · by_cases h2 : (80 : Int) < (l.length : Int)
    · simp only [d80, Tr.val, h1, h2, H, decide_true, decide_false, cond_true, cond_false, show ¬ l.length ≤ 80 by omega, Bool.false_and, Bool.and_false, Bool.not_false]
    · simp only [d80, Tr.val, h1, h2, H, decide_true, decide_false, cond_true, cond_false, show l.length ≤ 80 by omega, show 1 ≤ l.length by omega, Bool.true_and, Bool.and_true]
def optI' : Option Nat → Int
  | some j => (j : Int)
  | none => -1
def live131 (key : Nat) : Lv :=
  bif Nat.beq key 2 then { ls := [0, 1, 7, 8] } else bif Nat.beq key 1002 then { ls := [4] } else
  { ls := [] }
abbrev M131 (ls : Nat → VS → Option (Tr (Ex × VS))) : Env := (E0.withFns [(80, w80)]).loops live131 ls
@[reducible] def p131_0 : LP := { n := 19, sl := [.d (link.sl), .c (Leaf.fn ( 80) []), .d (.int .i64), .d (.int .i64)], bl := [] }
def B131_0 (x0 : List Line) (x2 : Int) (x3 : Int) : Tr (p131_0.T ⊕ (Int ⊕ Unit)) :=
 Tr.ite (decide (x3 < x2)) (Tr.ite (inB x3 x0.length) (Tr.ite (U.okc (rget link x0 x3).fst) (Tr.ite (U.odd (rget link x0 x3).fst) (Tr.ret (Sum.inr (Sum.inl x3))) (Tr.ret (Sum.inl ((x0, x2, IntKind.i64.wrap (x3 + (1 : Int)), ()), ())))) Tr.fail) Tr.fail) (Tr.ret (Sum.inr (Sum.inr ())))
def X131_0 : (Int ⊕ Unit) → Ex × VS
  | (.inl r) => Prod.mk Ex.ret { n := 19, v := [Slot.av (AV.one (Leaf.dat (.int .i64) r))], h := [] }
  | (.inr r) => Prod.mk (Ex.exit ( 0)) { n := 19, v := [Slot.av (AV.one Leaf.undef)], h := [] }
def b131_0 : p131_0.T → Tr (p131_0.T ⊕ (Int ⊕ Unit)) := fun ⟨⟨x0, ⟨x2, ⟨x3, _⟩⟩⟩, _⟩ => B131_0 x0 x2 x3
theorem h131_0 (ls : Nat → VS → Option (Tr (Ex × VS))) (x : p131_0.T) : (evC (evI 2) (lc Tryd.f131 0) (Env.lend (M131 ls) 0) (unV (live131 2) (p131_0.V x))).map (decL 0 (live131 2) (live131 1002)) = (b131_0 x).map (encR p131_0.V X131_0) := by
  obtain ⟨⟨x0, ⟨x2, ⟨x3, _⟩⟩⟩, _⟩ := x; kernel_rfl
theorem c131_0 (x : p131_0.T) : canV 0 (live131 2) (unV (live131 2) (p131_0.V x)) = p131_0.V x := by
  obtain ⟨⟨x0, ⟨x2, ⟨x3, _⟩⟩⟩, _⟩ := x; kernel_rfl
theorem l131_0 {T : p131_0.T → Tr (Int ⊕ Unit)} {ls : Nat → VS → Option (Tr (Ex × VS))} (hls : ∀ x, (Env.lend (M131 ls) 0).ls 2 x = p131_0.ls (fun a => (T a).map X131_0) x) (hS : ∀ x r, (T x).val = some r → Rounds b131_0 x r) : LoopOK (evI 2) (Env.lend (M131 ls) 0) (lc Tryd.f131 0) :=
  loopA 2 (live131 2) (live131 1002) p131_0 b131_0 X131_0 T (by kernel_rfl) rfl rfl hls (h131_0 ls) c131_0 hS
def T131 (x : p131_0.T) : Tr (Int ⊕ Unit) :=
  .ite (decide ((x.1.2.1 : Int) = (List.length (α := Line) x.1.1 : Int) ∧ (x.1.2.2.1 : Int) = 0) && U.okl x.1.1)
    (.ite (findN (fun i => U.odd (List.getD (α := Line) x.1.1 i U.dL).1) (List.length (α := Line) x.1.1) 0).isSome (.ret (.inl (((findN (fun i => U.odd (List.getD (α := Line) x.1.1 i U.dL).1) (List.length (α := Line) x.1.1) 0).getD 0 : Nat) : Int))) (.ret (.inr ()))) .fail
abbrev E131 : Env := M131 fun key x => bif Nat.beq key 2 then p131_0.ls (fun a => (T131 a).map X131_0) x else none
theorem L131 : LoopOK (evI 2) (E131.lend 0) (lc Tryd.f131 0) := by
  refine l131_0 (T := T131) (fun x => rfl) ?_
  rintro ⟨⟨l, n, i, z⟩, z2⟩ r h
  obtain ⟨h1, h2⟩ := pre_val h
  rw [Bool.and_eq_true] at h1
  obtain ⟨h1, hok⟩ := h1
  obtain ⟨e1, e2⟩ := of_decide_eq_true h1
  dsimp only at e1 e2 hok h2
  subst e1
  subst e2
  have hl := U.okl_len hok
  have := Rounds.find (B := b131_0) (N := l.length) (fun i => ((l, (l.length : Int), (i : Int), ()), ())) (fun i => U.odd (l.getD i U.dL).1) (fun i => .inl (i : Int)) (.inr ()) (fun i hi => ?_) ?_
  · cases hf : findN (fun i => U.odd (l.getD i U.dL).1) l.length 0 <;> simp only [hf, Tr.val, Option.isSome_none, Option.isSome_some, Option.getD_some, cond_true, cond_false, outN] at h2 this <;> cases h2 <;> exact this
  · have h3 := U.okl_at hok hi
    simp only [b131_0, B131_0, Tr.val, inB_nat hi, rgetL, h3, show ((i : Int) < (l.length : Int)) by omega, decide_true, cond_true, wrap64_nat (show i ≤ 1048576 by omega)]
    cases U.odd (l.getD i U.dL).1 <;> rfl
  · simp only [b131_0, B131_0, Tr.val, show ¬ ((l.length : Int) < (l.length : Int)) by omega, decide_false, cond_false]
def d131 (a : List Line) : Tr (Int) :=
 let v1 : Int := ((↑a.length : Int))
 let v2 : Int := ((↑a.length : Int))
 Tr.ite (decide (v2 = v1 ∧ (0 : Int) = (0 : Int)) && U.okl a) (Tr.ite (findN (fun (i : Nat) => U.odd (a.getD i U.dL).fst) a.length (0 : Nat)).isSome (Tr.ret (↑((findN (fun (i : Nat) => U.odd (a.getD i U.dL).fst) a.length (0 : Nat)).getD (0 : Nat)) : Int)) (Tr.ret (-1 : Int))) Tr.fail
def e131 (r : Int) : FRes := { rs := Slot.av (AV.one (Leaf.dat (.int .i64) r)), upd := [], new := [] }
@[reducible] def a131 : List AK := [AK.d link.sl, AK.c (Leaf.fn (80 : FuncId) [])]
@[reducible] def b131 : List BK := []
theorem t131 (a : List Line) : evFn (E131) Tryd.f131 [PM.data (.int .i64)] (akAV a131 (a, ())) (bkBs b131 ()) = (d131 a).map e131 := by kernel_rfl
def s131 (C : akT a131 → Bool) (G : akT a131 → Int) : FSpec := aspec a131 b131 e131 (fun x _ => C x) (fun x _ => G x)
theorem k131 {C : akT a131 → Bool} {G : akT a131 → Int} (hd : ∀ (a : List Line), C (a, ()) = true → (d131 a).val = some (G (a, ()))) (IO : ItOK Tryd.prog (E131) := by exact itOK_none rfl) (L : ∀ c, Tryd.f131.body = some c → LsOK (evI 2) ((E131).lend 0) c := by exact fun c _ => LsOK_none rfl c) : SpecOK Tryd.prog E0 131 (s131 C G) :=
  aspec_ok (ak := a131) (bl := b131) (e := e131) (c := fun x _ => C x) (g := fun x _ => G x) (E0 := E0) (E := E131) tab (.cons wk80 .nil) rfl rfl hm Tryd.func131 (by kernel_rfl) [PM.data (.int .i64)] (fun X Y H => by obtain ⟨a, _⟩ := X; exact val_of (t131 a) (hd a H)) IO L
abbrev w131 : FSpec := s131 (fun x => U.okl x.1) fun x => optI' (findN (fun i => U.odd (List.getD (α := Line) x.1 i U.dL).1) (List.length (α := Line) x.1) 0)
theorem wk131 : SpecOK Tryd.prog E0 131 w131 := by
  refine k131 (fun l H => ?_) (L := ls_ok (lcs := [lc Tryd.f131 0]) (rgs := []) (by kernel_rfl) (by kernel_rfl) L131 trivial)
  have H : U.okl l = true := H
  simp only [d131, Tr.val, H, and_self, decide_true, Bool.and_self, cond_true]
  cases findN (fun i => U.odd (l.getD i U.dL).1) l.length 0 <;> rfl
def d79 (a : List Line) : Tr (Bool) :=
 let v1 : Int := (optI' (findN (fun (i : Nat) => U.odd (a.getD i U.dL).fst) a.length (0 : Nat)))
 Tr.ite (U.okl a) (Tr.ret (decide ((0 : Int) ≤ v1))) Tr.fail
def e79 (r : Bool) : FRes := { rs := Slot.av (AV.one (Leaf.dat Kd.bool r)), upd := [], new := [] }
@[reducible] def a79 : List AK := [AK.d link.sl, AK.c (Leaf.fn (80 : FuncId) [])]
@[reducible] def b79 : List BK := []
theorem t79 (a : List Line) : evFn (E0.withFns [((131 : Nat), w131)]) Tryd.f79 [PM.data Kd.bool] (akAV a79 (a, ())) (bkBs b79 ()) = (d79 a).map e79 := by kernel_rfl
def s79 (C : akT a79 → Bool) (G : akT a79 → Bool) : FSpec := aspec a79 b79 e79 (fun x _ => C x) (fun x _ => G x)
theorem k79 {C : akT a79 → Bool} {G : akT a79 → Bool} (hd : ∀ (a : List Line), C (a, ()) = true → (d79 a).val = some (G (a, ()))) (IO : ItOK Tryd.prog (E0.withFns [((131 : Nat), w131)]) := by exact itOK_none rfl) (L : ∀ c, Tryd.f79.body = some c → LsOK (evI 2) ((E0.withFns [((131 : Nat), w131)]).lend 0) c := by exact fun c _ => LsOK_none rfl c) : SpecOK Tryd.prog E0 79 (s79 C G) :=
  aspec_ok (ak := a79) (bl := b79) (e := e79) (c := fun x _ => C x) (g := fun x _ => G x) (E0 := E0) (E := E0.withFns [((131 : Nat), w131)]) tab (.cons wk131 .nil) rfl rfl hm Tryd.func79 (by kernel_rfl) [PM.data Kd.bool] (fun X Y H => by obtain ⟨a, _⟩ := X; exact val_of (t79 a) (hd a H)) IO L
abbrev w79 : FSpec := s79 (fun x => U.okl x.1) fun x => List.any (α := Line) x.1 fun y => U.odd y.1
theorem wk79 : SpecOK Tryd.prog E0 79 w79 := by
  refine k79 fun l H => ?_
  have H : U.okl l = true := H
  show _ = some (l.any fun y => U.odd y.1)
  rw [← find_any (fun y => U.odd y.1) U.dL l]
  simp only [d79, Tr.val, H, cond_true]
  cases findN (fun i => U.odd (l.getD i U.dL).1) l.length 0 <;> simp [optI']
def d20 (a1 : Int) (a2 : List Line) : Tr (Bool) :=
 let v1 : Int := ((↑a2.length : Int))
 Tr.ite (decide ((0 : Int) ≤ a1)) (Tr.ite (decide (a1 ≤ (40 : Int))) (Tr.ite (decide (v1 ≤ a1)) (Tr.ite (U.okl a2) (Tr.ret !a2.any fun (y : Line) => U.odd y.fst) Tr.fail) (Tr.ret false)) (Tr.ret false)) (Tr.ret false)
def e20 (r : Bool) : FRes := { rs := Slot.av (AV.one (Leaf.dat Kd.bool r)), upd := [], new := [] }
@[reducible] def a20 : List AK := [AK.d bakk]
@[reducible] def b20 : List BK := []
theorem t20 (a1 : Int) (a2 : List Line) : evFn (E0.withFns [((79 : Nat), w79)]) Tryd.f20 [PM.data Kd.bool] (akAV a20 ((a1, a2, ()), ())) (bkBs b20 ()) = (d20 a1 a2).map e20 := by kernel_rfl
def s20 (C : akT a20 → Bool) (G : akT a20 → Bool) : FSpec := aspec a20 b20 e20 (fun x _ => C x) (fun x _ => G x)
theorem k20 {C : akT a20 → Bool} {G : akT a20 → Bool} (hd : ∀ (a1 : Int) (a2 : List Line), C ((a1, a2, ()), ()) = true → (d20 a1 a2).val = some (G ((a1, a2, ()), ()))) (IO : ItOK Tryd.prog (E0.withFns [((79 : Nat), w79)]) := by exact itOK_none rfl) (L : ∀ c, Tryd.f20.body = some c → LsOK (evI 2) ((E0.withFns [((79 : Nat), w79)]).lend 0) c := by exact fun c _ => LsOK_none rfl c) : SpecOK Tryd.prog E0 20 (s20 C G) :=
  aspec_ok (ak := a20) (bl := b20) (e := e20) (c := fun x _ => C x) (g := fun x _ => G x) (E0 := E0) (E := E0.withFns [((79 : Nat), w79)]) tab (.cons wk79 .nil) rfl rfl hm Tryd.func20 (by kernel_rfl) [PM.data Kd.bool] (fun X Y H => by obtain ⟨⟨a1, ⟨a2, _⟩⟩, _⟩ := X; exact val_of (t20 a1 a2) (hd a1 a2 H)) IO L
def keepB (b : Int × List Line × Unit) : Bool := decide (0 ≤ b.1) && (decide (b.1 ≤ 40) && (decide ((b.2.1.length : Int) ≤ b.1) && !(b.2.1.any fun y => U.odd y.1)))
abbrev w20 : FSpec := s20 (fun x => U.okl x.1.2.1) fun x => keepB x.1
theorem wk20 : SpecOK Tryd.prog E0 20 w20 := by
  refine k20 fun n l H => ?_
  have H : U.okl l = true := H
  show _ = some (keepB (n, l, ()))
  unfold keepB
  by_cases h1 : 0 ≤ n <;> by_cases h2 : n ≤ 40 <;> by_cases h3 : (l.length : Int) ≤ n <;> simp [d20, Tr.val, H, h1, h2, h3]
end Go.Proofs.YtmnbcnhpklejcaaDoor
namespace U
def cutC (c : Cl) : Cl := (c.1.extract 0 (min c.1.size 20), c.2)
def cutL (l : List Cl) : List Cl := (l.take 82).map cutC
def few (l : List Ln) (n : Nat) : List Ln := (l.take n).map fun x => (cutL x.1, x.2.1, ())
end U
namespace Go.Proofs.YtmnbcnhpklejcaaDoor
theorem minI_nat (a b : Nat) : minI (a : Int) (b : Int) = ((min a b : Nat) : Int) := by unfold minI; split <;> omega
end Go.Proofs.YtmnbcnhpklejcaaDoor
end
section
set_option linter.unusedVariables false
set_option linter.unusedSimpArgs false
set_option maxRecDepth 20000
open Go Go.Ev
namespace U
open Go.Proofs.YtmnbcnhpklejcaaDoor
theorem cutC_size (c : Cl) : (cutC c).1.size ≤ 20 := by
  show (c.1.extract 0 (min c.1.size 20)).size ≤ 20
  rw [← bl_len, bl_ext, List.length_drop, List.length_take, bl_len]
  omega
theorem cutL_ok (l : List Cl) : okc (cutL l) = true := by
  unfold okc cutL
  rw [Bool.and_eq_true, decide_eq_true_eq, List.all_eq_true]
  refine ⟨by rw [List.length_map, List.length_take]; omega, fun x hx => ?_⟩
  obtain ⟨y, _, rfl⟩ := List.mem_map.1 hx
  exact decide_eq_true (by have := cutC_size y; omega)
theorem few_len (l : List Ln) (n : Nat) : (few l n).length ≤ n := by unfold few; rw [List.length_map, List.length_take]; omega
theorem few_ok (l : List Ln) {n : Nat} (hn : n ≤ 1000) : okl (few l n) = true := by
  have := few_len l n
  unfold okl
  rw [Bool.and_eq_true, decide_eq_true_eq, List.all_eq_true]
  refine ⟨by omega, fun x hx => ?_⟩
  unfold few at hx
  obtain ⟨y, _, rfl⟩ := List.mem_map.1 hx
  exact cutL_ok _
end U
end
section
set_option linter.unusedVariables false
set_option linter.unusedSimpArgs false
set_option maxRecDepth 20000
open Go Go.Ev
namespace Go.Proofs.YtmnbcnhpklejcaaDoor
open Go.RowKit
def d88 (a1 : Int) (a2 : Int) (a3 : Int) : Tr (ByteArray × Int × Int × Int × Int) :=
 Tr.ret (ByteArray.empty, (1 : Int), (0 : Int), a2, (0 : Int))
def e88 (r : ByteArray × Int × Int × Int × Int) : FRes := { rs := Slot.av (AV.agg [Leaf.dat Kd.str r.fst, Leaf.dat (.int .i64) r.snd.fst, Leaf.dat (.int .i64) r.snd.snd.fst, Leaf.dat (.int .i64) r.snd.snd.snd.fst, Leaf.dat (.int .i64) r.snd.snd.snd.snd]), upd := [], new := [] }
@[reducible] def a88 : List AK := [AK.d attk]
@[reducible] def b88 : List BK := []
theorem t88 (a1 : Int) (a2 : Int) (a3 : Int) : evFn (E0) Tryd.f88 [PM.data celk] (akAV a88 ((a1, a2, a3, ()), ())) (bkBs b88 ()) = (d88 a1 a2 a3).map e88 := by kernel_rfl
def s88' (G : akT a88 → ByteArray × Int × Int × Int × Int) : FSpec := aspec0 a88 b88 e88 (fun x _ => G x)
theorem k88' {G : akT a88 → ByteArray × Int × Int × Int × Int} (hd : ∀ (a1 : Int) (a2 : Int) (a3 : Int), (d88 a1 a2 a3).val = some (G ((a1, a2, a3, ()), ()))) (IO : ItOK Tryd.prog (E0) := by exact itOK_none rfl) (L : ∀ c, Tryd.f88.body = some c → LsOK (evI 2) ((E0).lend 0) c := by exact fun c _ => LsOK_none rfl c) : SpecOK Tryd.prog E0 88 (s88' G) :=
  aspec0_ok (ak := a88) (bl := b88) (e := e88) (g := fun x _ => G x) (E0 := E0) (E := E0) tab .nil rfl rfl hm Tryd.func88 (by kernel_rfl) [PM.data celk] (fun X Y => by obtain ⟨⟨a1, ⟨a2, ⟨a3, _⟩⟩⟩, _⟩ := X; exact val_of (t88 a1 a2 a3) (hd a1 a2 a3)) IO L
abbrev w88 : FSpec := s88' fun x => (ByteArray.empty, (1 : Int), (0 : Int), x.1.2.1, (0 : Int))
theorem wk88 : SpecOK Tryd.prog E0 88 w88 := k88' fun a b c => rfl
end Go.Proofs.YtmnbcnhpklejcaaDoor
namespace Go.Proofs.YtmnbcnhpklejcaaDoor
def d179 (a : Int) (b : Int) : Tr (Int × Int) :=
 let v1 : Int := (b.fdiv (4294967296 : Int))
 let v2 : Int := (a.fdiv (4294967296 : Int))
 let v3 : Int := ((↑(BitVec.ofInt (64 : Nat) a &&& BitVec.ofInt (64 : Nat) (4294967295 : Int)).toNat : Int))
 let v4 : Int := ((↑(BitVec.ofInt (64 : Nat) b &&& BitVec.ofInt (64 : Nat) (4294967295 : Int)).toNat : Int))
 let v5 : Int := (v2 * IntKind.u64.wrap v4)
 let v6 : Int := (IntKind.u64.wrap v3 * IntKind.u64.wrap v4)
 let v7 : Int := ((IntKind.u64.wrap v6).fdiv (4294967296 : Int))
 let v8 : Int := (IntKind.u64.wrap v5 + v7)
 Tr.ite true (Tr.ite true (Tr.ite true (Tr.ite true (Tr.ite true (Tr.ret (IntKind.u64.wrap (IntKind.u64.wrap (IntKind.u64.wrap (v2 * v1) + (IntKind.u64.wrap v8).fdiv (4294967296 : Int)) + (IntKind.u64.wrap (IntKind.u64.wrap (↑(BitVec.ofInt (64 : Nat) (IntKind.u64.wrap v8) &&& BitVec.ofInt (64 : Nat) (4294967295 : Int)).toNat : Int) + IntKind.u64.wrap (IntKind.u64.wrap v3 * v1))).fdiv (4294967296 : Int)), IntKind.u64.wrap (a * b))) Tr.fail) Tr.fail) Tr.fail) Tr.fail) Tr.fail
def e179 (r : Int × Int) : FRes := { rs := Slot.tup [AV.one (Leaf.dat (Kd.int IntKind.u64) r.fst), AV.one (Leaf.dat (Kd.int IntKind.u64) r.snd)], upd := [], new := [] }
@[reducible] def a179 : List AK := [AK.d (Kd.int IntKind.u64), AK.d (Kd.int IntKind.u64)]
@[reducible] def b179 : List BK := []
theorem t179 (a : Int) (b : Int) : evFn (E0) Tryd.f179 [PM.data (Kd.int IntKind.u64), PM.data (Kd.int IntKind.u64)] (akAV a179 (a, b, ())) (bkBs b179 ()) = (d179 a b).map e179 := by kernel_rfl
def s179 (C : akT a179 → Bool) (G : akT a179 → Int × Int) : FSpec := aspec a179 b179 e179 (fun x _ => C x) (fun x _ => G x)
theorem k179 {C : akT a179 → Bool} {G : akT a179 → Int × Int} (hd : ∀ (a : Int) (b : Int), C (a, b, ()) = true → (d179 a b).val = some (G (a, b, ()))) (IO : ItOK Tryd.prog (E0) := by exact itOK_none rfl) (L : ∀ c, Tryd.f179.body = some c → LsOK (evI 2) ((E0).lend 0) c := by exact fun c _ => LsOK_none rfl c) : SpecOK Tryd.prog E0 179 (s179 C G) :=
  aspec_ok (ak := a179) (bl := b179) (e := e179) (c := fun x _ => C x) (g := fun x _ => G x) (E0 := E0) (E := E0) tab .nil rfl rfl hm Tryd.func179 (by kernel_rfl) [PM.data (Kd.int IntKind.u64), PM.data (Kd.int IntKind.u64)] (fun X Y H => by obtain ⟨a, ⟨b, _⟩⟩ := X; exact val_of (t179 a b) (hd a b H)) IO L
abbrev w179 : FSpec := s179 (fun x => decide ((x.1 : Int) = 1 ∧ 0 ≤ (x.2.1 : Int) ∧ (x.2.1 : Int) < 128)) fun x => ((0 : Int), x.2.1)
theorem wk179 : SpecOK Tryd.prog E0 179 w179 := by
  refine k179 fun a b H => ?_
  obtain ⟨h1, h2, h3⟩ := of_decide_eq_true H
  dsimp only at h1 h2 h3
  subst h1
  obtain ⟨n, rfl⟩ := Int.eq_ofNat_of_zero_le h2
  have hn : n < 128 := Int.ofNat_lt.1 h3
  have : ∀ m : Fin 128, (d179 1 (m.val : Int)).val = some ((0 : Int), (m.val : Int)) := by decide +kernel
  exact this ⟨n, hn⟩
def d172 (a : Int) (b : Int) : Tr (Int × Int) :=
 Tr.ite (decide (a = (1 : Int) ∧ (0 : Int) ≤ b ∧ b < (128 : Int))) (Tr.ret ((0 : Int), b)) Tr.fail
def e172 (r : Int × Int) : FRes := { rs := Slot.tup [AV.one (Leaf.dat (Kd.int IntKind.u64) r.fst), AV.one (Leaf.dat (Kd.int IntKind.u64) r.snd)], upd := [], new := [] }
@[reducible] def a172 : List AK := [AK.d (Kd.int IntKind.u64), AK.d (Kd.int IntKind.u64)]
@[reducible] def b172 : List BK := []
theorem t172 (a : Int) (b : Int) : evFn (E0.withFns [((179 : Nat), w179)]) Tryd.f172 [PM.data (Kd.int IntKind.u64), PM.data (Kd.int IntKind.u64)] (akAV a172 (a, b, ())) (bkBs b172 ()) = (d172 a b).map e172 := by kernel_rfl
def s172 (C : akT a172 → Bool) (G : akT a172 → Int × Int) : FSpec := aspec a172 b172 e172 (fun x _ => C x) (fun x _ => G x)
theorem k172 {C : akT a172 → Bool} {G : akT a172 → Int × Int} (hd : ∀ (a : Int) (b : Int), C (a, b, ()) = true → (d172 a b).val = some (G (a, b, ()))) (IO : ItOK Tryd.prog (E0.withFns [((179 : Nat), w179)]) := by exact itOK_none rfl) (L : ∀ c, Tryd.f172.body = some c → LsOK (evI 2) ((E0.withFns [((179 : Nat), w179)]).lend 0) c := by exact fun c _ => LsOK_none rfl c) : SpecOK Tryd.prog E0 172 (s172 C G) :=
  aspec_ok (ak := a172) (bl := b172) (e := e172) (c := fun x _ => C x) (g := fun x _ => G x) (E0 := E0) (E := E0.withFns [((179 : Nat), w179)]) tab (.cons wk179 .nil) rfl rfl hm Tryd.func172 (by kernel_rfl) [PM.data (Kd.int IntKind.u64), PM.data (Kd.int IntKind.u64)] (fun X Y H => by obtain ⟨a, ⟨b, _⟩⟩ := X; exact val_of (t172 a b) (hd a b H)) IO L
abbrev w172 : FSpec := s172 (fun x => decide ((x.1 : Int) = 1 ∧ 0 ≤ (x.2.1 : Int) ∧ (x.2.1 : Int) < 128)) fun x => ((0 : Int), x.2.1)
theorem wk172 : SpecOK Tryd.prog E0 172 w172 := by
  refine k172 fun a b H => ?_
  obtain ⟨h1, h2, h3⟩ := of_decide_eq_true H
  dsimp only at h1 h2 h3
  simp only [d172, Tr.val, h1, h2, h3, and_self, decide_true, cond_true]
end Go.Proofs.YtmnbcnhpklejcaaDoor
namespace Go.Proofs.YtmnbcnhpklejcaaDoor
def live162 (key : Nat) : Lv :=
  bif Nat.beq key 8 then { ls := [7, 8] } else bif Nat.beq key 1008 then { ls := [7] } else
  bif Nat.beq key 8888 then { ls := [41, 44] } else
  { ls := [] }
abbrev M162 (ls : Nat → VS → Option (Tr (Ex × VS))) : Env := (E0.withFns [(172, w172)]).loops live162 ls
@[reducible] def p162_0 : LP := { n := 48, sl := [.c (Leaf.row ( 0)), .d (.int .i64)], bl := [(0, .row 48 (celk))] }
def B162_0 (x1 : Int) (h0 : List Cell) : Tr (p162_0.T ⊕ (List Cell)) :=
 let v1 : Int := ((↑h0.length : Int))
 let v2 : Int := (vwHi v1 none - vwLo (some x1))
 let v3 : Int := (vwHi v1 (some x1) - (0 : Int))
 let v4 : List Cell := (sub h0 (0 : Nat) ((0 : Nat) + v3.toNat))
 Tr.ite (decide (x1 < v1)) (Tr.ite (vwOK v1 (some x1) none) (Tr.ite (vwOK v1 none (some x1)) (Tr.ret (Sum.inl ((IntKind.i64.wrap (x1 + (↑(v4.length.min v2.toNat) : Int)), ()), putAt h0 (vwLo (some x1)).toNat (List.take v2.toNat v4), ()))) Tr.fail) Tr.fail) (Tr.ret (Sum.inr h0))
def X162_0 (r : (List Cell)) : Ex × VS := Prod.mk (Ex.exit ( 0)) { n := 48, v := [Slot.av (AV.one (Leaf.row ( 0)))], h := [( 0, Blk.row ( 48) celk r)] }
def b162_0 : p162_0.T → Tr (p162_0.T ⊕ (List Cell)) := fun ⟨⟨x1, _⟩, ⟨h0, _⟩⟩ => B162_0 x1 h0
theorem h162_0 (ls : Nat → VS → Option (Tr (Ex × VS))) (x : p162_0.T) : (evC (evI 2) (lc Tryd.f162 0) (Env.lend (M162 ls) 0) (unV (live162 8) (p162_0.V x))).map (decL 0 (live162 8) (live162 1008)) = (b162_0 x).map (encR p162_0.V X162_0) := by
  obtain ⟨⟨x1, _⟩, ⟨h0, _⟩⟩ := x; kernel_rfl
theorem c162_0 (x : p162_0.T) : canV 0 (live162 8) (unV (live162 8) (p162_0.V x)) = p162_0.V x := by
  obtain ⟨⟨x1, _⟩, ⟨h0, _⟩⟩ := x; kernel_rfl
theorem l162_0 {T : p162_0.T → Tr (List Cell)} {ls : Nat → VS → Option (Tr (Ex × VS))} (hls : ∀ x, (Env.lend (M162 ls) 0).ls 8 x = p162_0.ls (fun a => (T a).map X162_0) x) (hS : ∀ x r, (T x).val = some r → Rounds b162_0 x r) : LoopOK (evI 2) (Env.lend (M162 ls) 0) (lc Tryd.f162 0) :=
  loopA 8 (live162 8) (live162 1008) p162_0 b162_0 X162_0 T (by kernel_rfl) rfl rfl hls (h162_0 ls) c162_0 hS
theorem rep162 (c : Cell) (N : Nat) (hN : N ≤ 1048576) : ∀ (k n : Nat) (h : List Cell), N - n ≤ k → 1 ≤ n → n ≤ N → h.length = N → h.take n = List.replicate n c → Rounds b162_0 (((n : Int), ()), h, ()) (List.replicate N c) := by
  intro k
  induction k with
  | zero =>
    intro n h h1 h2 h3 h4 h5
    have : n = N := by omega
    subst this
    rw [← h5, List.take_of_length_le (by omega)]
    refine .exit ?_
    simp only [b162_0, B162_0, Tr.val, h4, show ¬ ((n : Int) < (n : Int)) by omega, decide_false, cond_false]
  | succ k ih =>
    intro n h h1 h2 h3 h4 h5
    by_cases hn : n = N
    · exact ih n h (by omega) h2 h3 h4 h5
    · have e1 : vwHi (N : Int) none - vwLo (some (n : Int)) = ((N - n : Nat) : Int) := by simp only [vwHi, vwLo]; omega
      have e2 : vwOK (N : Int) (some (n : Int)) none = true := by
        show decide (0 ≤ (n : Int) ∧ (n : Int) ≤ (N : Int) ∧ (N : Int) ≤ (N : Int)) = true
        exact decide_eq_true (by omega)
      have e3 : vwOK (N : Int) none (some (n : Int)) = true := by
        show decide ((0 : Int) ≤ 0 ∧ (0 : Int) ≤ (n : Int) ∧ (n : Int) ≤ (N : Int)) = true
        exact decide_eq_true (by omega)
      have e4 : vwHi (N : Int) (some (n : Int)) - 0 = (n : Int) := by simp only [vwHi]; omega
      have e5 : sub h 0 (0 + n) = List.replicate n c := by unfold sub; rw [Nat.zero_add, List.drop_zero, h5]
      obtain ⟨m, hm, m1, m2, m3⟩ : ∃ m, n.min (N - n) = m ∧ m ≤ n ∧ m ≤ N - n ∧ 1 ≤ m := ⟨_, rfl, Nat.min_le_left _ _, Nat.min_le_right _ _, by
        have : n.min (N - n) = min n (N - n) := rfl
        omega⟩
      have e6 : IntKind.i64.wrap ((n : Int) + (m : Int)) = ((n + m : Nat) : Int) := by
        rw [w64 (by omega) (by omega)]
        omega
      have e7 : List.take (N - n) (List.replicate n c) = List.replicate m c := by
        rw [List.take_replicate, ← hm]
        congr 1
        exact Nat.min_comm _ _
      refine .step (y := ((((n + m : Nat) : Int), ()), putAt h n (List.replicate m c), ())) ?_ (ih (n + m) _ (by omega) (by omega) (by omega) ?_ ?_)
      · simp only [b162_0, B162_0, Tr.val, h4, show ((n : Int) < (N : Int)) by omega, e1, e2, e3, e4, e5, Int.toNat_natCast, List.length_replicate, hm, e6, e7, decide_true, cond_true]
        rfl
      · simp only [putAt, List.length_append, List.length_take, List.length_drop, List.length_replicate]
        omega
      · unfold putAt
        rw [h5, ← List.append_assoc, List.replicate_append_replicate, List.take_left' (by rw [List.length_replicate])]
end Go.Proofs.YtmnbcnhpklejcaaDoor
end
section
set_option linter.unusedVariables false
set_option linter.unusedSimpArgs false
set_option maxRecDepth 20000
set_option maxHeartbeats 4000000
open Go Go.Ev
namespace Go.Proofs.YtmnbcnhpklejcaaDoor
open Go.RowKit
def w161 : FSpec := { ps := [.raw], g := fun args bs => match args with
  | [.one (.ptr 0 0)] => some { rs := .av (.one (.ptr 0 0)), upd := bs }
  | _ => none }
theorem wk161 : SpecOK Tryd.prog E0 161 w161 := by
  intro F O args bs r hr
  unfold w161 at hr
  simp only at hr
  split at hr
  · cases hr
    intro hc w K A vs H hv
    cases hv with
    | cons h0 h1 =>
      cases h1
      rename_i v
      refine .inl ⟨v, w, ?_, K, A, by rw [List.append_nil]; exact H, by rw [List.append_nil]; exact Ext.refl _ _ _ _, by rw [List.append_nil]; exact h0, rfl⟩
      rw [run_callFunc_extern Tryd.func161 (by kernel_rfl) (by kernel_rfl) (by kernel_rfl) (e := Extern.AbiNoEscape.same) (by kernel_rfl)]
      rw [Lib.run_noEscape]
      rfl
  · cases hr
def live149 (key : Nat) : Lv :=
  { ls := [] }
def d149 (h0_u : Bool) (h1 : List Int) : Tr (Bool × List Int) :=
 Tr.ite (!h0_u) (Tr.ret (true, h1)) (Tr.ite (!h0_u) Tr.fail (Tr.ret (h0_u, h1)))
def e149 (r : Bool × List Int) : FRes := { rs := Slot.tup [], upd := [Blk.tb ( 132) r.fst [Leaf.srow ( 1)], Blk.row ( 5) (Kd.int IntKind.u8) r.snd], new := [] }
@[reducible] def a149 : List AK := [AK.c (Leaf.ptr (0 : Nat) (0 : Nat))]
@[reducible] def b149 : List BK := [BK.tb (132 : TypeId) [SK.c (Leaf.srow (1 : Nat))], BK.row (5 : TypeId) (Kd.int IntKind.u8)]
theorem t149 (h0_u : Bool) (h1 : List Int) : evFn (Env.loops (Env.withFns E0 [((161 : Nat), w161)]) live149 fun (x : Nat) (x_1 : VS) => none) Tryd.f149 [] (akAV a149 ()) (bkBs b149 ((h0_u, ()), h1, ())) = (d149 h0_u h1).map e149 := by kernel_rfl
def s149' (G : akT a149 → bksT b149 → Bool × List Int) : FSpec := aspec0 a149 b149 e149 (G)
theorem k149' {G : akT a149 → bksT b149 → Bool × List Int} (hd : ∀ (h0_u : Bool) (h1 : List Int), (d149 h0_u h1).val = some (G () ((h0_u, ()), h1, ()))) (IO : ItOK Tryd.prog (Env.loops (Env.withFns E0 [((161 : Nat), w161)]) live149 fun (x : Nat) (x_1 : VS) => none) := by exact itOK_none rfl) (L : ∀ c, Tryd.f149.body = some c → LsOK (evI 2) ((Env.loops (Env.withFns E0 [((161 : Nat), w161)]) live149 fun (x : Nat) (x_1 : VS) => none).lend 2) c := by exact fun c _ => LsOK_none rfl c) : SpecOK Tryd.prog E0 149 (s149' G) :=
  aspec0_ok (ak := a149) (bl := b149) (e := e149) (g := G) (E0 := E0) (E := Env.loops (Env.withFns E0 [((161 : Nat), w161)]) live149 fun (x : Nat) (x_1 : VS) => none) tab (.cons wk161 .nil) rfl rfl hm Tryd.func149 (by kernel_rfl) [] (fun X Y => by obtain ⟨⟨h0_u, _⟩, ⟨h1, _⟩⟩ := Y; exact val_of (t149 h0_u h1) (hd h0_u h1)) IO L
abbrev w149 : FSpec := s149' fun _ y => (true, y.2.1)
theorem wk149 : SpecOK Tryd.prog E0 149 w149 := k149' fun u h => by cases u <;> rfl
def live112 (key : Nat) : Lv :=
  bif Nat.beq key 9996 then { ls := [14] } else
  { ls := [] }
def d112 (b : ByteArray) (h0_u : Bool) (h1 : List Int) : Tr (Int × Bool × List Int) :=
 Tr.ite (decide (List.length h1 + ByteArray.size b ≤ (140737488355328 : Nat))) (Tr.ret ((↑(ByteArray.size b) : Int), true, h1 ++ bytesL b)) Tr.fail
def e112 (r : Int × Bool × List Int) : FRes := { rs := Slot.tup [AV.one (Leaf.dat (.int .i64) r.fst), AV.one Leaf.nili], upd := [Blk.tb ( 132) r.snd.fst [Leaf.srow ( 2)], Blk.dead], new := [Blk.row ( 5) (Kd.int IntKind.u8) r.snd.snd] }
@[reducible] def a112 : List AK := [AK.c (Leaf.ptr (0 : Nat) (0 : Nat)), AK.d Kd.str]
@[reducible] def b112 : List BK := [BK.tb (132 : TypeId) [SK.c (Leaf.srow (1 : Nat))], BK.row (5 : TypeId) (Kd.int IntKind.u8)]
theorem t112 (b : ByteArray) (h0_u : Bool) (h1 : List Int) : evFn (Env.loops (Env.withFns E0 [((149 : Nat), w149)]) live112 fun (x : Nat) (x_1 : VS) => none) Tryd.f112 [PM.data (.int .i64), PM.raw] (akAV a112 (b, ())) (bkBs b112 ((h0_u, ()), h1, ())) = (d112 b h0_u h1).map e112 := by kernel_rfl
def s112 (C : akT a112 → bksT b112 → Bool) (G : akT a112 → bksT b112 → Int × Bool × List Int) : FSpec := aspec a112 b112 e112 (C) (G)
theorem k112 {C : akT a112 → bksT b112 → Bool} {G : akT a112 → bksT b112 → Int × Bool × List Int} (hd : ∀ (b : ByteArray) (h0_u : Bool) (h1 : List Int), C (b, ()) ((h0_u, ()), h1, ()) = true → (d112 b h0_u h1).val = some (G (b, ()) ((h0_u, ()), h1, ()))) (IO : ItOK Tryd.prog (Env.loops (Env.withFns E0 [((149 : Nat), w149)]) live112 fun (x : Nat) (x_1 : VS) => none) := by exact itOK_none rfl) (L : ∀ c, Tryd.f112.body = some c → LsOK (evI 2) ((Env.loops (Env.withFns E0 [((149 : Nat), w149)]) live112 fun (x : Nat) (x_1 : VS) => none).lend 2) c := by exact fun c _ => LsOK_none rfl c) : SpecOK Tryd.prog E0 112 (s112 C G) :=
  aspec_ok (ak := a112) (bl := b112) (e := e112) (c := C) (g := G) (E0 := E0) (E := Env.loops (Env.withFns E0 [((149 : Nat), w149)]) live112 fun (x : Nat) (x_1 : VS) => none) tab (.cons wk149 .nil) rfl rfl hm Tryd.func112 (by kernel_rfl) [PM.data (.int .i64), PM.raw] (fun X Y H => by obtain ⟨b, _⟩ := X; obtain ⟨⟨h0_u, _⟩, ⟨h1, _⟩⟩ := Y; exact val_of (t112 b h0_u h1) (hd b h0_u h1 H)) IO L
def live113 (key : Nat) : Lv :=
  bif Nat.beq key 9996 then { ls := [14] } else
  { ls := [] }
def d113 (b : Int) (h0_u : Bool) (h1 : List Int) : Tr (Bool × List Int) :=
 Tr.ite (decide ((List.length h1 + (1 : Nat)) * (1 : Nat) ≤ (140737488355328 : Nat))) (Tr.ret (true, h1 ++ [b])) Tr.fail
def e113 (r : Bool × List Int) : FRes := { rs := Slot.av (AV.one Leaf.nili), upd := [Blk.tb ( 132) r.fst [Leaf.srow ( 2)], Blk.dead], new := [Blk.row ( 5) (Kd.int IntKind.u8) r.snd] }
@[reducible] def a113 : List AK := [AK.c (Leaf.ptr (0 : Nat) (0 : Nat)), AK.d (Kd.int IntKind.u8)]
@[reducible] def b113 : List BK := [BK.tb (132 : TypeId) [SK.c (Leaf.srow (1 : Nat))], BK.row (5 : TypeId) (Kd.int IntKind.u8)]
theorem t113 (b : Int) (h0_u : Bool) (h1 : List Int) : evFn (Env.loops (Env.withFns E0 [((149 : Nat), w149)]) live113 fun (x : Nat) (x_1 : VS) => none) Tryd.f113 [PM.raw] (akAV a113 (b, ())) (bkBs b113 ((h0_u, ()), h1, ())) = (d113 b h0_u h1).map e113 := by kernel_rfl
def s113 (C : akT a113 → bksT b113 → Bool) (G : akT a113 → bksT b113 → Bool × List Int) : FSpec := aspec a113 b113 e113 (C) (G)
theorem k113 {C : akT a113 → bksT b113 → Bool} {G : akT a113 → bksT b113 → Bool × List Int} (hd : ∀ (b : Int) (h0_u : Bool) (h1 : List Int), C (b, ()) ((h0_u, ()), h1, ()) = true → (d113 b h0_u h1).val = some (G (b, ()) ((h0_u, ()), h1, ()))) (IO : ItOK Tryd.prog (Env.loops (Env.withFns E0 [((149 : Nat), w149)]) live113 fun (x : Nat) (x_1 : VS) => none) := by exact itOK_none rfl) (L : ∀ c, Tryd.f113.body = some c → LsOK (evI 2) ((Env.loops (Env.withFns E0 [((149 : Nat), w149)]) live113 fun (x : Nat) (x_1 : VS) => none).lend 2) c := by exact fun c _ => LsOK_none rfl c) : SpecOK Tryd.prog E0 113 (s113 C G) :=
  aspec_ok (ak := a113) (bl := b113) (e := e113) (c := C) (g := G) (E0 := E0) (E := Env.loops (Env.withFns E0 [((149 : Nat), w149)]) live113 fun (x : Nat) (x_1 : VS) => none) tab (.cons wk149 .nil) rfl rfl hm Tryd.func113 (by kernel_rfl) [PM.raw] (fun X Y H => by obtain ⟨b, _⟩ := X; obtain ⟨⟨h0_u, _⟩, ⟨h1, _⟩⟩ := Y; exact val_of (t113 b h0_u h1) (hd b h0_u h1 H)) IO L
def live114 (key : Nat) : Lv :=
  { ls := [] }
def d114 (h0_u : Bool) (h1 : List Int) : Tr (ByteArray × Bool) :=
 let v1 : Int := ((↑(List.length h1) : Int))
 let v2 : Int := ((↑(List.length h1) : Int))
 Tr.ite (decide (v2 = v1)) (Tr.ret (strOf h1, h0_u)) Tr.fail
def e114 (r : ByteArray × Bool) : FRes := { rs := Slot.av (AV.one (Leaf.dat Kd.str r.fst)), upd := [Blk.tb ( 132) r.snd [Leaf.srow ( 1)], Blk.dead], new := [] }
@[reducible] def a114 : List AK := [AK.c (Leaf.ptr (0 : Nat) (0 : Nat))]
@[reducible] def b114 : List BK := [BK.tb (132 : TypeId) [SK.c (Leaf.srow (1 : Nat))], BK.row (5 : TypeId) (Kd.int IntKind.u8)]
theorem t114 (h0_u : Bool) (h1 : List Int) : evFn (Env.loops (Env.withFns E0 [((149 : Nat), w149)]) live114 fun (x : Nat) (x_1 : VS) => none) Tryd.f114 [PM.data Kd.str] (akAV a114 ()) (bkBs b114 ((h0_u, ()), h1, ())) = (d114 h0_u h1).map e114 := by kernel_rfl
def s114' (G : akT a114 → bksT b114 → ByteArray × Bool) : FSpec := aspec0 a114 b114 e114 (G)
theorem k114' {G : akT a114 → bksT b114 → ByteArray × Bool} (hd : ∀ (h0_u : Bool) (h1 : List Int), (d114 h0_u h1).val = some (G () ((h0_u, ()), h1, ()))) (IO : ItOK Tryd.prog (Env.loops (Env.withFns E0 [((149 : Nat), w149)]) live114 fun (x : Nat) (x_1 : VS) => none) := by exact itOK_none rfl) (L : ∀ c, Tryd.f114.body = some c → LsOK (evI 2) ((Env.loops (Env.withFns E0 [((149 : Nat), w149)]) live114 fun (x : Nat) (x_1 : VS) => none).lend 2) c := by exact fun c _ => LsOK_none rfl c) : SpecOK Tryd.prog E0 114 (s114' G) :=
  aspec0_ok (ak := a114) (bl := b114) (e := e114) (g := G) (E0 := E0) (E := Env.loops (Env.withFns E0 [((149 : Nat), w149)]) live114 fun (x : Nat) (x_1 : VS) => none) tab (.cons wk149 .nil) rfl rfl hm Tryd.func114 (by kernel_rfl) [PM.data Kd.str] (fun X Y => by obtain ⟨⟨h0_u, _⟩, ⟨h1, _⟩⟩ := Y; exact val_of (t114 h0_u h1) (hd h0_u h1)) IO L
abbrev w112 : FSpec := s112 (fun x y => decide (List.length (α := Int) y.2.1 + ByteArray.size x.1 ≤ 140737488355328)) fun x y => ((ByteArray.size x.1 : Int), true, List.append (α := Int) y.2.1 (bytesL x.1))
theorem wk112 : SpecOK Tryd.prog E0 112 w112 := k112 fun b u h H => by
  simp only [d112, Tr.val, H, cond_true]
  rfl
abbrev w113 : FSpec := s113 (fun _ y => decide (List.length (α := Int) y.2.1 + 1 ≤ 140737488355328)) fun x y => (true, List.append (α := Int) y.2.1 [x.1])
theorem wk113 : SpecOK Tryd.prog E0 113 w113 := k113 fun b u h H => by
  have H : h.length + 1 ≤ 140737488355328 := of_decide_eq_true H
  simp only [d113, Tr.val, Nat.mul_one, H, decide_true, cond_true]
  rfl
abbrev w114 : FSpec := s114' fun _ y => (strOf y.2.1, y.1.1)
theorem wk114 : SpecOK Tryd.prog E0 114 w114 := k114' fun u h => by
  simp only [d114, Tr.val, decide_true, cond_true]
end Go.Proofs.YtmnbcnhpklejcaaDoor
namespace U
open Go.Proofs.YtmnbcnhpklejcaaDoor
def sayC (c : ByteArray × Int × (Int × Int × Int × Unit) × Unit) : List Int := bytesL c.1 ++ bif (decide (c.1 = (⟨#[]⟩ : ByteArray)) && decide (c.2.1 = 1)) then [32] else []
def sayL (l : List (ByteArray × Int × (Int × Int × Int × Unit) × Unit)) : List Int := l.flatMap sayC
end U
end
section
set_option linter.unusedVariables false
set_option linter.unusedSimpArgs false
set_option maxRecDepth 20000
set_option maxHeartbeats 4000000
open Go Go.Ev
namespace U
def mayR (y : Ln) : Bool := !decide ((y.1.length : Int) < 1) && (!decide ((80 : Int) < (y.1.length : Int)) && fitC y.1)
def mayL (l : List Ln) : Bool := allN (fun i => mayR (l.getD i dL)) l.length 0
end U
namespace U
open Go.Proofs.YtmnbcnhpklejcaaDoor
theorem sayC_len (c : ByteArray × Int × (Int × Int × Int × Unit) × Unit) : (sayC c).length ≤ c.1.size + 1 := by
  unfold sayC
  rw [List.length_append, Go.Ev.bytesL_size]
  cases (decide (c.1 = (⟨#[]⟩ : ByteArray)) && decide (c.2.1 = 1)) <;> simp
theorem sayL_len (l : List Cl) (h : ∀ c ∈ l, c.1.size ≤ 1048576) : (sayL l).length ≤ l.length * 1048577 := by
  induction l with
  | nil => simp [sayL]
  | cons c l ih =>
    have e : (sayL (c :: l)).length = (sayC c).length + (sayL l).length := by unfold sayL; rw [List.flatMap_cons, List.length_append]
    have h1 := sayC_len c
    have h2 := h c (List.mem_cons_self)
    have h3 := ih fun x hx => h x (List.mem_cons_of_mem _ hx)
    rw [e, List.length_cons, Nat.add_mul]
    omega
theorem okc_say {l : List Cl} (h : okc l = true) (k : Nat) : (l.drop k).length ≤ 1048576 ∧ (sayL (l.drop k)).length ≤ 140737488355328 := by
  have h0 := okc_len h
  have h1 : (l.drop k).length ≤ 1048576 := by rw [List.length_drop]; omega
  refine ⟨h1, Nat.le_trans (sayL_len _ fun c hc => ?_) (by omega)⟩
  simp only [okc, Bool.and_eq_true, decide_eq_true_eq, List.all_eq_true] at h
  exact h.2 c (List.mem_of_mem_drop hc)
end U
end
section
set_option linter.unusedVariables false
set_option linter.unusedSimpArgs false
set_option maxRecDepth 20000
set_option maxHeartbeats 4000000
open Go Go.Ev
namespace Go.Proofs.YtmnbcnhpklejcaaDoor
open Go.RowKit
def d147 : Tr (ByteArray × Int × Int × Int × Int) :=
 Tr.ret (ByteArray.empty, (1 : Int), (0 : Int), (0 : Int), (0 : Int))
def e147 (r : ByteArray × Int × Int × Int × Int) : FRes := { rs := Slot.av (AV.agg [Leaf.dat Kd.str r.fst, Leaf.dat (.int .i64) r.snd.fst, Leaf.dat (.int .i64) r.snd.snd.fst, Leaf.dat (.int .i64) r.snd.snd.snd.fst, Leaf.dat (.int .i64) r.snd.snd.snd.snd]), upd := [], new := [] }
@[reducible] def a147 : List AK := []
@[reducible] def b147 : List BK := []
theorem t147 : evFn (Env.withFns E0 [((88 : Nat), w88)]) Tryd.f147 [PM.data celk] (akAV a147 ()) (bkBs b147 ()) = (d147).map e147 := by kernel_rfl
def s147' (G : akT a147 → ByteArray × Int × Int × Int × Int) : FSpec := aspec0 a147 b147 e147 (fun x _ => G x)
theorem k147' {G : akT a147 → ByteArray × Int × Int × Int × Int} (hd : (d147).val = some (G ())) (IO : ItOK Tryd.prog (Env.withFns E0 [((88 : Nat), w88)]) := by exact itOK_none rfl) (L : ∀ c, Tryd.f147.body = some c → LsOK (evI 2) ((Env.withFns E0 [((88 : Nat), w88)]).lend 0) c := by exact fun c _ => LsOK_none rfl c) : SpecOK Tryd.prog E0 147 (s147' G) :=
  aspec0_ok (ak := a147) (bl := b147) (e := e147) (g := fun x _ => G x) (E0 := E0) (E := Env.withFns E0 [((88 : Nat), w88)]) tab (.cons wk88 .nil) rfl rfl hm Tryd.func147 (by kernel_rfl) [PM.data celk] (fun X Y => by exact val_of (t147) (hd)) IO L
abbrev w147 : FSpec := s147' fun _ => (ByteArray.empty, (1 : Int), (0 : Int), (0 : Int), (0 : Int))
theorem wk147 : SpecOK Tryd.prog E0 147 w147 := k147' rfl
def live110 (key : Nat) : Lv :=
  bif Nat.beq key 1 then { ls := [0] } else bif Nat.beq key 1001 then { ls := [0] } else
  { ls := [] }
abbrev M110 (ls : Nat → VS → Option (Tr (Ex × VS))) : Env := (E0.withFns [(147, w147)]).loops live110 ls
@[reducible] def p110_0 : LP := { n := 22, sl := [.d (Kd.sl celk)], bl := [] }
def B110_0 (x0 : List Cell) : Tr (p110_0.T ⊕ (List Cell)) :=
 let v1 : Int := ((↑(List.length x0) : Int))
 let v2 : Int := (IntKind.wrap IntKind.i64 (v1 - (1 : Int)))
 Tr.ite (decide ((0 : Int) < v1)) (Tr.ite (inB v2 (List.length x0)) (Tr.ite (decide ((rget celk x0 v2).fst = ByteArray.empty) && (decide ((rget celk x0 v2).snd.fst = (1 : Int)) && (decide ((rget celk x0 v2).snd.snd.fst.fst = (0 : Int)) && (decide ((rget celk x0 v2).snd.snd.fst.snd.fst = (0 : Int)) && decide ((rget celk x0 v2).snd.snd.fst.snd.snd.fst = (0 : Int)))))) (Tr.ite (decide ((0 : Int) ≤ v2 ∧ v2 ≤ v1)) (Tr.ret (Sum.inl ((sub x0 (0 : Nat) (Int.toNat v2), ()), ()))) Tr.fail) (Tr.ret (Sum.inr x0))) Tr.fail) (Tr.ret (Sum.inr x0))
def X110_0 (r : (List Cell)) : Ex × VS := Prod.mk (Ex.exit ( 0)) { n := 22, v := [Slot.av (AV.one (Leaf.dat (Kd.sl celk) r))], h := [] }
def b110_0 : p110_0.T → Tr (p110_0.T ⊕ (List Cell)) := fun ⟨⟨x0, _⟩, _⟩ => B110_0 x0
theorem h110_0 (ls : Nat → VS → Option (Tr (Ex × VS))) (x : p110_0.T) : (evC (evI 2) (lc Tryd.f110 0) (Env.lend (M110 ls) 0) (unV (live110 1) (p110_0.V x))).map (decL 0 (live110 1) (live110 1001)) = (b110_0 x).map (encR p110_0.V X110_0) := by
  obtain ⟨⟨x0, _⟩, _⟩ := x; kernel_rfl
theorem c110_0 (x : p110_0.T) : canV 0 (live110 1) (unV (live110 1) (p110_0.V x)) = p110_0.V x := by
  obtain ⟨⟨x0, _⟩, _⟩ := x; kernel_rfl
theorem l110_0 {T : p110_0.T → Tr (List Cell)} {ls : Nat → VS → Option (Tr (Ex × VS))} (hls : ∀ x, (Env.lend (M110 ls) 0).ls 1 x = p110_0.ls (fun a => (T a).map X110_0) x) (hS : ∀ x r, (T x).val = some r → Rounds b110_0 x r) : LoopOK (evI 2) (Env.lend (M110 ls) 0) (lc Tryd.f110 0) :=
  loopA 1 (live110 1) (live110 1001) p110_0 b110_0 X110_0 T (by kernel_rfl) rfl rfl hls (h110_0 ls) c110_0 hS
end Go.Proofs.YtmnbcnhpklejcaaDoor
namespace U
def isNone (c : ByteArray × Int × (Int × Int × Int × Unit) × Unit) : Bool := decide (c.1 = ByteArray.empty) && (decide (c.2.1 = 1) && (decide (c.2.2.1.1 = 0) && (decide (c.2.2.1.2.1 = 0) && decide (c.2.2.1.2.2.1 = 0))))
def trimR (l : List (ByteArray × Int × (Int × Int × Int × Unit) × Unit)) : List (ByteArray × Int × (Int × Int × Int × Unit) × Unit) := (l.reverse.dropWhile isNone).reverse
theorem trimR_snoc (l : List (ByteArray × Int × (Int × Int × Int × Unit) × Unit)) (a : ByteArray × Int × (Int × Int × Int × Unit) × Unit) : trimR (l ++ [a]) = bif isNone a then trimR l else l ++ [a] := by
  unfold trimR
  rw [List.reverse_append, List.reverse_singleton, List.singleton_append, List.dropWhile_cons]
  cases isNone a
  · simp
  · simp
end U
namespace Go.Proofs.YtmnbcnhpklejcaaDoor
def T110 (x : p110_0.T) : Tr (List Cell) := .ite (decide (List.length (α := Cell) x.1.1 ≤ 1048576)) (.ret (U.trimR x.1.1)) .fail
abbrev E110 : Env := M110 fun key x => bif Nat.beq key 1 then p110_0.ls (fun a => (T110 a).map X110_0) x else none
theorem R110 : ∀ (n : Nat) (l : List Cell), l.length = n → n ≤ 1048576 → Rounds b110_0 ((l, ()), ()) (U.trimR l)
  | 0, l, h, _ => by
    have e : l = [] := List.eq_nil_of_length_eq_zero h
    subst e
    exact .exit (by simp [b110_0, B110_0, Tr.val, U.trimR])
  | n + 1, l, h, hn => by
    rcases List.eq_nil_or_concat l with rfl | ⟨L, a, rfl⟩
    · cases h
    · rw [List.concat_eq_append] at h ⊢
      have hL : L.length = n := by rw [List.length_append, List.length_singleton] at h; omega
      have e0 : (L ++ [a]).length = L.length + 1 := by rw [List.length_append, List.length_singleton]
      have e1 : IntKind.wrap IntKind.i64 (((L.length + 1 : Nat) : Int) - 1) = (L.length : Int) := by rw [Go.Ev.w64 (by omega) (by omega)]; omega
      have e2 : rget celk (L ++ [a]) (L.length : Int) = a := by
        rw [rgetC, getD_el (by rw [e0]; omega)]
        simp
      have e3 : sub (L ++ [a]) 0 (Int.toNat (L.length : Int)) = L := by
        unfold sub
        rw [Int.toNat_natCast, List.drop_zero, List.take_left]
      have e4 : decide ((0 : Int) ≤ (L.length : Int) ∧ (L.length : Int) ≤ ((L.length + 1 : Nat) : Int)) = true := decide_eq_true (by omega)
      have e5 : decide ((0 : Int) < ((L.length + 1 : Nat) : Int)) = true := decide_eq_true (by omega)
      have e6 : inB (L.length : Int) (L.length + 1) = true := inB_nat (by omega)
      have hv : (b110_0 ((L ++ [a], ()), ())).val = bif U.isNone a then some (.inl ((L, ()), ())) else some (.inr (L ++ [a])) := by
        simp only [b110_0, B110_0, Tr.val, e0, e1, e2, e3, e4, e5, e6, cond_true]
        rfl
      rw [U.trimR_snoc]
      cases hb : U.isNone a with
      | true =>
        rw [hb] at hv
        exact .step hv (R110 n L hL (by omega))
      | false =>
        rw [hb] at hv
        exact .exit hv
theorem L110 : LoopOK (evI 2) (E110.lend 0) (lc Tryd.f110 0) := by
  refine l110_0 (T := T110) (fun x => rfl) ?_
  rintro ⟨⟨l, z⟩, z1⟩ r hh
  obtain ⟨g1, g2⟩ := pre_val hh
  have g1 : l.length ≤ 1048576 := of_decide_eq_true g1
  cases g2
  exact R110 _ l rfl g1
def d110 (a : List Cell) : Tr (List Cell) :=
 Tr.ite (decide (List.length a ≤ (1048576 : Nat))) (Tr.ret (U.trimR a)) Tr.fail
def e110 (r : List Cell) : FRes := { rs := Slot.av (AV.one (Leaf.dat (Kd.sl celk) r)), upd := [], new := [] }
@[reducible] def a110 : List AK := [AK.d (Kd.sl celk)]
@[reducible] def b110 : List BK := []
theorem t110 (a : List Cell) : evFn (E110) Tryd.f110 [PM.data (Kd.sl celk)] (akAV a110 (a, ())) (bkBs b110 ()) = (d110 a).map e110 := by kernel_rfl
def s110 (C : akT a110 → Bool) (G : akT a110 → List Cell) : FSpec := aspec a110 b110 e110 (fun x _ => C x) (fun x _ => G x)
theorem k110 {C : akT a110 → Bool} {G : akT a110 → List Cell} (hd : ∀ (a : List Cell), C (a, ()) = true → (d110 a).val = some (G (a, ()))) (IO : ItOK Tryd.prog (E110) := by exact itOK_none rfl) (L : ∀ c, Tryd.f110.body = some c → LsOK (evI 2) ((E110).lend 0) c := by exact fun c _ => LsOK_none rfl c) : SpecOK Tryd.prog E0 110 (s110 C G) :=
  aspec_ok (ak := a110) (bl := b110) (e := e110) (c := fun x _ => C x) (g := fun x _ => G x) (E0 := E0) (E := E110) tab (.cons wk147 .nil) rfl rfl hm Tryd.func110 (by kernel_rfl) [PM.data (Kd.sl celk)] (fun X Y H => by obtain ⟨a, _⟩ := X; exact val_of (t110 a) (hd a H)) IO L
abbrev w110 : FSpec := s110 (fun x => decide (List.length (α := Cell) x.1 ≤ 1048576)) fun x => U.trimR x.1
theorem wk110 : SpecOK Tryd.prog E0 110 w110 := by
  refine k110 (fun l H => ?_) (L := ls_ok (lcs := [lc Tryd.f110 0]) (rgs := []) (by kernel_rfl) (by kernel_rfl) L110 trivial)
  have H : l.length ≤ 1048576 := of_decide_eq_true H
  simp only [d110, Tr.val, H, decide_true, cond_true]
end Go.Proofs.YtmnbcnhpklejcaaDoor
end
section
set_option linter.unusedVariables false
set_option linter.unusedSimpArgs false
set_option maxRecDepth 20000
set_option maxHeartbeats 4000000
open Go Go.Ev
namespace Go.Proofs.YtmnbcnhpklejcaaDoor
open Go.RowKit
def d146 (a : List Line) (b : Int) : Tr (List Line × Int) :=
 Tr.ite (decide (b < (1 : Int))) Tr.fail (Tr.ret (a, b))
def e146 (r : List Line × Int) : FRes := { rs := Slot.av (AV.one (Leaf.fn ( 160) [0, 1])), upd := [], new := [Blk.box [Leaf.dat (Kd.sl link) r.fst], Blk.box [Leaf.dat (.int .i64) r.snd]] }
@[reducible] def a146 : List AK := [AK.d (Kd.sl link), AK.d (.int .i64)]
@[reducible] def b146 : List BK := []
theorem t146 (a : List Line) (b : Int) : evFn (E0) Tryd.f146 [PM.raw] (akAV a146 (a, b, ())) (bkBs b146 ()) = (d146 a b).map e146 := by kernel_rfl
def s146 (C : akT a146 → Bool) (G : akT a146 → List Line × Int) : FSpec := aspec a146 b146 e146 (fun x _ => C x) (fun x _ => G x)
theorem k146 {C : akT a146 → Bool} {G : akT a146 → List Line × Int} (hd : ∀ (a : List Line) (b : Int), C (a, b, ()) = true → (d146 a b).val = some (G (a, b, ()))) (IO : ItOK Tryd.prog (E0) := by exact itOK_none rfl) (L : ∀ c, Tryd.f146.body = some c → LsOK (evI 2) ((E0).lend 0) c := by exact fun c _ => LsOK_none rfl c) : SpecOK Tryd.prog E0 146 (s146 C G) :=
  aspec_ok (ak := a146) (bl := b146) (e := e146) (c := fun x _ => C x) (g := fun x _ => G x) (E0 := E0) (E := E0) tab .nil rfl rfl hm Tryd.func146 (by kernel_rfl) [PM.raw] (fun X Y H => by obtain ⟨a, ⟨b, _⟩⟩ := X; exact val_of (t146 a b) (hd a b H)) IO L
def d111 (a : List Cell) : Tr (List Cell) :=
 Tr.ret a
def e111 (r : List Cell) : FRes := { rs := Slot.av (AV.one (Leaf.fn ( 148) [0])), upd := [], new := [Blk.box [Leaf.dat (Kd.sl celk) r]] }
@[reducible] def a111 : List AK := [AK.d (Kd.sl celk)]
@[reducible] def b111 : List BK := []
theorem t111 (a : List Cell) : evFn (E0) Tryd.f111 [PM.raw] (akAV a111 (a, ())) (bkBs b111 ()) = (d111 a).map e111 := by kernel_rfl
def s111' (G : akT a111 → List Cell) : FSpec := aspec0 a111 b111 e111 (fun x _ => G x)
theorem k111' {G : akT a111 → List Cell} (hd : ∀ (a : List Cell), (d111 a).val = some (G (a, ()))) (IO : ItOK Tryd.prog (E0) := by exact itOK_none rfl) (L : ∀ c, Tryd.f111.body = some c → LsOK (evI 2) ((E0).lend 0) c := by exact fun c _ => LsOK_none rfl c) : SpecOK Tryd.prog E0 111 (s111' G) :=
  aspec0_ok (ak := a111) (bl := b111) (e := e111) (g := fun x _ => G x) (E0 := E0) (E := E0) tab .nil rfl rfl hm Tryd.func111 (by kernel_rfl) [PM.raw] (fun X Y => by obtain ⟨a, _⟩ := X; exact val_of (t111 a) (hd a)) IO L
abbrev w146 : FSpec := s146 (fun x => decide (1 ≤ (x.2.1 : Int))) fun x => (x.1, x.2.1)
theorem wk146 : SpecOK Tryd.prog E0 146 w146 := k146 fun l n H => by
  have H : 1 ≤ n := of_decide_eq_true H
  simp only [d146, Tr.val, show ¬ (n < 1) by omega, decide_false, cond_false]
abbrev w111 : FSpec := s111' fun x => x.1
theorem wk111 : SpecOK Tryd.prog E0 111 w111 := k111' fun l => rfl
end Go.Proofs.YtmnbcnhpklejcaaDoor
end
section
set_option linter.unusedVariables false
set_option linter.unusedSimpArgs false
set_option maxRecDepth 20000
set_option maxHeartbeats 4000000
open Go Go.Ev
namespace Go.Proofs.YtmnbcnhpklejcaaDoor
open Go.RowKit
abbrev G109 : List (Nat × FSpec) := [(146, w146), (20, w20)]
theorem AG109 : AllFn Tryd.prog E0 G109 := .cons wk146 (.cons wk20 .nil)
def live109 (key : Nat) : Lv := { ls := bif Nat.beq key 100001 then [0, 1, 2, 4] else bif Nat.beq key 502 then [0, 2, 5] else bif Nat.beq key 1502 then [0, 2] else bif Nat.beq key 503 then [0, 2, 5] else bif Nat.beq key 1503 then [0, 2] else [] }
noncomputable def rl109 : RL := { ps := (rg Tryd.f109 0).ps.toList, asg := (rg Tryd.f109 0).asg, body := (rg Tryd.f109 0).body }
noncomputable abbrev M109 (ls : Nat → VS → Option (Tr (Ex × VS))) : Env := ((E0.withFns G109).withIts [(160, Tryd.f160)]).loops live109 ls
def X109 (l0 l : List Line) (r : Bool) : VS := ⟨14, [.av (.one (.dat (.sl link) l0)), .av (.one (.ptr 0 0)), .av (.one (.fn 160 [1, 2]))], [(0, .box [.dat .bool r]), (1, .box [.dat (.sl link) l]), (2, .box [.dat (.int .i64) 40])]⟩
end Go.Proofs.YtmnbcnhpklejcaaDoor
namespace U
def evens (l : List Ln) : Bool := !l.any fun y => odd y.1
end U
namespace Go.Proofs.YtmnbcnhpklejcaaDoor
@[reducible] def p109 : LP := { n := 14, sl := [.d (.sl link), .c (.ptr 0 0), .c (.fn 160 [1, 2])], bl := [(0, .box [.d .bool]), (1, .box [.d (.sl link)]), (2, .box [.d (.int .i64)])] }
def Y109 (l0 : List Line) (r : Bool) : VS := ⟨14, [.av (.one (.dat (.sl link) l0)), .av (.one (.ptr 0 0))], [(0, .box [.dat .bool r])]⟩
def Z109 (l0 : List Line) : VS := ⟨14, [.av (.one (.dat (.sl link) l0)), .av (.one (.ptr 0 0))], [(0, .box [.kb false])]⟩
def T109 (x : p109.T) : Tr (Ex × VS) :=
  match x with
  | ⟨⟨l0, _⟩, ⟨r, _⟩, ⟨l, _⟩, ⟨n, _⟩, _⟩ => .ite (decide ((n : Int) = 40) && U.okl l) (.ite (U.evens l) (.ret (.nrm, Y109 l0 r)) (.ret (.ret, Z109 l0))) .fail
noncomputable abbrev E109 : Env := M109 fun key x => bif Nat.beq key 503 then p109.ls T109 x else none
noncomputable def V160 (l : List Line) (r : Bool) (i : Int) : VS := ⟨31, [.av (.one (.yld 3)), .av (.one (.ptr 1 0)), .av (.one (.ptr 2 0)), .av (.one (.dat (.int .i64) i))], [(0, .box [.dat .bool r]), (1, .box [.dat (.sl link) l]), (2, .box [.dat (.int .i64) 40]), (3, .lrec false none rl109)]⟩
noncomputable abbrev Ei109 (k : Nat) (l0 l : List Line) (r : Bool) : Env := ((E109.lend 0).fueled k).inner 4 (yldR (evI 2 ((E109.lend 0).fueled k).round) (unV { ls := [0, 2, 5] } (X109 l0 l r)).t 3)
noncomputable def Fe (l : List Line) (r : Bool) : VS := ⟨31, [], [(0, .box [.dat .bool r]), (1, .box [.dat (.sl link) l]), (2, .box [.dat (.int .i64) 40]), (3, .lrec false none rl109)]⟩
noncomputable def Fr (l : List Line) : VS := ⟨31, [], [(0, .box [.kb false]), (1, .box [.dat (.sl link) l]), (2, .box [.dat (.int .i64) 40]), (3, .lrec false (some .ret) rl109)]⟩
def end160 (l : List Line) (i : Int) : Int := IntKind.i64.wrap (i + minI 40 ((sub l i.toNat l.length).length : Int))
noncomputable def B160 (l : List Line) (r : Bool) (i : Int) : Tr (Int ⊕ (Ex × VS)) :=
 .ite (decide (i < (l.length : Int))) (.ite (decide ((0 : Int) ≤ i ∧ i ≤ (l.length : Int))) (.ite (decide ((0 : Int) ≤ i ∧ i ≤ end160 l i ∧ end160 l i ≤ (l.length : Int)) && decide (end160 l i = end160 l i)) (.ite (U.okl (sub l i.toNat (end160 l i).toNat)) (.ite (!keepB (40, sub l i.toNat (end160 l i).toNat, ())) (.ret (.inr (.ret, Fr l))) (.ret (.inl (IntKind.i64.wrap (i + 40))))) .fail) .fail) .fail) (.ret (.inr (.exit 0, Fe l r)))
theorem hB160 (k : Nat) (l0 l : List Line) (r : Bool) (i : Int) : (evC (evI 1) (lc Tryd.f160 0) (Ei109 k l0 l r) (unV { ls := [0, 1, 2, 4] } (V160 l r i))).map (decL 4 { ls := [0, 1, 2, 4] } { ls := [] }) = (B160 l r i).map (encL (V160 l r)) := by kernel_rfl
theorem pre160 (k : Nat) (l0 l : List Line) (r : Bool) : (evC (evI 1) (match Tryd.f160.body with | some (.seq x _) => x | _ => .skip) (Ei109 k l0 l r)
    { t := { n := 31, m := argsT 0 [.one (.yld 3), .one (.ptr 1 0), .one (.ptr 2 0)] (Tm.full 10) }, h := (X109 l0 l r).h.set 3 (.lrec false none rl109) }).map (decL 4 { ls := [0, 1, 2, 4] } { ls := [] }) =
    .ret (.inl (V160 l r 0)) := by kernel_rfl
end Go.Proofs.YtmnbcnhpklejcaaDoor
namespace U
open Go.Proofs.YtmnbcnhpklejcaaDoor
theorem okl_part {l : List Ln} (h : okl l = true) (i n : Nat) : okl ((l.drop i).take n) = true := by
  simp only [okl, Bool.and_eq_true, decide_eq_true_eq, List.all_eq_true] at h ⊢
  refine ⟨by rw [List.length_take, List.length_drop]; omega, fun x hx => h.2 x (List.mem_of_mem_drop (List.mem_of_mem_take hx))⟩
theorem evens_app (a b : List Ln) : evens (a ++ b) = (evens a && evens b) := by unfold evens; rw [List.any_append, Bool.not_or]
theorem keep_part (c : List Ln) (h : c.length ≤ 40) : keepB (40, c, ()) = evens c := by
  unfold keepB evens
  have e1 : decide ((0 : Int) ≤ 40) = true := rfl
  have e2 : decide ((40 : Int) ≤ 40) = true := rfl
  have e3 : decide ((c.length : Int) ≤ 40) = true := decide_eq_true (by omega)
  show (decide ((0 : Int) ≤ 40) && (decide ((40 : Int) ≤ 40) && (decide ((c.length : Int) ≤ 40) && !(c.any fun y => odd y.1)))) = _
  rw [e1, e2, e3]
  rfl
end U
namespace Go.Proofs.YtmnbcnhpklejcaaDoor
theorem run160 (l : List Line) (r : Bool) (gk : U.okl l = true) : ∀ (k i : Nat), l.length - i < k → i ≤ l.length + 40 →
    runB (B160 l r) k (i : Int) = some (bif U.evens (l.drop i) then (.exit 0, Fe l r) else (.ret, Fr l))
  | 0, i, h, _ => by omega
  | k + 1, i, h, hi => by
    have hl := U.okl_len gk
    by_cases c : i < l.length
    · have e1 : sub l i l.length = l.drop i := by unfold sub; rw [List.take_length]
      have e2 : minI 40 ((l.drop i).length : Int) = ((min 40 (l.length - i) : Nat) : Int) := by rw [List.length_drop]; exact minI_nat 40 _
      have e3 : end160 l (i : Int) = ((i + min 40 (l.length - i) : Nat) : Int) := by
        unfold end160
        rw [Int.toNat_natCast, e1, e2, Go.Ev.w64 (by omega) (by omega)]
        omega
      have e4 : sub l i (i + min 40 (l.length - i)) = (l.drop i).take 40 := by
        unfold sub
        rw [List.drop_take]
        rcases Nat.le_total 40 (l.length - i) with h' | h'
        · rw [Nat.min_eq_left h']; congr 1; omega
        · rw [Nat.min_eq_right h', List.take_of_length_le (by rw [List.length_drop]; omega), List.take_of_length_le (by rw [List.length_drop]; omega)]
      have c1 : decide ((i : Int) < (l.length : Int)) = true := decide_eq_true (by omega)
      have c2 : decide ((0 : Int) ≤ (i : Int) ∧ (i : Int) ≤ (l.length : Int)) = true := decide_eq_true (by omega)
      have c3 : decide ((0 : Int) ≤ (i : Int) ∧ (i : Int) ≤ ((i + min 40 (l.length - i) : Nat) : Int) ∧ ((i + min 40 (l.length - i) : Nat) : Int) ≤ (l.length : Int)) = true := decide_eq_true (by omega)
      have c4 := U.okl_part gk i 40
      have c5 := U.keep_part ((l.drop i).take 40) (by rw [List.length_take]; omega)
      have e5 : IntKind.i64.wrap ((i : Int) + 40) = ((i + 40 : Nat) : Int) := by rw [Go.Ev.w64 (by omega) (by omega)]; omega
      have e6 : U.evens (l.drop i) = (U.evens ((l.drop i).take 40) && U.evens (l.drop (i + 40))) := by
        rw [← U.evens_app, ← List.drop_drop, List.take_append_drop]
      have hv : (B160 l r (i : Int)).val = bif U.evens ((l.drop i).take 40) then some (.inl ((i + 40 : Nat) : Int)) else some (.inr (.ret, Fr l)) := by
        simp only [B160, Tr.val, e3, e5, Int.toNat_natCast, e4, c1, c2, c3, c4, c5, decide_true, Bool.and_self, cond_true]
        cases U.evens ((l.drop i).take 40) <;> rfl
      rw [e6]
      cases hb : U.evens ((l.drop i).take 40) with
      | true =>
        rw [hb] at hv
        simp only [runB, hv, cond_true, Bool.true_and]
        exact run160 l r gk k (i + 40) (by omega) (by omega)
      | false =>
        rw [hb] at hv
        simp only [runB, hv, cond_false, Bool.false_and]
    · have c1 : decide ((i : Int) < (l.length : Int)) = false := decide_eq_false (by omega)
      have hv : (B160 l r (i : Int)).val = some (.inr (.exit 0, Fe l r)) := by
        simp only [B160, Tr.val, c1, cond_false]
      have e : l.drop i = [] := List.drop_of_length_le (by omega)
      rw [e]
      simp only [runB, hv]
      rfl
theorem range109 : RangeOK (evI 2) (E109.lend 0) (rg Tryd.f109 0) := by
  refine RangeOK.fueled fun x tr rr h1 h2 => ?_
  have h1 : p109.ls T109 x = some tr := h1
  unfold LP.ls at h1
  split at h1
  · rename_i a ha
    cases h1
    rw [LP.get_eq ha]
    clear ha
    obtain ⟨⟨l0, z0⟩, ⟨r, z1⟩, ⟨l, z2⟩, ⟨n, z3⟩, z4⟩ := a
    obtain ⟨g1, g2⟩ := pre_val h2
    rw [Bool.and_eq_true] at g1
    obtain ⟨g1, gk⟩ := g1
    have g1 : (n : Int) = 40 := of_decide_eq_true g1
    subst g1
    have gk : U.okl l = true := gk
    have hr := run160 l r gk (l.length + 1) 0 (by omega) (by omega)
    rw [List.drop_zero] at hr
    cases he : U.evens l with
    | true =>
      rw [he] at hr
      have g3 : rr = (.nrm, Y109 l0 r) := by
        have g2 : (Tr.ite (U.evens l) (.ret (.nrm, Y109 l0 r)) (.ret (.ret, Z109 l0)) : Tr (Ex × VS)).val = some rr := g2
        rw [he] at g2; cases g2; rfl
      subst g3
      obtain ⟨r', i1, i2, i3⟩ := iter_val (k0 := 1) (Ei := Ei109 (l.length + 1) l0 l r) (A := match Tryd.f160.body with | some (.seq x _) => x | _ => .skip) (L := lc Tryd.f160 0) (b := 0) (V := V160 l r) (B := B160 l r) (lv := { ls := [0, 1, 2, 4] }) rfl (by kernel_rfl)
        (hB160 (l.length + 1) l0 l r) (x0 := (0 : Int)) (σ0 := { t := { n := 31, m := argsT 0 [.one (.yld 3), .one (.ptr 1 0), .one (.ptr 2 0)] (Tm.full 10) }, h := (X109 l0 l r).h.set 3 (.lrec false none rl109) })
        (congrArg Tr.val (pre160 (l.length + 1) l0 l r)) (n := l.length + 1) rfl hr (.inl rfl)
      exact ⟨l.length + 1, _, range_val (k0 := 1 + 1) (g := 160) (caps := [1, 2]) (fn := Tryd.f160) (c := .seq (match Tryd.f160.body with | some (.seq x _) => x | _ => .skip) (.block 0 (.loop (lc Tryd.f160 0)))) (m := 3) (by kernel_rfl) (by kernel_rfl) (by kernel_rfl) (by kernel_rfl) (by kernel_rfl) i1 i2 i3 (pe := none) (rl' := rl109) rfl rfl, Prod.ext rfl (by kernel_rfl)⟩
    | false =>
      rw [he] at hr
      have g3 : rr = (.ret, Z109 l0) := by
        have g2 : (Tr.ite (U.evens l) (.ret (.nrm, Y109 l0 r)) (.ret (.ret, Z109 l0)) : Tr (Ex × VS)).val = some rr := g2
        rw [he] at g2; cases g2; rfl
      subst g3
      obtain ⟨r', i1, i2, i3⟩ := iter_val (k0 := 1) (Ei := Ei109 (l.length + 1) l0 l r) (A := match Tryd.f160.body with | some (.seq x _) => x | _ => .skip) (L := lc Tryd.f160 0) (b := 0) (V := V160 l r) (B := B160 l r) (lv := { ls := [0, 1, 2, 4] }) rfl (by kernel_rfl)
        (hB160 (l.length + 1) l0 l r) (x0 := (0 : Int)) (σ0 := { t := { n := 31, m := argsT 0 [.one (.yld 3), .one (.ptr 1 0), .one (.ptr 2 0)] (Tm.full 10) }, h := (X109 l0 l r).h.set 3 (.lrec false none rl109) })
        (congrArg Tr.val (pre160 (l.length + 1) l0 l r)) (n := l.length + 1) rfl hr (.inr rfl)
      exact ⟨l.length + 1, _, range_val (k0 := 1 + 1) (g := 160) (caps := [1, 2]) (fn := Tryd.f160) (c := .seq (match Tryd.f160.body with | some (.seq x _) => x | _ => .skip) (.block 0 (.loop (lc Tryd.f160 0)))) (m := 3) (by kernel_rfl) (by kernel_rfl) (by kernel_rfl) (by kernel_rfl) (by kernel_rfl) i1 i2 i3 (pe := some .ret) (rl' := rl109) rfl rfl, Prod.ext rfl (by kernel_rfl)⟩
  · cases h1
def d109 (a : List Line) : Tr (Bool) :=
 let v1 : Int := ((↑(List.length a) : Int))
 Tr.ite true (Tr.ite (true && U.okl a) (Tr.ite (U.evens a) (Tr.ret (decide (v1 ≤ (200 : Int)))) (Tr.ret false)) Tr.fail) Tr.fail
def e109 (r : Bool) : FRes := { rs := Slot.av (AV.one (Leaf.dat Kd.bool r)), upd := [], new := [] }
@[reducible] def a109 : List AK := [AK.d (Kd.sl link)]
@[reducible] def b109 : List BK := []
theorem t109 (a : List Line) : evFn (E109) Tryd.f109 [PM.data Kd.bool] (akAV a109 (a, ())) (bkBs b109 ()) = (d109 a).map e109 := by kernel_rfl
def s109 (C : akT a109 → Bool) (G : akT a109 → Bool) : FSpec := aspec a109 b109 e109 (fun x _ => C x) (fun x _ => G x)
theorem k109 {C : akT a109 → Bool} {G : akT a109 → Bool} (hd : ∀ (a : List Line), C (a, ()) = true → (d109 a).val = some (G (a, ()))) (IO : ItOK Tryd.prog (E109) := by exact itOK_none rfl) (L : ∀ c, Tryd.f109.body = some c → LsOK (evI 2) ((E109).lend 0) c := by exact fun c _ => LsOK_none rfl c) : SpecOK Tryd.prog E0 109 (s109 C G) :=
  aspec_ok (ak := a109) (bl := b109) (e := e109) (c := fun x _ => C x) (g := fun x _ => G x) (E0 := E0) (E := E109) tab AG109 rfl rfl hm Tryd.func109 (by kernel_rfl) [PM.data Kd.bool] (fun X Y H => by obtain ⟨a, _⟩ := X; exact val_of (t109 a) (hd a H)) IO L
theorem IO109 : ItOK Tryd.prog E109 := itOK_of (l := [(160, Tryd.f160)]) rfl (by
  intro p hp
  rw [List.mem_singleton] at hp
  subst hp
  exact ⟨Tryd.func160, by kernel_rfl⟩)
abbrev w109 : FSpec := s109 (fun x => U.okl x.1) fun x => U.evens x.1 && decide ((List.length (α := Line) x.1 : Int) ≤ 200)
theorem wk109 : SpecOK Tryd.prog E0 109 w109 := by
  refine k109 (fun l H => ?_) IO109 (L := ls_ok (lcs := []) (rgs := [rg Tryd.f109 0]) (by kernel_rfl) (by kernel_rfl) trivial range109)
  have H : U.okl l = true := H
  show _ = some (U.evens l && decide ((l.length : Int) ≤ 200))
  simp only [d109, Tr.val, H, Bool.and_self, cond_true]
  cases U.evens l <;> rfl
end Go.Proofs.YtmnbcnhpklejcaaDoor
end
section
set_option linter.unusedVariables false
set_option linter.unusedSimpArgs false
set_option maxRecDepth 20000
set_option maxHeartbeats 4000000
open Go Go.Ev
namespace Go.Proofs.YtmnbcnhpklejcaaDoor
open Go.RowKit
def live52 (key : Nat) : Lv :=
  bif Nat.beq key 6 then { ls := [0, 4, 5, 11, 12, 13], wd := [⟨4, none, .row 32 (.sl celk)⟩, ⟨5, none, .row 48 celk⟩] } else bif Nat.beq key 1006 then { ls := [4] } else
  { ls := [] }
abbrev G52 : List (Nat × FSpec) := [(109, w109), (110, w110)]
theorem AG52 : AllFn Tryd.prog E0 G52 := .cons wk109 (.cons wk110 .nil)
abbrev M52 (ls : Nat → VS → Option (Tr (Ex × VS))) : Env := (E0.withFns G52).loops live52 ls
@[reducible] def p52_0 : LP := { n := 39, sl := [.d (Kd.sl link), .c (Leaf.row ( 0)), .c (Leaf.row ( 1)), .d (Kd.sl link), .d (.int .i64), .d (.int .i64)], bl := [(0, .row 32 (Kd.sl celk)), (1, .row 48 (celk))] }
def B52_0 (x0 : List Line) (x3 : List Line) (x4 : Int) (x5 : Int) (h0 : List (List Cell)) (h1 : List Cell) : Tr (p52_0.T ⊕ (List (List Cell))) :=
 let v1 : Int := (IntKind.wrap IntKind.i64 ((↑(List.length x0) : Int) - (1 : Int)))
 Tr.ite (decide (x5 < x4)) (Tr.ite (inB x5 (List.length x3)) (Tr.ite (decide ((List.length h1 + List.length (rget link x3 x5).fst) * (48 : Nat) ≤ (140737488355328 : Nat))) (Tr.ite (!(rget link x3 x5).snd.fst) (Tr.ite (decide (List.length (h1 ++ (rget link x3 x5).fst) ≤ (1048576 : Nat))) (Tr.ite (decide ((List.length h0 + (1 : Nat)) * (24 : Nat) ≤ (140737488355328 : Nat))) (Tr.ret (Sum.inl ((x0, x3, x4, IntKind.wrap IntKind.i64 (x5 + (1 : Int)), ()), h0 ++ [U.trimR (h1 ++ (rget link x3 x5).fst)], [], ()))) Tr.fail) Tr.fail) (Tr.ite (decide (x5 = v1)) (Tr.ite (decide (List.length (h1 ++ (rget link x3 x5).fst) ≤ (1048576 : Nat))) (Tr.ite (decide ((List.length h0 + (1 : Nat)) * (24 : Nat) ≤ (140737488355328 : Nat))) (Tr.ret (Sum.inl ((x0, x3, x4, IntKind.wrap IntKind.i64 (x5 + (1 : Int)), ()), h0 ++ [U.trimR (h1 ++ (rget link x3 x5).fst)], [], ()))) Tr.fail) Tr.fail) (Tr.ret (Sum.inl ((x0, x3, x4, IntKind.wrap IntKind.i64 (x5 + (1 : Int)), ()), h0, h1 ++ (rget link x3 x5).fst, ()))))) Tr.fail) Tr.fail) (Tr.ret (Sum.inr h0))
def X52_0 (r : (List (List Cell))) : Ex × VS := Prod.mk (Ex.exit ( 0)) { n := 39, v := [Slot.av (AV.one (Leaf.row ( 0)))], h := [( 0, Blk.row ( 32) (Kd.sl celk) r)] }
def b52_0 : p52_0.T → Tr (p52_0.T ⊕ (List (List Cell))) := fun ⟨⟨x0, ⟨x3, ⟨x4, ⟨x5, _⟩⟩⟩⟩, ⟨h0, ⟨h1, _⟩⟩⟩ => B52_0 x0 x3 x4 x5 h0 h1
theorem h52_0 (ls : Nat → VS → Option (Tr (Ex × VS))) (x : p52_0.T) : (evC (evI 2) (lc Tryd.f52 0) (Env.lend (M52 ls) 0) (unV (live52 6) (p52_0.V x))).map (decL 0 (live52 6) (live52 1006)) = (b52_0 x).map (encR p52_0.V X52_0) := by
  obtain ⟨⟨x0, ⟨x3, ⟨x4, ⟨x5, _⟩⟩⟩⟩, ⟨h0, ⟨h1, _⟩⟩⟩ := x; kernel_rfl
theorem c52_0 (x : p52_0.T) : canV 0 (live52 6) (unV (live52 6) (p52_0.V x)) = p52_0.V x := by
  obtain ⟨⟨x0, ⟨x3, ⟨x4, ⟨x5, _⟩⟩⟩⟩, ⟨h0, ⟨h1, _⟩⟩⟩ := x; kernel_rfl
theorem l52_0 {T : p52_0.T → Tr (List (List Cell))} {ls : Nat → VS → Option (Tr (Ex × VS))} (hls : ∀ x, (Env.lend (M52 ls) 0).ls 6 x = p52_0.ls (fun a => (T a).map X52_0) x) (hS : ∀ x r, (T x).val = some r → Rounds b52_0 x r) : LoopOK (evI 2) (Env.lend (M52 ls) 0) (lc Tryd.f52 0) :=
  loopA 6 (live52 6) (live52 1006) p52_0 b52_0 X52_0 T (by kernel_rfl) rfl rfl hls (h52_0 ls) c52_0 hS
end Go.Proofs.YtmnbcnhpklejcaaDoor
end
section
set_option linter.unusedVariables false
set_option linter.unusedSimpArgs false
set_option maxRecDepth 20000
set_option maxHeartbeats 4000000
open Go Go.Ev
namespace U
open Go.Proofs.YtmnbcnhpklejcaaDoor
def joinL : List Ln → List Cl → List (List Cl)
  | [], _ => []
  | y :: l, h => bif !y.2.1 || decide (l.length = 0) then trimR (h ++ y.1) :: joinL l [] else joinL l (h ++ y.1)
def cells : List Ln → Nat
  | [] => 0
  | y :: l => y.1.length + cells l
end U
namespace Go.Proofs.YtmnbcnhpklejcaaDoor
open Go.RowKit
theorem R52 (x0 l : List Line) (hl : l.length ≤ 1048576) (hx : x0.length = l.length) : ∀ (k i : Nat) (h0 : List (List Cell)) (h1 : List Cell), i + k = l.length → h0.length + k ≤ 1048576 → h1.length + U.cells (l.drop i) ≤ 1048576 →
    Rounds b52_0 ((x0, l, (l.length : Int), (i : Int), ()), h0, h1, ()) (h0 ++ U.joinL (l.drop i) h1)
  | 0, i, h0, h1, e, _, _ => by
    have e : i = l.length := by omega
    subst e
    rw [List.drop_length]
    refine .exit ?_
    have c : decide ((l.length : Int) < (l.length : Int)) = false := decide_eq_false (by omega)
    simp only [b52_0, B52_0, Tr.val, c, cond_false, U.joinL, List.append_nil]
  | k + 1, i, h0, h1, e, hb, hc => by
    have hi : i < l.length := by omega
    have er : rget link l (i : Int) = l[i] := by rw [rgetL]; exact getD_el hi
    have hd : l.drop i = l[i] :: l.drop (i + 1) := List.drop_eq_getElem_cons hi
    have w : IntKind.wrap IntKind.i64 ((i : Int) + 1) = ((i + 1 : Nat) : Int) := wrap64_nat (show i ≤ 1048576 by omega)
    have w1 : IntKind.wrap IntKind.i64 ((x0.length : Int) - 1) = (l.length : Int) - 1 := by rw [Go.Ev.w64 (by omega) (by omega)]; omega
    have c1 : decide ((i : Int) < (l.length : Int)) = true := decide_eq_true (by omega)
    have c2 : decide ((i : Int) = (l.length : Int) - 1) = decide ((l.drop (i + 1)).length = 0) := by
      rw [List.length_drop]
      exact decide_eq_decide.2 (by omega)
    rw [hd] at hc ⊢
    generalize l[i] = y at *
    have hc : h1.length + (y.1.length + U.cells (l.drop (i + 1))) ≤ 1048576 := hc
    have c3 : (h1.length + y.1.length) * 48 ≤ 140737488355328 := by omega
    have c4 : (h1 ++ y.1).length ≤ 1048576 := by rw [List.length_append]; omega
    have c5 : (h0.length + 1) * 24 ≤ 140737488355328 := by omega
    have r1 := R52 x0 l hl hx k (i + 1) (h0 ++ [U.trimR (h1 ++ y.1)]) [] (by omega) (by rw [List.length_append, List.length_singleton]; omega) (by show 0 + _ ≤ _; omega)
    have r2 := R52 x0 l hl hx k (i + 1) h0 (h1 ++ y.1) (by omega) (by omega) (by rw [List.length_append]; omega)
    rw [List.append_assoc, List.singleton_append] at r1
    unfold U.joinL
    cases hy : y.2.1 with
    | false =>
      refine .step ?_ r1
      simp only [b52_0, B52_0, Tr.val, inB_nat hi, er, w, c1, c3, c4, c5, hy, decide_true, cond_true, Bool.not_false]
    | true =>
      cases hz : decide ((l.drop (i + 1)).length = 0) with
      | true =>
        refine .step ?_ r1
        simp only [b52_0, B52_0, Tr.val, inB_nat hi, er, w, w1, c1, c2, hz, c3, c4, c5, hy, decide_true, cond_true, cond_false, Bool.not_true]
      | false =>
        refine .step ?_ r2
        simp only [b52_0, B52_0, Tr.val, inB_nat hi, er, w, w1, c1, c2, hz, c3, hy, decide_true, cond_true, cond_false, Bool.not_true]
end Go.Proofs.YtmnbcnhpklejcaaDoor
end
section
set_option linter.unusedVariables false
set_option linter.unusedSimpArgs false
set_option maxRecDepth 20000
set_option maxHeartbeats 4000000
open Go Go.Ev
namespace Go.Proofs.YtmnbcnhpklejcaaDoor
open Go.RowKit
def T52 (x : p52_0.T) : Tr (List (List Cell)) :=
  match x with
  | ⟨⟨x0, l, n, i, _⟩, h0, h1, _⟩ =>
    .ite (decide ((n : Int) = (List.length (α := Line) l : Int) ∧ (i : Int) = 0 ∧ List.length (α := Line) x0 = List.length (α := Line) l ∧ List.length (α := Line) l ≤ 1048576 ∧ List.length (α := List Cell) h0 + List.length (α := Line) l ≤ 1048576 ∧ List.length (α := Cell) h1 + U.cells l ≤ 1048576))
      (.ret (List.append (α := List Cell) h0 (U.joinL l h1))) .fail
abbrev E52 : Env := M52 fun key x => bif Nat.beq key 6 then p52_0.ls (fun a => (T52 a).map X52_0) x else none
theorem L52 : LoopOK (evI 2) (E52.lend 0) (lc Tryd.f52 0) := by
  refine l52_0 (T := T52) (fun x => rfl) ?_
  rintro ⟨⟨x0, l, n, i, z⟩, h0, h1, z1⟩ r hh
  obtain ⟨g1, g2⟩ := pre_val hh
  have g1 : (n : Int) = (l.length : Int) ∧ (i : Int) = 0 ∧ x0.length = l.length ∧ l.length ≤ 1048576 ∧ h0.length + l.length ≤ 1048576 ∧ h1.length + U.cells l ≤ 1048576 := of_decide_eq_true g1
  obtain ⟨rfl, rfl, e1, e2, e3, e4⟩ := g1
  cases g2
  exact R52 x0 l e2 e1 l.length 0 h0 h1 (by omega) e3 e4
def d52 (a : List Line) : Tr (List (List Cell) × Int) :=
 let v1 : Int := ((↑(List.length a) : Int))
 let v2 : Int := ((↑(List.length a) : Int))
 Tr.ite (U.okl a) (Tr.ite (!(U.evens a && decide (v1 ≤ (200 : Int)))) (Tr.ret ([], (1 : Int))) (Tr.ite (decide (v2 = v1 ∧ (0 : Int) = (0 : Int) ∧ List.length a = List.length a ∧ List.length a ≤ (1048576 : Nat) ∧ (0 : Nat) + List.length a ≤ (1048576 : Nat) ∧ (0 : Nat) + U.cells a ≤ (1048576 : Nat))) (Tr.ret (List.append [] (U.joinL a []), (0 : Int))) Tr.fail)) Tr.fail
def e52 (r : List (List Cell) × Int) : FRes := { rs := Slot.tup [AV.one (Leaf.dat (Kd.sl (Kd.sl celk)) r.fst), AV.one (Leaf.dat (.int .i64) r.snd)], upd := [], new := [] }
@[reducible] def a52 : List AK := [AK.d (Kd.sl link)]
@[reducible] def b52 : List BK := []
theorem t52 (a : List Line) : evFn (E52) Tryd.f52 [PM.data (Kd.sl (Kd.sl celk)), PM.data (.int .i64)] (akAV a52 (a, ())) (bkBs b52 ()) = (d52 a).map e52 := by kernel_rfl
def s52 (C : akT a52 → Bool) (G : akT a52 → List (List Cell) × Int) : FSpec := aspec a52 b52 e52 (fun x _ => C x) (fun x _ => G x)
theorem k52 {C : akT a52 → Bool} {G : akT a52 → List (List Cell) × Int} (hd : ∀ (a : List Line), C (a, ()) = true → (d52 a).val = some (G (a, ()))) (IO : ItOK Tryd.prog (E52) := by exact itOK_none rfl) (L : ∀ c, Tryd.f52.body = some c → LsOK (evI 2) ((E52).lend 0) c := by exact fun c _ => LsOK_none rfl c) : SpecOK Tryd.prog E0 52 (s52 C G) :=
  aspec_ok (ak := a52) (bl := b52) (e := e52) (c := fun x _ => C x) (g := fun x _ => G x) (E0 := E0) (E := E52) tab AG52 rfl rfl hm Tryd.func52 (by kernel_rfl) [PM.data (Kd.sl (Kd.sl celk)), PM.data (.int .i64)] (fun X Y H => by obtain ⟨a, _⟩ := X; exact val_of (t52 a) (hd a H)) IO L
def U.may (l : List U.Ln) : Bool := U.evens l && decide ((l.length : Int) ≤ 200)
abbrev w52 : FSpec := s52 (fun x => U.okl x.1 && decide (U.cells x.1 ≤ 1048576)) fun x => bif U.may x.1 then (U.joinL x.1 [], (0 : Int)) else ([], (1 : Int))
theorem wk52 : SpecOK Tryd.prog E0 52 w52 := by
  refine k52 (fun l H => ?_) (L := ls_ok (lcs := [lc Tryd.f52 0]) (rgs := []) (by kernel_rfl) (by kernel_rfl) L52 trivial)
  have H : (U.okl l && decide (U.cells l ≤ 1048576)) = true := H
  rw [Bool.and_eq_true] at H
  obtain ⟨gk, h2⟩ := H
  have h2 : U.cells l ≤ 1048576 := of_decide_eq_true h2
  have h3 : l.length ≤ 1048576 := U.okl_len gk
  show _ = some (bif U.may l then (U.joinL l [], (0 : Int)) else ([], (1 : Int)))
  simp only [d52, Tr.val, gk, h2, h3, Nat.zero_add, and_self, decide_true, cond_true]
  unfold U.may
  cases (U.evens l && decide ((l.length : Int) ≤ 200)) <;> rfl
end Go.Proofs.YtmnbcnhpklejcaaDoor
end
section
set_option linter.unusedVariables false
set_option linter.unusedSimpArgs false
set_option maxRecDepth 20000
set_option maxHeartbeats 4000000
open Go Go.Ev
namespace U
open Go.Proofs.YtmnbcnhpklejcaaDoor
theorem mayR_odd (y : Ln) : mayR y = !odd y.1 := by
  unfold mayR odd
  rw [Bool.not_not]
  by_cases h1 : 1 ≤ y.1.length
  · by_cases h2 : y.1.length ≤ 80
    · simp [h1, h2, show ¬ ((y.1.length : Int) < 1) by omega, show ¬ ((80 : Int) < (y.1.length : Int)) by omega]
    · simp [h1, h2, show ¬ ((y.1.length : Int) < 1) by omega, show ((80 : Int) < (y.1.length : Int)) by omega]
  · simp [h1, show ((y.1.length : Int) < 1) by omega]
theorem may_evens (l : List Ln) : mayL l = evens l := by
  unfold mayL evens
  rw [allN_list (q := mayR)]
  induction l with
  | nil => rfl
  | cons y l ih => rw [List.all_cons, List.any_cons, Bool.not_or, ih, mayR_odd]
theorem may_mayL (l : List Ln) : U.may l = (mayL l && decide ((l.length : Int) ≤ 200)) := by
  rw [may_evens]; rfl
theorem mayL_at {l : List Ln} (h : mayL l = true) {i : Nat} (hi : i < l.length) : mayR (l.getD i dL) = true := by
  unfold mayL at h
  exact allN_iff.1 h i (by omega) (by omega)
theorem cells_few (l : List Ln) : ∀ n, cells (few l n) ≤ 82 * n := by
  intro n
  unfold few
  induction n generalizing l with
  | zero => simp [cells]
  | succ n ih =>
    cases l with
    | nil => simp [cells]
    | cons y l =>
      have h2 := ih l
      rw [List.take_succ_cons, List.map_cons]
      unfold cells
      have h3 : (cutL y.1).length ≤ 82 := by unfold cutL; rw [List.length_map, List.length_take]; omega
      have h4 : (cutL y.1, y.2.1, ()).1.length ≤ 82 := h3
      omega
end U
end
section
set_option linter.unusedVariables false
set_option linter.unusedSimpArgs false
set_option maxRecDepth 20000
set_option maxHeartbeats 4000000
open Go Go.Ev
namespace Go.Proofs.YtmnbcnhpklejcaaDoor
open Go.RowKit
namespace Rz
def T162 (x : p162_0.T) : Tr (List Cell) :=
  .ite (decide (0 ≤ (x.1.1 : Int) ∧ (List.length (α := Cell) x.2.1 = 0 ∨ ((x.1.1 : Int) = 1 ∧ List.length (α := Cell) x.2.1 ≤ 1048576)))) (.ret (List.replicate (List.length (α := Cell) x.2.1) (List.getD (α := Cell) x.2.1 0 U.dC))) .fail
abbrev E162 : Env := M162 fun key x => bif Nat.beq key 8 then p162_0.ls (fun a => (T162 a).map X162_0) x else none
theorem L162 : LoopOK (evI 2) (E162.lend 0) (lc Tryd.f162 0) := by
  refine l162_0 (T := T162) (fun x => rfl) ?_
  rintro ⟨⟨n, z⟩, h, z2⟩ r hh
  obtain ⟨g1, g2⟩ := pre_val hh
  have g1 : 0 ≤ (n : Int) ∧ (h.length = 0 ∨ ((n : Int) = 1 ∧ h.length ≤ 1048576)) := of_decide_eq_true g1
  obtain ⟨g0, g1⟩ := g1
  cases g2
  by_cases h0 : h.length = 0
  · have : h = [] := List.eq_nil_of_length_eq_zero h0
    subst this
    have g0 : ¬ (n : Int) < 0 := Int.not_lt.2 g0
    refine .exit ?_
    simp only [b162_0, B162_0, Tr.val, List.length_nil, show ((0 : Nat) : Int) = 0 from rfl, g0, decide_false, cond_false]
    rfl
  · obtain ⟨e1, e3⟩ := g1.resolve_left h0
    subst e1
    refine rep162 (h.getD 0 U.dC) h.length e3 h.length 1 h (by omega) (by omega) (by omega) rfl ?_
    cases h with
    | nil => simp at h0
    | cons x h => rfl
def d162 (a : List Cell) (b : Int) : Tr (List Cell) :=
 let v1 : Int := (IntKind.wrap IntKind.u64 (↑(List.length a) : Int))
 let v2 : List Cell := (List.replicate (Int.toNat (IntKind.wrap IntKind.i64 (IntKind.wrap IntKind.u64 b))) (ByteArray.empty, (0 : Int), ((0 : Int), (0 : Int), (0 : Int), ()), ()))
 let v3 : Int := ((↑(Nat.min (List.length a) (List.length v2)) : Int))
 let v4 : List Cell := (putAt v2 (0 : Nat) (List.take (List.length v2) a))
 Tr.ite (decide (b < (0 : Int))) Tr.fail (Tr.ite (decide (v1 = (1 : Int) ∧ (0 : Int) ≤ IntKind.wrap IntKind.u64 b ∧ IntKind.wrap IntKind.u64 b < (128 : Int))) (Tr.ite false Tr.fail (Tr.ite (decide ((9223372036854775807 : Int) < IntKind.wrap IntKind.u64 b)) Tr.fail (Tr.ite (decide ((0 : Int) ≤ IntKind.wrap IntKind.i64 (IntKind.wrap IntKind.u64 b) ∧ IntKind.wrap IntKind.i64 (IntKind.wrap IntKind.u64 b) ≤ IntKind.wrap IntKind.i64 (IntKind.wrap IntKind.u64 b) ∧ Int.toNat (IntKind.wrap IntKind.i64 (IntKind.wrap IntKind.u64 b)) * (48 : Nat) ≤ (140737488355328 : Nat))) (Tr.ite (decide ((0 : Int) ≤ v3 ∧ (List.length v4 = (0 : Nat) ∨ v3 = (1 : Int) ∧ List.length v4 ≤ (1048576 : Nat)))) (Tr.ret (List.replicate (List.length v4) (List.getD v4 (0 : Nat) U.dC))) Tr.fail) Tr.fail))) Tr.fail)
def e162 (r : List Cell) : FRes := { rs := Slot.av (AV.one (Leaf.dat (Kd.sl celk) r)), upd := [], new := [] }
@[reducible] def a162 : List AK := [AK.d (Kd.sl celk), AK.d (.int .i64)]
@[reducible] def b162 : List BK := []
theorem t162 (a : List Cell) (b : Int) : evFn (E162) Tryd.f162 [PM.data (Kd.sl celk)] (akAV a162 (a, b, ())) (bkBs b162 ()) = (d162 a b).map e162 := by kernel_rfl
def s162 (C : akT a162 → Bool) (G : akT a162 → List Cell) : FSpec := aspec a162 b162 e162 (fun x _ => C x) (fun x _ => G x)
theorem k162 {C : akT a162 → Bool} {G : akT a162 → List Cell} (hd : ∀ (a : List Cell) (b : Int), C (a, b, ()) = true → (d162 a b).val = some (G (a, b, ()))) (IO : ItOK Tryd.prog (E162) := by exact itOK_none rfl) (L : ∀ c, Tryd.f162.body = some c → LsOK (evI 2) ((E162).lend 0) c := by exact fun c _ => LsOK_none rfl c) : SpecOK Tryd.prog E0 162 (s162 C G) :=
  aspec_ok (ak := a162) (bl := b162) (e := e162) (c := fun x _ => C x) (g := fun x _ => G x) (E0 := E0) (E := E162) tab (.cons wk172 .nil) rfl rfl hm Tryd.func162 (by kernel_rfl) [PM.data (Kd.sl celk)] (fun X Y H => by obtain ⟨a, ⟨b, _⟩⟩ := X; exact val_of (t162 a b) (hd a b H)) IO L
abbrev w162 : FSpec := s162 (fun x => decide (List.length (α := Cell) x.1 = 1 ∧ 0 ≤ (x.2.1 : Int) ∧ (x.2.1 : Int) < 128)) fun x => List.replicate x.2.1.toNat (List.getD (α := Cell) x.1 0 U.dC)
theorem wk162 : SpecOK Tryd.prog E0 162 w162 := by
  refine k162 (fun l n H => ?_) (L := ls_ok (lcs := [lc Tryd.f162 0]) (rgs := []) (by kernel_rfl) (by kernel_rfl) L162 trivial)
  have H : (l.length = 1 ∧ (0 : Int) ≤ n ∧ (n : Int) < 128) := of_decide_eq_true H
  obtain ⟨h1, h2, h3⟩ := H
  obtain ⟨m, rfl⟩ := Int.eq_ofNat_of_zero_le (a := n) h2
  have h4 : m < 128 := by omega
  have u1 : IntKind.u64.wrap (m : Int) = (m : Int) := by simp [IntKind.wrap, IntKind.signed, IntKind.bits]; omega
  have u2 : IntKind.i64.wrap (m : Int) = (m : Int) := Go.Ev.w64 (by omega) (by omega)
  have u3 : IntKind.u64.wrap 1 = 1 := by decide
  match l, h1 with
  | [x], _ =>
    show _ = some (List.replicate m x)
    cases m with
    | zero => rfl
    | succ m =>
    have e1 : List.take (m + 1) [x] = [x] := List.take_of_length_le (by simp)
    have e2 : Nat.min 1 (m + 1) = 1 := Nat.min_eq_left (by omega)
    have e3 : (putAt (List.replicate (m + 1) ((ByteArray.empty, (0 : Int), ((0 : Int), (0 : Int), (0 : Int), ()), ()) : Cell)) 0 [x]).length = m + 1 := by
      simp only [putAt, List.length_append, List.length_take, List.length_drop, List.length_replicate, List.length_cons, List.length_nil]
      omega
    have e4 : ∀ (q : List Cell), (putAt q 0 [x]).getD 0 U.dC = x := fun q => rfl
    have a1 : (0 : Int) ≤ ((m + 1 : Nat) : Int) := by omega
    have a2 : ((m + 1 : Nat) : Int) < 128 := by omega
    have a4 : (m + 1) * 48 ≤ 140737488355328 := by omega
    have a5 : ¬ (m + 1 = 0) := by omega
    have a6 : m + 1 ≤ 1048576 := by omega
    simp only [d162, Tr.val, u1, u2, Int.toNat_natCast, List.length_replicate, List.length_cons, List.length_nil, Nat.zero_add, e1, e2, e4, show ((1 : Nat) : Int) = 1 from rfl, u3, show ¬ (((m + 1 : Nat) : Int) < 0) by omega, show ¬ ((9223372036854775807 : Int) < ((m + 1 : Nat) : Int)) by omega, decide_true, decide_false, cond_true, cond_false]
    simp only [e3, a1, a2, a4, a5, a6, Int.le_refl, and_self, true_and, or_true, decide_true, cond_true]
    rfl
end Rz
end Go.Proofs.YtmnbcnhpklejcaaDoor
namespace U
def noneC : Cl := (ByteArray.empty, 1, (0, 0, 0, ()), ())
def fillL (l : List Cl) (n : Nat) : List Cl := l ++ List.replicate (n - l.length) noneC
end U
namespace Go.Proofs.YtmnbcnhpklejcaaDoor
def d163 (a : List Cell) : Tr (List Cell) :=
 let v1 : Int := ((↑(List.length a) : Int))
 Tr.ite (decide ((0 : Int) ≤ v1 ∧ v1 ≤ v1) && decide (v1 = v1)) (Tr.ret (sub a (0 : Nat) (Int.toNat v1))) Tr.fail
def e163 (r : List Cell) : FRes := { rs := Slot.av (AV.one (Leaf.clip celk r)), upd := [], new := [] }
@[reducible] def a163 : List AK := [AK.d (Kd.sl celk)]
@[reducible] def b163 : List BK := []
theorem t163 (a : List Cell) : evFn (E0) Tryd.f163 [PM.raw] (akAV a163 (a, ())) (bkBs b163 ()) = (d163 a).map e163 := by kernel_rfl
def s163' (G : akT a163 → List Cell) : FSpec := aspec0 a163 b163 e163 (fun x _ => G x)
theorem k163' {G : akT a163 → List Cell} (hd : ∀ (a : List Cell), (d163 a).val = some (G (a, ()))) (IO : ItOK Tryd.prog (E0) := by exact itOK_none rfl) (L : ∀ c, Tryd.f163.body = some c → LsOK (evI 2) ((E0).lend 0) c := by exact fun c _ => LsOK_none rfl c) : SpecOK Tryd.prog E0 163 (s163' G) :=
  aspec0_ok (ak := a163) (bl := b163) (e := e163) (g := fun x _ => G x) (E0 := E0) (E := E0) tab .nil rfl rfl hm Tryd.func163 (by kernel_rfl) [PM.raw] (fun X Y => by obtain ⟨a, _⟩ := X; exact val_of (t163 a) (hd a)) IO L
abbrev w163 : FSpec := s163' fun x => x.1
theorem wk163 : SpecOK Tryd.prog E0 163 w163 := k163' fun l => by
  have e : sub l 0 (Int.toNat (l.length : Int)) = l := by unfold sub; rw [Int.toNat_natCast, List.take_length, List.drop_zero]
  have c : decide ((0 : Int) ≤ (l.length : Int) ∧ (l.length : Int) ≤ (l.length : Int)) = true := decide_eq_true (by omega)
  simp only [d163, Tr.val, c, e, decide_true, Bool.and_self, cond_true]
def d151 (a : List Cell) (b : Int) (c : Bool) : Tr (List Cell × Bool) :=
 let v1 : Int := (IntKind.wrap IntKind.i64 (b - (↑(List.length a) : Int)))
 let v2 : List Cell := (List.replicate (Int.toNat v1) (List.getD [(ByteArray.empty, (1 : Int), ((0 : Int), (0 : Int), (0 : Int), ()), ())] (0 : Nat) U.dC))
 Tr.ite (decide ((1 : Nat) = (1 : Nat) ∧ (0 : Int) ≤ v1 ∧ v1 < (128 : Int))) (Tr.ite (decide ((List.length a + List.length v2) * (48 : Nat) ≤ (140737488355328 : Nat))) (Tr.ret (a ++ v2, c)) Tr.fail) Tr.fail
def e151 (r : List Cell × Bool) : FRes := { rs := Slot.av (AV.agg [Leaf.dat (Kd.sl celk) r.fst, Leaf.dat Kd.bool r.snd]), upd := [], new := [] }
@[reducible] def a151 : List AK := [AK.d (Kd.sl celk), AK.d (.int .i64), AK.d Kd.bool]
@[reducible] def b151 : List BK := []
theorem t151 (a : List Cell) (b : Int) (c : Bool) : evFn (Env.withFns E0 [((163 : Nat), w163), ((147 : Nat), w147), ((162 : Nat), Rz.w162)]) Tryd.f151 [PM.data link] (akAV a151 (a, b, c, ())) (bkBs b151 ()) = (d151 a b c).map e151 := by kernel_rfl
def s151 (C : akT a151 → Bool) (G : akT a151 → List Cell × Bool) : FSpec := aspec a151 b151 e151 (fun x _ => C x) (fun x _ => G x)
theorem k151 {C : akT a151 → Bool} {G : akT a151 → List Cell × Bool} (hd : ∀ (a : List Cell) (b : Int) (c : Bool), C (a, b, c, ()) = true → (d151 a b c).val = some (G (a, b, c, ()))) (IO : ItOK Tryd.prog (Env.withFns E0 [((163 : Nat), w163), ((147 : Nat), w147), ((162 : Nat), Rz.w162)]) := by exact itOK_none rfl) (L : ∀ c, Tryd.f151.body = some c → LsOK (evI 2) ((Env.withFns E0 [((163 : Nat), w163), ((147 : Nat), w147), ((162 : Nat), Rz.w162)]).lend 0) c := by exact fun c _ => LsOK_none rfl c) : SpecOK Tryd.prog E0 151 (s151 C G) :=
  aspec_ok (ak := a151) (bl := b151) (e := e151) (c := fun x _ => C x) (g := fun x _ => G x) (E0 := E0) (E := Env.withFns E0 [((163 : Nat), w163), ((147 : Nat), w147), ((162 : Nat), Rz.w162)]) tab (.cons wk163 (.cons wk147 (.cons Rz.wk162 .nil))) rfl rfl hm Tryd.func151 (by kernel_rfl) [PM.data link] (fun X Y H => by obtain ⟨a, ⟨b, ⟨c, _⟩⟩⟩ := X; exact val_of (t151 a b c) (hd a b c H)) IO L
abbrev w151 : FSpec := s151 (fun x => decide ((List.length (α := Cell) x.1 : Int) ≤ (x.2.1 : Int) ∧ (x.2.1 : Int) ≤ 80)) fun x => (U.fillL x.1 x.2.1.toNat, x.2.2.1)
theorem wk151 : SpecOK Tryd.prog E0 151 w151 := k151 fun l n b H => by
  have H : (l.length : Int) ≤ n ∧ n ≤ 80 := of_decide_eq_true H
  obtain ⟨h1, h2⟩ := H
  obtain ⟨m, rfl⟩ := Int.eq_ofNat_of_zero_le (a := n) (by omega)
  have e : IntKind.i64.wrap ((m : Int) - (l.length : Int)) = ((m - l.length : Nat) : Int) := by rw [Go.Ev.w64 (by omega) (by omega)]; omega
  have c1 : (0 : Int) ≤ ((m - l.length : Nat) : Int) := by omega
  have c3 : ((m - l.length : Nat) : Int) < 128 := by omega
  have c2 : (l.length + (m - l.length)) * 48 ≤ 140737488355328 := by omega
  show _ = some (U.fillL l m, b)
  simp only [d151, Tr.val, e, c1, c3, Int.toNat_natCast, List.length_replicate, c2, and_self, decide_true, cond_true]
  rfl
def live148 (key : Nat) : Lv :=
  bif Nat.beq key 0 then { ls := [0, 1], wd := [⟨1001, some 0, .row 34 link⟩, ⟨1002, some 0, .row 48 celk⟩] } else bif Nat.beq key 1000 then { ls := [] } else
  { ls := [] }
def live122 (key : Nat) : Lv :=
  bif Nat.beq key 505 then { ls := [3, 5, 6, 9] } else bif Nat.beq key 1505 then { ls := [3, 5, 6] } else
  { ls := [] }
abbrev G122 : List (Nat × FSpec) := [(111, w111), (151, w151)]
theorem AG122 : AllFn Tryd.prog E0 G122 := .cons wk111 (.cons wk151 .nil)
abbrev lv122 (k : Nat) : Lv := bif Nat.ble 100000 k then live148 (Nat.sub k 100000) else live122 k
noncomputable abbrev M122 (ls : Nat → VS → Option (Tr (Ex × VS))) : Env := ((E0.withFns G122).withIts [(148, Tryd.f148)]).loops lv122 ls
@[reducible] def q122_0 : LP := { n := 37, sl := [.c (Leaf.ptr ( 0) ( 0)), .c (Leaf.ptr ( 1) ( 0)), .c (Leaf.ptr ( 2) ( 0)), .c (Leaf.fn ( 148) [3])], bl := [(0, .box [.d (.int .i64)]), (1, .box [.c (Leaf.nils)]), (2, .box [.c (Leaf.nils)]), (3, .box [.d (Kd.sl celk)])] }
noncomputable def r122_0 : RL := { ps := (rg Tryd.f122 0).ps.toList, asg := (rg Tryd.f122 0).asg, body := (rg Tryd.f122 0).body }
end Go.Proofs.YtmnbcnhpklejcaaDoor
namespace U
def wd (c : Cl) : Nat := (max c.2.1 1).toNat
def pcs : Nat → List Cl → List (List Cl)
  | 0, _ => []
  | _ + 1, [] => []
  | k + 1, c :: l => (c :: l).take (wd c) :: pcs k ((c :: l).drop (wd c))
def okP : Nat → List Cl → Bool
  | 0, l => decide (l.length = 0)
  | _ + 1, [] => true
  | k + 1, c :: l => decide (wd c ≤ (c :: l).length) && okP k ((c :: l).drop (wd c))
def stepP (cols : Nat) (s : List Ln × List Cl) (p : List Cl) : List Ln × List Cl :=
  bif decide (cols < p.length) then s else bif decide (cols < s.2.length + p.length) then (s.1 ++ [(fillL s.2 cols, true, ())], p) else (s.1, s.2 ++ p)
end U
namespace Go.Proofs.YtmnbcnhpklejcaaDoor
def Y122 (n : Int) (out : List Line) (now : List Cell) : VS := ⟨37, [one (.ptr 0 0), one (.ptr 1 0), one (.ptr 2 0)], [(0, .box [.dat (.int .i64) n]), (1, .box [.row 3]), (2, .box [.row 4]), (3, .row 34 link out), (4, .row 48 celk now)]⟩
def T122 (x : q122_0.T) : Tr (Ex × VS) :=
  match x with
  | ⟨_, ⟨n, _⟩, _, _, ⟨l, _⟩, _⟩ => .ite (decide (1 ≤ (n : Int) ∧ (n : Int) ≤ 80 ∧ List.length (α := Cell) l ≤ 1048576) && U.okP (List.length (α := Cell) l) l)
      (.ret (.nrm, Y122 n ((U.pcs (List.length (α := Cell) l) l).foldl (U.stepP (Int.toNat n)) ([], [])).1 ((U.pcs (List.length (α := Cell) l) l).foldl (U.stepP (Int.toNat n)) ([], [])).2)) .fail
noncomputable abbrev E122 : Env := M122 fun key x => bif Nat.beq key 505 then q122_0.ls T122 x else none
noncomputable abbrev I122 (k : Nat) (L : Nat → VS → Option (Tr (Ex × VS))) (x : q122_0.T) : Env := ((E122.lend 0).told k L).inner 5 (yldR (evI 2 ((E122.lend 0).told k L).round) (unV (lv122 505) (q122_0.V x)).t 4)
@[reducible] def p122r0_0 : LP := { n := 21, sl := [.c (Leaf.yld ( 4)), .c (Leaf.ptr ( 3) ( 0))], bl := [(0, .box [.d (.int .i64)]), (1, .box [.c (Leaf.row ( 5))]), (2, .box [.c (Leaf.row ( 6))]), (3, .box [.d (Kd.sl celk)]), (4, .lr), (5, .row 34 (link)), (6, .row 48 (celk))] }
noncomputable def B122r0_0 (h0_0 : Int) (h3_0 : List Cell) (rl : RL) (h5 : List Line) (h6 : List Cell) : Tr (p122r0_0.T ⊕ (Int × List Cell × RL × List Line × List Cell)) :=
 let v1 : Int := ((↑(List.length h6) : Int))
 let v2 : Int := ((↑(List.length h3_0) : Int))
 let v3 : Int := (maxI (rget celk h3_0 (0 : Int)).snd.fst (1 : Int))
 let v4 : List Cell := (sub h3_0 (0 : Nat) (Int.toNat v3))
 let v5 : Int := ((↑(List.length v4) : Int))
 let v6 : Int := (IntKind.wrap IntKind.i64 ((↑(List.length h6) : Int) + v5))
 let v7 : Bool := (decide ((0 : Int) ≤ v3 ∧ v3 ≤ v2))
 Tr.ite (decide ((0 : Int) < v2)) (Tr.ite (inB (0 : Int) (List.length h3_0)) (Tr.ite v7 (Tr.ite (decide (h0_0 < v5)) (Tr.ite v7 (Tr.ret (Sum.inl ((), (h0_0, ()), (), (), (sub h3_0 (Int.toNat v3) (List.length h3_0), ()), r122_0, h5, h6, ()))) Tr.fail) (Tr.ite (decide (h0_0 < v6)) (Tr.ite (decide (v1 ≤ h0_0 ∧ h0_0 ≤ (80 : Int))) (Tr.ite (decide ((List.length h5 + (1 : Nat)) * (32 : Nat) ≤ (140737488355328 : Nat))) (Tr.ite (decide (List.length v4 * (48 : Nat) ≤ (140737488355328 : Nat))) (Tr.ite v7 (Tr.ret (Sum.inl ((), (h0_0, ()), (), (), (sub h3_0 (Int.toNat v3) (List.length h3_0), ()), r122_0, h5 ++ [(U.fillL h6 (Int.toNat h0_0), true, ())], v4, ()))) Tr.fail) Tr.fail) Tr.fail) Tr.fail) (Tr.ite (decide ((List.length h6 + List.length v4) * (48 : Nat) ≤ (140737488355328 : Nat))) (Tr.ite v7 (Tr.ret (Sum.inl ((), (h0_0, ()), (), (), (sub h3_0 (Int.toNat v3) (List.length h3_0), ()), r122_0, h5, h6 ++ v4, ()))) Tr.fail) Tr.fail))) Tr.fail) Tr.fail) (Tr.ret (Sum.inr (h0_0, h3_0, r122_0, h5, h6)))
def X122r0_0 (r : (Int × List Cell × RL × List Line × List Cell)) : Ex × VS := Prod.mk (Ex.exit ( 0)) { n := 21, v := [], h := [( 0, Blk.box [Leaf.dat (.int .i64) r.fst]), ( 1, Blk.box [Leaf.row ( 5)]), ( 2, Blk.box [Leaf.row ( 6)]), ( 3, Blk.box [Leaf.dat (Kd.sl celk) r.snd.fst]), ( 4, Blk.lrec false none r.snd.snd.fst), ( 5, Blk.row ( 34) link r.snd.snd.snd.fst), ( 6, Blk.row ( 48) celk r.snd.snd.snd.snd)] }
noncomputable def b122r0_0 : p122r0_0.T → Tr (p122r0_0.T ⊕ (Int × List Cell × RL × List Line × List Cell)) := fun ⟨_, ⟨⟨h0_0, _⟩, ⟨_, ⟨_, ⟨⟨h3_0, _⟩, ⟨rl, ⟨h5, ⟨h6, _⟩⟩⟩⟩⟩⟩⟩⟩ => B122r0_0 h0_0 h3_0 rl h5 h6
noncomputable def z122r0_0 : p122r0_0.T → p122r0_0.T := fun ⟨_, ⟨⟨h0_0, _⟩, ⟨_, ⟨_, ⟨⟨h3_0, _⟩, ⟨rl, ⟨h5, ⟨h6, _⟩⟩⟩⟩⟩⟩⟩⟩ => ((), (h0_0, ()), (), (), (h3_0, ()), r122_0, h5, h6, ())
noncomputable def o122r0_0 : p122r0_0.T → Bool := fun ⟨_, ⟨⟨h0_0, _⟩, ⟨_, ⟨_, ⟨⟨h3_0, _⟩, ⟨rl, ⟨h5, ⟨h6, _⟩⟩⟩⟩⟩⟩⟩⟩ => isRL r122_0 rl
theorem ho122r0_0 (y : p122r0_0.T) (h : o122r0_0 y = true) : y = z122r0_0 y := by
  obtain ⟨_, ⟨⟨h0_0, _⟩, ⟨_, ⟨_, ⟨⟨h3_0, _⟩, ⟨rl, ⟨h5, ⟨h6, _⟩⟩⟩⟩⟩⟩⟩⟩ := y; have h := isRL_iff.1 h
  subst h
  rfl
theorem h122r0_0 (k : Nat) (L : Nat → VS → Option (Tr (Ex × VS))) (g0_0 : Int) (g3_0 : List Cell) (y : p122r0_0.T) : (evC (evI 1) (lc Tryd.f148 0) (I122 k L ((), (g0_0, ()), (), (), (g3_0, ()), ())) (unV (live148 0) (p122r0_0.V (z122r0_0 y)))).map (decL 5 (live148 0) (live148 1000)) = ((b122r0_0) y).map (encR (fun a => p122r0_0.V (z122r0_0 a)) X122r0_0) := by
  obtain ⟨_, ⟨⟨h0_0, _⟩, ⟨_, ⟨_, ⟨⟨h3_0, _⟩, ⟨rl, ⟨h5, ⟨h6, _⟩⟩⟩⟩⟩⟩⟩⟩ := y; kernel_rfl
theorem c122r0_0 (y : p122r0_0.T) : canV 5 (live148 0) (unV (live148 0) (p122r0_0.V (z122r0_0 y))) = p122r0_0.V (z122r0_0 y) := by
  obtain ⟨_, ⟨⟨h0_0, _⟩, ⟨_, ⟨_, ⟨⟨h3_0, _⟩, ⟨rl, ⟨h5, ⟨h6, _⟩⟩⟩⟩⟩⟩⟩⟩ := y; kernel_rfl
theorem l122r0_0 {T : p122r0_0.T → Tr (Int × List Cell × RL × List Line × List Cell)} (k : Nat) (L : Nat → VS → Option (Tr (Ex × VS))) (g0_0 : Int) (g3_0 : List Cell) (hls : ∀ x, L 0 x = p122r0_0.ls (fun a => .ite (o122r0_0 a) ((T a).map X122r0_0) .fail) x) (hS : ∀ x r, (T x).val = some r → Rounds (b122r0_0) x r) : LoopOK (evI 1) (I122 k L ((), (g0_0, ()), (), (), (g3_0, ()), ())) (lc Tryd.f148 0) :=
  loopB 0 (live148 0) (live148 1000) p122r0_0 id z122r0_0 o122r0_0 ho122r0_0 (b122r0_0) X122r0_0 T (by kernel_rfl) rfl rfl hls (h122r0_0 k L g0_0 g3_0) c122r0_0 hS
end Go.Proofs.YtmnbcnhpklejcaaDoor
namespace U
theorem pcs_nil (k : Nat) : pcs k [] = [] := by cases k <;> rfl
theorem wd_pos (c : Cl) : 1 ≤ wd c := by unfold wd; omega
theorem maxI_wd (c : Cl) : maxI c.2.1 1 = ((wd c : Nat) : Int) := by unfold maxI wd; split <;> omega
end U
namespace Go.Proofs.YtmnbcnhpklejcaaDoor
noncomputable def T122r0_0 (x : p122r0_0.T) : Tr (Int × List Cell × RL × List Line × List Cell) :=
  match x with
  | ⟨_, ⟨n, _⟩, _, _, ⟨l, _⟩, rl, out, now, _⟩ =>
    .ite (decide (1 ≤ (n : Int) ∧ (n : Int) ≤ 80 ∧ List.length (α := Line) out + List.length (α := Cell) l ≤ 1048576 ∧ (List.length (α := Cell) now : Int) ≤ (n : Int)) && U.okP (List.length (α := Cell) l) l)
      (.ret (n, [], r122_0, ((U.pcs (List.length (α := Cell) l) l).foldl (U.stepP (Int.toNat n)) (out, now)).1, ((U.pcs (List.length (α := Cell) l) l).foldl (U.stepP (Int.toNat n)) (out, now)).2)) .fail
theorem R122r0_0 (n : Nat) (h1 : 1 ≤ n) (h2 : n ≤ 80) : ∀ (k : Nat) (l : List Cell) (rl : RL) (out : List Line) (now : List Cell), U.okP k l = true → out.length + l.length ≤ 1048576 → now.length ≤ n →
    Rounds b122r0_0 ((), ((n : Int), ()), (), (), (l, ()), rl, out, now, ()) ((n : Int), [], r122_0, ((U.pcs k l).foldl (U.stepP n) (out, now)).1, ((U.pcs k l).foldl (U.stepP n) (out, now)).2)
  | k, [], rl, out, now, _, _, _ => by
    rw [U.pcs_nil]
    refine .exit ?_
    have c0 : decide ((0 : Int) < ((([] : List Cell).length : Nat) : Int)) = false := rfl
    simp only [b122r0_0, B122r0_0, Tr.val, c0, cond_false, List.foldl_nil]
  | 0, c :: l, rl, out, now, h, _, _ => by simp [U.okP] at h
  | k + 1, c :: l, rl, out, now, h, hb, hn => by
    unfold U.okP at h
    rw [Bool.and_eq_true] at h
    obtain ⟨g1, g2⟩ := h
    have g1 : U.wd c ≤ (c :: l).length := of_decide_eq_true g1
    have g0 := U.wd_pos c
    have e1 : maxI (rget celk (c :: l) (0 : Int)).2.1 1 = ((U.wd c : Nat) : Int) := U.maxI_wd c
    have e2 : sub (c :: l) 0 (U.wd c) = (c :: l).take (U.wd c) := by unfold sub; rw [List.drop_zero]
    have e3 : sub (c :: l) (U.wd c) (c :: l).length = (c :: l).drop (U.wd c) := by unfold sub; rw [List.take_length]
    have e4 : ((c :: l).take (U.wd c)).length = U.wd c := by rw [List.length_take]; omega
    have e5 : ((c :: l).drop (U.wd c)).length + U.wd c = (c :: l).length := by rw [List.length_drop]; omega
    have c0 : decide ((0 : Int) < (((c :: l).length : Nat) : Int)) = true := decide_eq_true (by simp only [List.length_cons]; omega)
    have c1 : inB (0 : Int) (c :: l).length = true := inB_nat (i := 0) (by simp)
    have c2 : decide ((0 : Int) ≤ ((U.wd c : Nat) : Int) ∧ ((U.wd c : Nat) : Int) ≤ (((c :: l).length : Nat) : Int)) = true := decide_eq_true (by omega)
    have e6 : IntKind.wrap IntKind.i64 ((now.length : Int) + ((U.wd c : Nat) : Int)) = ((now.length + U.wd c : Nat) : Int) := by rw [Go.Ev.w64 (by omega) (by omega)]; omega
    have c3 : decide ((now.length : Int) ≤ (n : Int) ∧ (n : Int) ≤ (80 : Int)) = true := decide_eq_true (by omega)
    have c4 : (out.length + 1) * 32 ≤ 140737488355328 := by omega
    have c5 : U.wd c * 48 ≤ 140737488355328 := by omega
    have c6 : (now.length + U.wd c) * 48 ≤ 140737488355328 := by omega
    unfold U.pcs
    rw [List.foldl_cons]
    have hs : ∀ s : List Line × List Cell, s = U.stepP n (out, now) ((c :: l).take (U.wd c)) → s.1.length + ((c :: l).drop (U.wd c)).length ≤ 1048576 ∧ s.2.length ≤ n →
        (b122r0_0 ((), ((n : Int), ()), (), (), (c :: l, ()), rl, out, now, ())).val = some (.inl ((), ((n : Int), ()), (), (), ((c :: l).drop (U.wd c), ()), r122_0, s.1, s.2, ())) →
        Rounds b122r0_0 ((), ((n : Int), ()), (), (), (c :: l, ()), rl, out, now, ()) ((n : Int), [], r122_0, ((U.pcs k ((c :: l).drop (U.wd c))).foldl (U.stepP n) (U.stepP n (out, now) ((c :: l).take (U.wd c)))).1, ((U.pcs k ((c :: l).drop (U.wd c))).foldl (U.stepP n) (U.stepP n (out, now) ((c :: l).take (U.wd c)))).2) := by
      intro s hs hl hv
      rw [← hs]
      exact .step hv (R122r0_0 n h1 h2 k _ r122_0 s.1 s.2 g2 hl.1 hl.2)
    by_cases p1 : n < U.wd c
    · have q1 : decide ((n : Int) < ((U.wd c : Nat) : Int)) = true := decide_eq_true (by omega)
      refine hs (out, now) ?_ ⟨by show out.length + _ ≤ _; omega, hn⟩ ?_
      · unfold U.stepP
        rw [e4, decide_eq_true p1]; rfl
      · simp only [b122r0_0, B122r0_0, Tr.val, e1, Int.toNat_natCast, e2, e3, e4, c0, c1, c2, q1, cond_true]
    · have q1 : decide ((n : Int) < ((U.wd c : Nat) : Int)) = false := decide_eq_false (by omega)
      by_cases p2 : n < now.length + U.wd c
      · have q2 : decide ((n : Int) < ((now.length + U.wd c : Nat) : Int)) = true := decide_eq_true (by omega)
        refine hs (out ++ [(U.fillL now n, true, ())], (c :: l).take (U.wd c)) ?_ ⟨by rw [List.length_append, List.length_singleton]; omega, by show List.length ((c :: l).take (U.wd c)) ≤ n; omega⟩ ?_
        · unfold U.stepP
          rw [e4, decide_eq_false p1, decide_eq_true p2]; rfl
        · simp only [b122r0_0, B122r0_0, Tr.val, e1, Int.toNat_natCast, e2, e3, e4, e6, c0, c1, c2, c3, c4, c5, q1, q2, decide_true, cond_true, cond_false]
      · have q2 : decide ((n : Int) < ((now.length + U.wd c : Nat) : Int)) = false := decide_eq_false (by omega)
        refine hs (out, now ++ (c :: l).take (U.wd c)) ?_ ⟨by show out.length + _ ≤ _; omega, by show List.length (now ++ (c :: l).take (U.wd c)) ≤ n; rw [List.length_append]; omega⟩ ?_
        · unfold U.stepP
          rw [e4, decide_eq_false p1, decide_eq_false p2]; rfl
        · simp only [b122r0_0, B122r0_0, Tr.val, e1, Int.toNat_natCast, e2, e3, e4, e6, c0, c1, c2, c6, q1, q2, decide_true, cond_true, cond_false]
theorem K122r0_0 (k : Nat) (L : Nat → VS → Option (Tr (Ex × VS))) (x : q122_0.T) (h1 : ∀ y, L 0 y = p122r0_0.ls (fun a => .ite (o122r0_0 a) ((T122r0_0 a).map X122r0_0) .fail) y) : LoopOK (evI 1) (I122 k L x) (lc Tryd.f148 0) := by
  obtain ⟨⟨_⟩, ⟨g0, _⟩, ⟨_⟩, ⟨_⟩, ⟨g3, _⟩, _⟩ := x
  refine l122r0_0 (T := T122r0_0) k L g0 g3 h1 ?_
  rintro ⟨_, ⟨n, z1⟩, z2, z3, ⟨l, z4⟩, rl, out, now, z5⟩ r hh
  obtain ⟨e1, e2⟩ := pre_val hh
  rw [Bool.and_eq_true] at e1
  obtain ⟨e1, gk⟩ := e1
  have e1 : 1 ≤ (n : Int) ∧ (n : Int) ≤ 80 ∧ List.length (α := Line) out + List.length (α := Cell) l ≤ 1048576 ∧ (List.length (α := Cell) now : Int) ≤ (n : Int) := of_decide_eq_true e1
  obtain ⟨h1, h2, h3, h4⟩ := e1
  obtain ⟨m, rfl⟩ := Int.eq_ofNat_of_zero_le (a := n) (Int.le_trans (by decide) h1)
  cases e2
  have h1 : (1 : Int) ≤ (m : Int) := h1
  have h2 : (m : Int) ≤ 80 := h2
  have h4 : (now.length : Int) ≤ (m : Int) := h4
  exact R122r0_0 m (by omega) (by omega) l.length l rl out now gk h3 (by omega)
noncomputable abbrev W122 (key : Nat) (y : VS) : Option (Tr (Ex × VS)) := bif Nat.beq key 0 then p122r0_0.ls (fun a => .ite (o122r0_0 a) ((T122r0_0 a).map X122r0_0) .fail) y else none
theorem run122 (n : Int) (l : List Cell) :
    ((evI 2 (((E122.lend 0).told 0 W122).inner (Nat.succ 4) (yldR (evI 2 ((E122.lend 0).told 0 W122).round) (unV ((E122.lend 0).live (Nat.add 500 (loopKey (rg Tryd.f122 0).body))) (q122_0.V ((), (n, ()), (), (), (l, ()), ()))).t 4)) (bodyOf Tryd.f148) (itSt ((E122.lend 0).told 0 W122) (rg Tryd.f122 0).f (unV ((E122.lend 0).live (Nat.add 500 (loopKey (rg Tryd.f122 0).body))) (q122_0.V ((), (n, ()), (), (), (l, ()), ()))) Tryd.f148 4 { ps := (rg Tryd.f122 0).ps.toList, asg := (rg Tryd.f122 0).asg, body := (rg Tryd.f122 0).body })).map fun r => (r.1, canV (Nat.succ 4) { ls := [] } r.2))
    = (Tr.ite (o122r0_0 ((), (n, ()), (), (), (l, ()), r122_0, [], [], ())) (T122r0_0 ((), (n, ()), (), (), (l, ()), r122_0, [], [], ())) .fail).map fun r => match X122r0_0 r with | (.exit _, v) => (.nrm, v) | (e, v) => (e, v) := by
  kernel_rfl
theorem env122 (n : Int) (l : List Cell) : ((E122.lend 0).told 0 W122).inner (Nat.succ (len (unV ((E122.lend 0).live (Nat.add 500 (loopKey (rg Tryd.f122 0).body))) (q122_0.V ((), (n, ()), (), (), (l, ()), ()))).h)) (yldR (evI 2 ((E122.lend 0).told 0 W122).round) (unV ((E122.lend 0).live (Nat.add 500 (loopKey (rg Tryd.f122 0).body))) (q122_0.V ((), (n, ()), (), (), (l, ()), ()))).t (len (unV ((E122.lend 0).live (Nat.add 500 (loopKey (rg Tryd.f122 0).body))) (q122_0.V ((), (n, ()), (), (), (l, ()), ()))).h)) = I122 0 W122 ((), (n, ()), (), (), (l, ()), ()) := by kernel_rfl
theorem iter122 (n : Int) (l : List Cell) : IterOK (evI 2) (evI 1) ((E122.lend 0).told 0 W122) (rg Tryd.f122 0).f (unV ((E122.lend 0).live (Nat.add 500 (loopKey (rg Tryd.f122 0).body))) (q122_0.V ((), (n, ()), (), (), (l, ()), ()))) :=
  iterOK_of (gf := 148) (caps := [3]) (fn := Tryd.f148) (lcs := [lc Tryd.f148 0]) (by kernel_rfl) (by kernel_rfl) rfl (by kernel_rfl) (by kernel_rfl)
    (by rw [env122]; exact K122r0_0 0 W122 _ fun y => rfl)
theorem range122 : RangeOK (evI 2) (E122.lend 0) (rg Tryd.f122 0) := by
  intro x tr rr h1 h2
  have h1 : q122_0.ls T122 x = some tr := h1
  unfold LP.ls at h1
  split at h1
  · rename_i a ha
    cases h1
    rw [LP.get_eq ha]
    clear ha
    obtain ⟨⟨_⟩, ⟨n, z0⟩, ⟨_⟩, ⟨_⟩, ⟨l, z1⟩, z2⟩ := a
    obtain ⟨g1, g2⟩ := pre_val h2
    rw [Bool.and_eq_true] at g1
    obtain ⟨g1, gk⟩ := g1
    have g1 : 1 ≤ (n : Int) ∧ (n : Int) ≤ 80 ∧ l.length ≤ 1048576 := of_decide_eq_true g1
    have gk : U.okP l.length l = true := gk
    have hi := congrArg Tr.val (run122 n l)
    have t0 : (Tr.ite (o122r0_0 ((), (n, ()), (), (), (l, ()), r122_0, [], [], ())) (T122r0_0 ((), (n, ()), (), (), (l, ()), r122_0, [], [], ())) .fail).val =
        some (n, [], r122_0, ((U.pcs l.length l).foldl (U.stepP (Int.toNat n)) ([], [])).1, ((U.pcs l.length l).foldl (U.stepP (Int.toNat n)) ([], [])).2) := by
      have g4 : (0 : Int) ≤ n := Int.le_trans (by decide) g1.1
      simp only [o122r0_0, isRL_self, T122r0_0, Tr.val, g1, g4, gk, List.length_nil, Nat.zero_add, show ((0 : Nat) : Int) = 0 from rfl, and_self, decide_true, Bool.and_self, cond_true]
    have hi := hi.trans ((Tr.map_val _ _).trans (congrArg (Option.map _) t0))
    clear t0
    cases g2
    exact ⟨0, W122, _, iter122 n l, range_run (k0 := 2) (g := 148) (caps := [3]) (fn := Tryd.f148) (c := bodyOf Tryd.f148) (m := 4) (by kernel_rfl) (by kernel_rfl) rfl (by kernel_rfl) (by kernel_rfl) hi (.inl rfl) (pe := none) (rl' := r122_0) rfl rfl, Prod.ext rfl (by kernel_rfl)⟩
  · cases h1
def d122 (a : List Cell) (b : Int) : Tr (List Line) :=
 let v1 : List U.Ln × List U.Cl := (List.foldl (U.stepP (Int.toNat b)) ([], []) (U.pcs (List.length a) a))
 let v2 : List U.Ln := (v1.fst)
 let v3 : List U.Cl := (v1.snd)
 let v4 : Int := ((↑(List.length v3) : Int))
 Tr.ite (decide ((1 : Int) ≤ b ∧ b ≤ (80 : Int) ∧ List.length a ≤ (1048576 : Nat)) && U.okP (List.length a) a) (Tr.ite (decide (v4 ≤ b ∧ b ≤ (80 : Int))) (Tr.ite (decide ((List.length v2 + (1 : Nat)) * (32 : Nat) ≤ (140737488355328 : Nat))) (Tr.ret (v2 ++ [(U.fillL v3 (Int.toNat b), false, ())])) Tr.fail) Tr.fail) Tr.fail
def e122 (r : List Line) : FRes := { rs := Slot.av (AV.one (Leaf.dat (Kd.sl link) r)), upd := [], new := [] }
@[reducible] def a122 : List AK := [AK.d (Kd.sl celk), AK.d (.int .i64)]
@[reducible] def b122 : List BK := []
theorem t122 (a : List Cell) (b : Int) : evFn (E122) Tryd.f122 [PM.data (Kd.sl link)] (akAV a122 (a, b, ())) (bkBs b122 ()) = (d122 a b).map e122 := by kernel_rfl
def s122 (C : akT a122 → Bool) (G : akT a122 → List Line) : FSpec := aspec a122 b122 e122 (fun x _ => C x) (fun x _ => G x)
theorem k122 {C : akT a122 → Bool} {G : akT a122 → List Line} (hd : ∀ (a : List Cell) (b : Int), C (a, b, ()) = true → (d122 a b).val = some (G (a, b, ()))) (IO : ItOK Tryd.prog (E122) := by exact itOK_none rfl) (L : ∀ c, Tryd.f122.body = some c → LsOK (evI 2) ((E122).lend 0) c := by exact fun c _ => LsOK_none rfl c) : SpecOK Tryd.prog E0 122 (s122 C G) :=
  aspec_ok (ak := a122) (bl := b122) (e := e122) (c := fun x _ => C x) (g := fun x _ => G x) (E0 := E0) (E := E122) tab AG122 rfl rfl hm Tryd.func122 (by kernel_rfl) [PM.data (Kd.sl link)] (fun X Y H => by obtain ⟨a, ⟨b, _⟩⟩ := X; exact val_of (t122 a b) (hd a b H)) IO L
end Go.Proofs.YtmnbcnhpklejcaaDoor
namespace U
def foldL (cols : Nat) (l : List Cl) : List Ln := ((pcs l.length l).foldl (stepP cols) ([], [])).1 ++ [(fillL ((pcs l.length l).foldl (stepP cols) ([], [])).2 cols, false, ())]
theorem foldl_small (cols : Nat) : ∀ (ps : List (List Cl)) (s : List Ln × List Cl), s.2.length ≤ cols → (ps.foldl (stepP cols) s).2.length ≤ cols ∧ (ps.foldl (stepP cols) s).1.length ≤ s.1.length + ps.length
  | [], s, h => ⟨h, by simp⟩
  | p :: ps, s, h => by
    rw [List.foldl_cons, List.length_cons]
    have h1 : (stepP cols s p).2.length ≤ cols ∧ (stepP cols s p).1.length ≤ s.1.length + 1 := by
      unfold stepP
      by_cases p1 : cols < p.length
      · simp only [decide_eq_true p1, cond_true]; exact ⟨h, by omega⟩
      · by_cases p2 : cols < s.2.length + p.length
        · simp only [decide_eq_false p1, decide_eq_true p2, cond_true, cond_false, List.length_append, List.length_singleton]; omega
        · simp only [decide_eq_false p1, decide_eq_false p2, cond_false, List.length_append]; omega
    have h2 := foldl_small cols ps (stepP cols s p) h1.1
    exact ⟨h2.1, by omega⟩
theorem pcs_len : ∀ (k : Nat) (l : List Cl), (pcs k l).length ≤ k
  | 0, _ => by simp [pcs]
  | k + 1, [] => by simp [pcs]
  | k + 1, c :: l => by unfold pcs; rw [List.length_cons]; have := pcs_len k ((c :: l).drop (wd c)); omega
end U
namespace Go.Proofs.YtmnbcnhpklejcaaDoor
theorem IO122 : ItOK Tryd.prog E122 := itOK_of (l := [(148, Tryd.f148)]) rfl (by
  intro p hp
  rw [List.mem_singleton] at hp
  subst hp
  exact ⟨Tryd.func148, by kernel_rfl⟩)
abbrev w122 : FSpec := s122 (fun x => decide (1 ≤ (x.2.1 : Int) ∧ (x.2.1 : Int) ≤ 80 ∧ List.length (α := Cell) x.1 ≤ 1048576) && U.okP (List.length (α := Cell) x.1) x.1) fun x => U.foldL x.2.1.toNat x.1
theorem wk122 : SpecOK Tryd.prog E0 122 w122 := by
  refine k122 (fun l n H => ?_) IO122 (L := ls_ok (lcs := []) (rgs := [rg Tryd.f122 0]) (by kernel_rfl) (by kernel_rfl) trivial range122)
  have H : (decide ((1 : Int) ≤ n ∧ n ≤ 80 ∧ l.length ≤ 1048576) && U.okP l.length l) = true := H
  have H' := H
  rw [Bool.and_eq_true] at H
  obtain ⟨h1, h2, h3⟩ := of_decide_eq_true H.1
  obtain ⟨m, rfl⟩ := Int.eq_ofNat_of_zero_le (a := n) (Int.le_trans (by decide) h1)
  have k1 := U.foldl_small m (U.pcs l.length l) ([], []) (by simp)
  have k2 := U.pcs_len l.length l
  show _ = some (U.foldL m l)
  simp only [d122, Tr.val, H', Int.toNat_natCast, cond_true]
  have k1' : ((U.pcs l.length l).foldl (U.stepP m) ([], [])).2.length ≤ m ∧ ((U.pcs l.length l).foldl (U.stepP m) ([], [])).1.length ≤ 0 + (U.pcs l.length l).length := k1
  have h2 : (m : Int) ≤ 80 := h2
  have c1 : decide ((((U.pcs l.length l).foldl (U.stepP m) ([], [])).2.length : Int) ≤ (m : Int) ∧ (m : Int) ≤ 80) = true := decide_eq_true (by omega)
  have c2 : decide ((((U.pcs l.length l).foldl (U.stepP m) ([], [])).1.length + 1) * 32 ≤ 140737488355328) = true := decide_eq_true (by omega)
  simp only [c1, c2, cond_true]
  rfl
def d69 (a : List Cell) (b : Int) : Tr (List Line × Int) :=
 let v1 : Int := ((↑(List.length a) : Int))
 let v2 : Int := ((↑(List.length a) : Int))
 Tr.ite (decide (b < (1 : Int))) (Tr.ret ([], (1 : Int))) (Tr.ite (decide ((80 : Int) < b)) (Tr.ret ([], (1 : Int))) (Tr.ite (decide ((16000 : Int) < v2)) (Tr.ret ([], (1 : Int))) (Tr.ite (U.okc a) (Tr.ite (!(U.fitC a && decide (v1 = v2))) (Tr.ret ([], (1 : Int))) (Tr.ite (decide ((1 : Int) ≤ b ∧ b ≤ (80 : Int) ∧ List.length a ≤ (1048576 : Nat)) && U.okP (List.length a) a) (Tr.ret (U.foldL (Int.toNat b) a, (0 : Int))) Tr.fail)) Tr.fail)))
def e69 (r : List Line × Int) : FRes := { rs := Slot.tup [AV.one (Leaf.dat (Kd.sl link) r.fst), AV.one (Leaf.dat (.int .i64) r.snd)], upd := [], new := [] }
@[reducible] def a69 : List AK := [AK.d (Kd.sl celk), AK.d (.int .i64)]
@[reducible] def b69 : List BK := []
theorem t69 (a : List Cell) (b : Int) : evFn (Env.withFns E0 [((31 : Nat), w31), ((122 : Nat), w122)]) Tryd.f69 [PM.data (Kd.sl link), PM.data (.int .i64)] (akAV a69 (a, b, ())) (bkBs b69 ()) = (d69 a b).map e69 := by kernel_rfl
def s69 (C : akT a69 → Bool) (G : akT a69 → List Line × Int) : FSpec := aspec a69 b69 e69 (fun x _ => C x) (fun x _ => G x)
theorem k69 {C : akT a69 → Bool} {G : akT a69 → List Line × Int} (hd : ∀ (a : List Cell) (b : Int), C (a, b, ()) = true → (d69 a b).val = some (G (a, b, ()))) (IO : ItOK Tryd.prog (Env.withFns E0 [((31 : Nat), w31), ((122 : Nat), w122)]) := by exact itOK_none rfl) (L : ∀ c, Tryd.f69.body = some c → LsOK (evI 2) ((Env.withFns E0 [((31 : Nat), w31), ((122 : Nat), w122)]).lend 0) c := by exact fun c _ => LsOK_none rfl c) : SpecOK Tryd.prog E0 69 (s69 C G) :=
  aspec_ok (ak := a69) (bl := b69) (e := e69) (c := fun x _ => C x) (g := fun x _ => G x) (E0 := E0) (E := Env.withFns E0 [((31 : Nat), w31), ((122 : Nat), w122)]) tab (.cons wk31 (.cons wk122 .nil)) rfl rfl hm Tryd.func69 (by kernel_rfl) [PM.data (Kd.sl link), PM.data (.int .i64)] (fun X Y H => by obtain ⟨a, ⟨b, _⟩⟩ := X; exact val_of (t69 a b) (hd a b H)) IO L
abbrev w69 : FSpec := s69 (fun x => bif decide ((1 : Int) ≤ (x.2.1 : Int)) && (decide ((x.2.1 : Int) ≤ 80) && decide ((List.length (α := Cell) x.1 : Int) ≤ 16000)) then U.okc x.1 && (!U.fitC x.1 || U.okP (List.length (α := Cell) x.1) x.1) else true)
  fun x => bif decide ((1 : Int) ≤ (x.2.1 : Int)) && (decide ((x.2.1 : Int) ≤ 80) && (decide ((List.length (α := Cell) x.1 : Int) ≤ 16000) && U.fitC x.1)) then (U.foldL x.2.1.toNat x.1, (0 : Int)) else ([], (1 : Int))
theorem wk69 : SpecOK Tryd.prog E0 69 w69 := k69 fun l n H => by
  have H : (bif decide ((1 : Int) ≤ n) && (decide (n ≤ 80) && decide ((l.length : Int) ≤ 16000)) then U.okc l && (!U.fitC l || U.okP l.length l) else true) = true := H
  show _ = some (bif decide ((1 : Int) ≤ n) && (decide (n ≤ 80) && (decide ((l.length : Int) ≤ 16000) && U.fitC l)) then (U.foldL n.toNat l, (0 : Int)) else ([], (1 : Int)))
  by_cases p1 : (1 : Int) ≤ n
  · by_cases p2 : n ≤ 80
    · by_cases p3 : (l.length : Int) ≤ 16000
      · simp only [p1, p2, p3, decide_true, Bool.and_self, Bool.true_and, cond_true] at H ⊢
        rw [Bool.and_eq_true] at H
        have q1 : ¬ n < 1 := by omega
        have q2 : ¬ (80 : Int) < n := by omega
        have q3 : ¬ (16000 : Int) < (l.length : Int) := by omega
        have q4 : l.length ≤ 1048576 := by omega
        simp only [d69, Tr.val, q1, q2, q3, p1, p2, q4, H.1, decide_true, decide_false, Bool.and_true, and_self, Bool.true_and, cond_true, cond_false]
        have H2 := H.2
        cases h : U.fitC l with
        | false => rfl
        | true =>
          rw [h] at H2
          have H2 : U.okP l.length l = true := H2
          rw [H2]
          rfl
      · have q1 : ¬ n < 1 := by omega
        have q2 : ¬ (80 : Int) < n := by omega
        have q3 : (16000 : Int) < (l.length : Int) := by omega
        simp only [d69, Tr.val, q1, q2, q3, p1, p2, p3, decide_true, decide_false, Bool.true_and, Bool.false_and, cond_true, cond_false]
    · have q1 : ¬ n < 1 := by omega
      have q2 : (80 : Int) < n := by omega
      simp only [d69, Tr.val, q1, q2, p1, p2, decide_true, decide_false, Bool.true_and, Bool.false_and, cond_true, cond_false]
  · have q1 : n < 1 := by omega
    simp only [d69, Tr.val, q1, p1, decide_true, decide_false, Bool.false_and, cond_true, cond_false]
end Go.Proofs.YtmnbcnhpklejcaaDoor
end
section
set_option linter.unusedVariables false
set_option linter.unusedSimpArgs false
set_option maxRecDepth 20000
set_option maxHeartbeats 4000000
open Go Go.Ev
namespace Go.Proofs.YtmnbcnhpklejcaaDoor
open Go.RowKit
namespace Le
def live148 (key : Nat) : Lv :=
  bif Nat.beq key 0 then { ls := [0, 1], wd := [⟨1001, some 0, .srow 5 (.int .u8)⟩] } else bif Nat.beq key 1000 then { ls := [] } else
  { ls := [] }
end Le
def live53 (key : Nat) : Lv :=
  bif Nat.beq key 511 then { ls := [6, 9, 19, 20, 21, 26] } else bif Nat.beq key 1511 then { ls := [6, 9, 19, 20, 21] } else
  bif Nat.beq key 6 then { ls := [6, 19, 20, 21], wd := [⟨6, none, .row 9 .str⟩] } else bif Nat.beq key 1006 then { ls := [6] } else
  bif Nat.beq key 9997 then { ls := [132] } else
  { ls := [] }
abbrev G53 : List (Nat × FSpec) := [(52, w52), (111, w111), (112, w112), (113, w113), (114, w114)]
theorem AG53 : AllFn Tryd.prog E0 G53 := .cons wk52 (.cons wk111 (.cons wk112 (.cons wk113 (.cons wk114 .nil))))
abbrev lv53 (k : Nat) : Lv := bif Nat.ble 100000 k then Le.live148 (Nat.sub k 100000) else live53 k
noncomputable abbrev M53 (ls : Nat → VS → Option (Tr (Ex × VS))) : Env := ((E0.withFns G53).withIts [(148, Tryd.f148)]).loops lv53 ls
@[reducible] def p53_0 : LP := { n := 45, sl := [.c (Leaf.row ( 0)), .d (Kd.sl (Kd.sl celk)), .d (.int .i64), .d (.int .i64)], bl := [(0, .row 9 (Kd.str))] }
@[reducible] def q53_0 : LP := { n := 45, sl := [.c (Leaf.row ( 0)), .c (Leaf.ptr ( 1) ( 0)), .d (Kd.sl (Kd.sl celk)), .d (.int .i64), .d (.int .i64), .c (Leaf.fn ( 148) [2])], bl := [(0, .row 9 (Kd.str)), (1, .tb 132 [.c (Leaf.nils)]), (2, .box [.d (Kd.sl celk)])] }
end Go.Proofs.YtmnbcnhpklejcaaDoor
namespace U
def sayP (p : List Cl) : List Int := bytesL (p.getD 0 dC).1 ++ bif decide ((p.getD 0 dC).1 = (⟨#[]⟩ : ByteArray)) then [32] else []
def sayR (l : List Cl) : List Int := (pcs l.length l).flatMap sayP
end U
namespace Go.Proofs.YtmnbcnhpklejcaaDoor
noncomputable def r53_0 : RL := { ps := (rg Tryd.f53 0).ps.toList, asg := (rg Tryd.f53 0).asg, body := (rg Tryd.f53 0).body }
@[reducible] def p53r0_0 : LP := { n := 21, sl := [.c (Leaf.yld ( 3)), .c (Leaf.ptr ( 2) ( 0))], bl := [(0, .row 9 (Kd.str)), (1, .tb 132 [.c (Leaf.srow ( 4))]), (2, .box [.d (Kd.sl celk)]), (3, .lr), (4, .row 5 (Kd.int IntKind.u8))] }
def Y53 (rows : List (List Cell)) (n i : Int) (out : List ByteArray) (u : Bool) (bs : List Int) : VS := ⟨45, [one (.row 0), one (.ptr 1 0), one (.dat (.sl (.sl celk)) rows), one (.dat (.int .i64) n), one (.dat (.int .i64) i)], [(0, .row 9 .str out), (1, .tb 132 u [.srow 2]), (2, .row 5 (.int .u8) bs)]⟩
def T53 (x : q53_0.T) : Tr (Ex × VS) :=
  match x with
  | ⟨⟨rows, n, i, _⟩, out, ⟨u, _⟩, ⟨l, _⟩, _⟩ => .ite (decide (List.length (α := Int) (U.sayR l) ≤ 140737488355328) && U.okP (List.length (α := Cell) l) l)
      (.ret (.nrm, Y53 rows n i out (u || !decide (List.length (α := Cell) l = 0)) (U.sayR l))) .fail
noncomputable abbrev N53 (ls : Nat → VS → Option (Tr (Ex × VS))) : Env := M53 fun key x => bif Nat.beq key 511 then q53_0.ls T53 x else ls key x
noncomputable abbrev I53 (ls : Nat → VS → Option (Tr (Ex × VS))) (k : Nat) (L : Nat → VS → Option (Tr (Ex × VS))) (x : q53_0.T) : Env := (((N53 ls).lend 0).told k L).inner 4 (yldR (evI 2 (((N53 ls).lend 0).told k L).round) (unV (lv53 511) (q53_0.V x)).t 3)
noncomputable def B53r0_0 (h0 : List ByteArray) (h1_u : Bool) (h2_0 : List Cell) (rl : RL) (h4 : List Int) : Tr (p53r0_0.T ⊕ (List ByteArray × Bool × List Cell × RL × List Int)) :=
 let v1 : Int := ((↑(List.length h2_0) : Int))
 let v2 : Int := (maxI (rget celk h2_0 (0 : Int)).snd.fst (1 : Int))
 let v3 : List Cell := (sub h2_0 (0 : Nat) (Int.toNat v2))
 let v4 : Bool := (inB (0 : Int) (List.length v3))
 let v5 : List Int := (List.append h4 (bytesL (rget celk v3 (0 : Int)).fst))
 let v6 : Bool := (decide ((0 : Int) ≤ v2 ∧ v2 ≤ v1))
 Tr.ite (decide ((0 : Int) < v1)) (Tr.ite (inB (0 : Int) (List.length h2_0)) (Tr.ite v6 (Tr.ite v4 (Tr.ite (decide (List.length h4 + ByteArray.size (rget celk v3 (0 : Int)).fst ≤ (140737488355328 : Nat))) (Tr.ite v4 (Tr.ite (decide ((rget celk v3 (0 : Int)).fst = { data := #[] })) (Tr.ite (decide (List.length v5 + (1 : Nat) ≤ (140737488355328 : Nat))) (Tr.ite v6 (Tr.ret (Sum.inl ((), h0, (true, ()), (sub h2_0 (Int.toNat v2) (List.length h2_0), ()), r53_0, List.append v5 [(32 : Int)], ()))) Tr.fail) Tr.fail) (Tr.ite v6 (Tr.ret (Sum.inl ((), h0, (true, ()), (sub h2_0 (Int.toNat v2) (List.length h2_0), ()), r53_0, v5, ()))) Tr.fail)) Tr.fail) Tr.fail) Tr.fail) Tr.fail) Tr.fail) (Tr.ret (Sum.inr (h0, h1_u, h2_0, r53_0, h4)))
def X53r0_0 (r : (List ByteArray × Bool × List Cell × RL × List Int)) : Ex × VS := Prod.mk (Ex.exit ( 0)) { n := 21, v := [], h := [( 0, Blk.row ( 9) Kd.str r.fst), ( 1, Blk.tb ( 132) r.snd.fst [Leaf.srow ( 4)]), ( 2, Blk.box [Leaf.dat (Kd.sl celk) r.snd.snd.fst]), ( 3, Blk.lrec false none r.snd.snd.snd.fst), ( 4, Blk.row ( 5) (Kd.int IntKind.u8) r.snd.snd.snd.snd)] }
noncomputable def b53r0_0 : p53r0_0.T → Tr (p53r0_0.T ⊕ (List ByteArray × Bool × List Cell × RL × List Int)) := fun ⟨_, ⟨h0, ⟨⟨h1_u, _⟩, ⟨⟨h2_0, _⟩, ⟨rl, ⟨h4, _⟩⟩⟩⟩⟩⟩ => B53r0_0 h0 h1_u h2_0 rl h4
noncomputable def z53r0_0 : p53r0_0.T → p53r0_0.T := fun ⟨_, ⟨h0, ⟨⟨h1_u, _⟩, ⟨⟨h2_0, _⟩, ⟨rl, ⟨h4, _⟩⟩⟩⟩⟩⟩ => ((), h0, (h1_u, ()), (h2_0, ()), r53_0, h4, ())
noncomputable def o53r0_0 : p53r0_0.T → Bool := fun ⟨_, ⟨h0, ⟨⟨h1_u, _⟩, ⟨⟨h2_0, _⟩, ⟨rl, ⟨h4, _⟩⟩⟩⟩⟩⟩ => isRL r53_0 rl
theorem ho53r0_0 (y : p53r0_0.T) (h : o53r0_0 y = true) : y = z53r0_0 y := by
  obtain ⟨_, ⟨h0, ⟨⟨h1_u, _⟩, ⟨⟨h2_0, _⟩, ⟨rl, ⟨h4, _⟩⟩⟩⟩⟩⟩ := y; have h := isRL_iff.1 h
  subst h
  rfl
theorem h53r0_0 (k : Nat) (L : Nat → VS → Option (Tr (Ex × VS))) (u2 : List (List Cell)) (u3 : Int) (u4 : Int) (g0 : List ByteArray) (g1_u : Bool) (g2_0 : List Cell) (y : p53r0_0.T) : (evC (evI 1) (lc Tryd.f148 0) ((I53 fun _ _ => none) k L ((u2, u3, u4, ()), g0, (g1_u, ()), (g2_0, ()), ())) (unV (Le.live148 0) (p53r0_0.V (z53r0_0 y)))).map (decL 4 (Le.live148 0) (Le.live148 1000)) = ((b53r0_0) y).map (encR (fun a => p53r0_0.V (z53r0_0 a)) X53r0_0) := by
  obtain ⟨_, ⟨h0, ⟨⟨h1_u, _⟩, ⟨⟨h2_0, _⟩, ⟨rl, ⟨h4, _⟩⟩⟩⟩⟩⟩ := y; kernel_rfl
theorem c53r0_0 (y : p53r0_0.T) : canV 4 (Le.live148 0) (unV (Le.live148 0) (p53r0_0.V (z53r0_0 y))) = p53r0_0.V (z53r0_0 y) := by
  obtain ⟨_, ⟨h0, ⟨⟨h1_u, _⟩, ⟨⟨h2_0, _⟩, ⟨rl, ⟨h4, _⟩⟩⟩⟩⟩⟩ := y; kernel_rfl
theorem l53r0_0 {T : p53r0_0.T → Tr (List ByteArray × Bool × List Cell × RL × List Int)} (k : Nat) (L : Nat → VS → Option (Tr (Ex × VS))) (u2 : List (List Cell)) (u3 : Int) (u4 : Int) (g0 : List ByteArray) (g1_u : Bool) (g2_0 : List Cell) (hls : ∀ x, L 0 x = p53r0_0.ls (fun a => .ite (o53r0_0 a) ((T a).map X53r0_0) .fail) x) (hS : ∀ x r, (T x).val = some r → Rounds (b53r0_0) x r) : LoopOK (evI 1) ((I53 fun _ _ => none) k L ((u2, u3, u4, ()), g0, (g1_u, ()), (g2_0, ()), ())) (lc Tryd.f148 0) :=
  loopB 0 (Le.live148 0) (Le.live148 1000) p53r0_0 id z53r0_0 o53r0_0 ho53r0_0 (b53r0_0) X53r0_0 T (by kernel_rfl) rfl rfl hls (h53r0_0 k L u2 u3 u4 g0 g1_u g2_0) c53r0_0 hS
noncomputable def T53r0_0 (x : p53r0_0.T) : Tr (List ByteArray × Bool × List Cell × RL × List Int) :=
  match x with
  | ⟨_, out, ⟨u, _⟩, ⟨l, _⟩, rl, bs, _⟩ =>
    .ite (decide (List.length (α := Int) bs + List.length (α := Int) (U.sayR l) ≤ 140737488355328) && U.okP (List.length (α := Cell) l) l)
      (.ret (out, (u || !decide (List.length (α := Cell) l = 0)), [], r53_0, List.append (α := Int) bs (U.sayR l))) .fail
end Go.Proofs.YtmnbcnhpklejcaaDoor
namespace U
theorem sayP_at {c : Cl} {l : List Cl} {n : Nat} (h : 1 ≤ n) : sayP ((c :: l).take n) = bytesL c.1 ++ bif decide (c.1 = (⟨#[]⟩ : ByteArray)) then [32] else [] := by
  cases n with
  | zero => omega
  | succ n => rfl
theorem bytesL_len (b : ByteArray) : (bytesL b).length = b.size := by simp [bytesL]
end U
namespace Go.Proofs.YtmnbcnhpklejcaaDoor
theorem R53r0_0 (out : List ByteArray) : ∀ (k : Nat) (l : List Cell) (rl : RL) (u : Bool) (bs : List Int), U.okP k l = true → bs.length + ((U.pcs k l).flatMap U.sayP).length ≤ 140737488355328 →
    Rounds b53r0_0 ((), out, (u, ()), (l, ()), rl, bs, ()) (out, (u || !decide (l.length = 0)), [], r53_0, bs ++ (U.pcs k l).flatMap U.sayP)
  | k, [], rl, u, bs, _, _ => by
    rw [U.pcs_nil]
    refine .exit ?_
    have c0 : decide ((0 : Int) < ((([] : List Cell).length : Nat) : Int)) = false := rfl
    simp only [b53r0_0, B53r0_0, Tr.val, c0, cond_false]
    simp
  | 0, c :: l, rl, u, bs, h, _ => by simp [U.okP] at h
  | k + 1, c :: l, rl, u, bs, h, hb => by
    unfold U.okP at h
    rw [Bool.and_eq_true] at h
    obtain ⟨g1, g2⟩ := h
    have g1 : U.wd c ≤ (c :: l).length := of_decide_eq_true g1
    have g0 := U.wd_pos c
    have e1 : maxI (rget celk (c :: l) (0 : Int)).2.1 1 = ((U.wd c : Nat) : Int) := U.maxI_wd c
    have e2 : sub (c :: l) 0 (U.wd c) = (c :: l).take (U.wd c) := by unfold sub; rw [List.drop_zero]
    have e3 : sub (c :: l) (U.wd c) (c :: l).length = (c :: l).drop (U.wd c) := by unfold sub; rw [List.take_length]
    have e4 : ((c :: l).take (U.wd c)).length = U.wd c := by rw [List.length_take]; omega
    have e7 : rget celk ((c :: l).take (U.wd c)) (0 : Int) = c := by
      obtain ⟨n, hn⟩ : ∃ n, U.wd c = n + 1 := ⟨U.wd c - 1, by omega⟩
      rw [hn]; rfl
    have c0 : decide ((0 : Int) < (((c :: l).length : Nat) : Int)) = true := decide_eq_true (by simp only [List.length_cons]; omega)
    have c1 : inB (0 : Int) (c :: l).length = true := inB_nat (i := 0) (by simp)
    have c3 : inB (0 : Int) (U.wd c) = true := inB_nat (i := 0) (by omega)
    have c2 : decide ((0 : Int) ≤ ((U.wd c : Nat) : Int) ∧ ((U.wd c : Nat) : Int) ≤ (((c :: l).length : Nat) : Int)) = true := decide_eq_true (by omega)
    unfold U.pcs at hb ⊢
    rw [List.flatMap_cons, U.sayP_at g0] at hb ⊢
    have hz : (u || !decide ((c :: l).length = 0)) = true := by simp
    have hz2 : ∀ m : List Cell, (true || !decide (m.length = 0)) = true := fun m => rfl
    rw [hz]
    have ih := R53r0_0 out k ((c :: l).drop (U.wd c)) r53_0 true (bs ++ (bytesL c.1 ++ bif decide (c.1 = (⟨#[]⟩ : ByteArray)) then [32] else [])) g2 (by rw [List.length_append] at hb ⊢; omega)
    rw [hz2, List.append_assoc] at ih
    refine .step ?_ ih
    rw [List.length_append, List.length_append, U.bytesL_len] at hb
    by_cases p : c.1 = (⟨#[]⟩ : ByteArray)
    · rw [decide_eq_true p] at hb
      have hb : bs.length + (c.1.size + 1 + ((U.pcs k ((c :: l).drop (U.wd c))).flatMap U.sayP).length) ≤ 140737488355328 := hb
      have k1 : bs.length + c.1.size ≤ 140737488355328 := by omega
      have k2 : (List.append bs (bytesL c.1)).length + 1 ≤ 140737488355328 := by
        have : (List.append bs (bytesL c.1)).length = bs.length + c.1.size := by rw [← U.bytesL_len c.1]; exact List.length_append
        omega
      simp only [b53r0_0, B53r0_0, Tr.val, e1, Int.toNat_natCast, e2, e3, e4, e7, c0, c1, c2, c3, k1, k2, decide_true, cond_true]
      simp only [p, decide_true, cond_true]
      show some (Sum.inl ((), out, (true, ()), (_, ()), r53_0, (bs ++ bytesL _) ++ [32], ())) = _
      rw [List.append_assoc]
    · rw [decide_eq_false p] at hb
      have hb : bs.length + (c.1.size + 0 + ((U.pcs k ((c :: l).drop (U.wd c))).flatMap U.sayP).length) ≤ 140737488355328 := hb
      have k1 : bs.length + c.1.size ≤ 140737488355328 := by omega
      simp only [b53r0_0, B53r0_0, Tr.val, e1, Int.toNat_natCast, e2, e3, e4, e7, c0, c1, c2, c3, k1, decide_true, cond_true]
      simp only [p, decide_false, cond_false, List.append_nil]
      rfl
theorem K53r0_0 (k : Nat) (L : Nat → VS → Option (Tr (Ex × VS))) (x : q53_0.T) (h1 : ∀ y, L 0 y = p53r0_0.ls (fun a => .ite (o53r0_0 a) ((T53r0_0 a).map X53r0_0) .fail) y) : LoopOK (evI 1) (I53 (fun _ _ => none) k L x) (lc Tryd.f148 0) := by
  obtain ⟨⟨u3, u4, u5, _⟩, g0, ⟨g1, _⟩, ⟨g2, _⟩, _⟩ := x
  refine l53r0_0 (T := T53r0_0) k L u3 u4 u5 g0 g1 g2 h1 ?_
  rintro ⟨_, out, ⟨u, z1⟩, ⟨l, z2⟩, rl, bs, z3⟩ r hh
  obtain ⟨e1, e2⟩ := pre_val hh
  rw [Bool.and_eq_true] at e1
  obtain ⟨e1, gk⟩ := e1
  have e1 : bs.length + (U.sayR l).length ≤ 140737488355328 := of_decide_eq_true e1
  cases e2
  exact R53r0_0 out l.length l rl u bs gk e1
noncomputable abbrev W53 (key : Nat) (y : VS) : Option (Tr (Ex × VS)) := bif Nat.beq key 0 then p53r0_0.ls (fun a => .ite (o53r0_0 a) ((T53r0_0 a).map X53r0_0) .fail) y else none
def B53_0 (x1 : List (List Cell)) (x2 : Int) (x3 : Int) (h0 : List ByteArray) : Tr (p53_0.T ⊕ (List ByteArray)) :=
 let v1 : List Int := (U.sayR (rget (Kd.sl celk) x1 x3))
 Tr.ite (decide (x3 < x2)) (Tr.ite (inB x3 (List.length x1)) (Tr.ite (decide (List.length v1 ≤ (140737488355328 : Nat)) && U.okP (List.length (rget (Kd.sl celk) x1 x3)) (rget (Kd.sl celk) x1 x3)) (Tr.ite (decide ((List.length h0 + (1 : Nat)) * (16 : Nat) ≤ (140737488355328 : Nat))) (Tr.ret (Sum.inl ((x1, x2, IntKind.wrap IntKind.i64 (x3 + (1 : Int)), ()), h0 ++ [strOf v1], ()))) Tr.fail) Tr.fail) Tr.fail) (Tr.ret (Sum.inr h0))
def X53_0 (r : (List ByteArray)) : Ex × VS := Prod.mk (Ex.exit ( 0)) { n := 45, v := [Slot.av (AV.one (Leaf.row ( 0)))], h := [( 0, Blk.row ( 9) Kd.str r)] }
def b53_0 : p53_0.T → Tr (p53_0.T ⊕ (List ByteArray)) := fun ⟨⟨x1, ⟨x2, ⟨x3, _⟩⟩⟩, ⟨h0, _⟩⟩ => B53_0 x1 x2 x3 h0
theorem h53_0 (ls : Nat → VS → Option (Tr (Ex × VS))) (x : p53_0.T) : (evC (evI 2) (lc Tryd.f53 0) (Env.lend (N53 ls) 0) (unV (live53 6) (p53_0.V x))).map (decL 0 (live53 6) (live53 1006)) = (b53_0 x).map (encR p53_0.V X53_0) := by
  obtain ⟨⟨x1, ⟨x2, ⟨x3, _⟩⟩⟩, ⟨h0, _⟩⟩ := x; kernel_rfl
theorem c53_0 (x : p53_0.T) : canV 0 (live53 6) (unV (live53 6) (p53_0.V x)) = p53_0.V x := by
  obtain ⟨⟨x1, ⟨x2, ⟨x3, _⟩⟩⟩, ⟨h0, _⟩⟩ := x; kernel_rfl
theorem l53_0 {T : p53_0.T → Tr (List ByteArray)} {ls : Nat → VS → Option (Tr (Ex × VS))} (hls : ∀ x, (Env.lend (N53 ls) 0).ls 6 x = p53_0.ls (fun a => (T a).map X53_0) x) (hS : ∀ x r, (T x).val = some r → Rounds b53_0 x r) : LoopOK (evI 2) (Env.lend (N53 ls) 0) (lc Tryd.f53 0) :=
  loopA 6 (live53 6) (live53 1006) p53_0 b53_0 X53_0 T (by kernel_rfl) rfl rfl hls (h53_0 ls) c53_0 hS
end Go.Proofs.YtmnbcnhpklejcaaDoor
namespace U
def okR (l : List Cl) : Bool := decide ((sayR l).length ≤ 140737488355328) && okP l.length l
end U
namespace Go.Proofs.YtmnbcnhpklejcaaDoor
def T53_0 (x : p53_0.T) : Tr (List ByteArray) :=
  match x with
  | ⟨⟨rows, n, i, _⟩, out, _⟩ => .ite (decide ((n : Int) = (List.length (α := List Cell) rows : Int) ∧ (i : Int) = 0 ∧ List.length (α := ByteArray) out + List.length (α := List Cell) rows ≤ 1048576) && List.all (α := List Cell) rows U.okR)
      (.ret (List.append (α := ByteArray) out (List.map (α := List Cell) (fun l => strOf (U.sayR l)) rows))) .fail
noncomputable abbrev E53 : Env := N53 fun key x => bif Nat.beq key 6 then p53_0.ls (fun a => (T53_0 a).map X53_0) x else none
theorem R53_0 (rows : List (List Cell)) (hl : rows.length ≤ 1048576) (ha : rows.all U.okR = true) : ∀ (k i : Nat) (out : List ByteArray), i + k = rows.length → out.length + k ≤ 1048576 →
    Rounds b53_0 ((rows, (rows.length : Int), (i : Int), ()), out, ()) (out ++ (rows.drop i).map fun l => strOf (U.sayR l))
  | 0, i, out, e, _ => by
    have e : i = rows.length := by omega
    subst e
    rw [List.drop_length]
    refine .exit ?_
    have c : decide ((rows.length : Int) < (rows.length : Int)) = false := decide_eq_false (by omega)
    simp only [b53_0, B53_0, Tr.val, c, cond_false, List.map_nil, List.append_nil]
  | k + 1, i, out, e, hb => by
    have hi : i < rows.length := by omega
    have er : rget (.sl celk) rows (i : Int) = rows[i] := by rw [rget_nat]; exact getD_el hi
    have hd : rows.drop i = rows[i] :: rows.drop (i + 1) := List.drop_eq_getElem_cons hi
    have w : IntKind.wrap IntKind.i64 ((i : Int) + 1) = ((i + 1 : Nat) : Int) := wrap64_nat (show i ≤ 1048576 by omega)
    have c1 : decide ((i : Int) < (rows.length : Int)) = true := decide_eq_true (by omega)
    have ok : U.okR rows[i] = true := List.all_eq_true.1 ha _ (List.getElem_mem hi)
    have c3 : decide ((out.length + 1) * 16 ≤ 140737488355328) = true := decide_eq_true (by omega)
    have ih := R53_0 rows hl ha k (i + 1) (out ++ [strOf (U.sayR rows[i])]) (by omega) (by rw [List.length_append, List.length_singleton]; omega)
    rw [hd, List.map_cons]
    rw [List.append_assoc, List.singleton_append] at ih
    refine .step ?_ ih
    have ok : (decide ((U.sayR rows[i]).length ≤ 140737488355328) && U.okP rows[i].length rows[i]) = true := ok
    simp only [b53_0, B53_0, Tr.val, inB_nat hi, er, w, c1, c3, ok, cond_true]
theorem L53_0 : LoopOK (evI 2) (E53.lend 0) (lc Tryd.f53 0) := by
  refine l53_0 (T := T53_0) (fun x => rfl) ?_
  rintro ⟨⟨rows, n, i, z⟩, out, z1⟩ r hh
  obtain ⟨g1, g2⟩ := pre_val hh
  rw [Bool.and_eq_true] at g1
  obtain ⟨g1, ga⟩ := g1
  have g1 : (n : Int) = (rows.length : Int) ∧ (i : Int) = 0 ∧ out.length + rows.length ≤ 1048576 := of_decide_eq_true g1
  obtain ⟨rfl, rfl, e3⟩ := g1
  cases g2
  exact R53_0 rows (by omega) ga rows.length 0 out (by omega) e3
theorem run53 (rows : List (List Cell)) (n i : Int) (out : List ByteArray) (u : Bool) (l : List Cell) :
    ((evI 2 (((E53.lend 0).told 0 W53).inner (Nat.succ 3) (yldR (evI 2 ((E53.lend 0).told 0 W53).round) (unV ((E53.lend 0).live (Nat.add 500 (loopKey (rg Tryd.f53 0).body))) (q53_0.V ((rows, n, i, ()), out, (u, ()), (l, ()), ()))).t 3)) (bodyOf Tryd.f148) (itSt ((E53.lend 0).told 0 W53) (rg Tryd.f53 0).f (unV ((E53.lend 0).live (Nat.add 500 (loopKey (rg Tryd.f53 0).body))) (q53_0.V ((rows, n, i, ()), out, (u, ()), (l, ()), ()))) Tryd.f148 3 { ps := (rg Tryd.f53 0).ps.toList, asg := (rg Tryd.f53 0).asg, body := (rg Tryd.f53 0).body })).map fun r => (r.1, canV (Nat.succ 3) { ls := [] } r.2))
    = (Tr.ite (o53r0_0 ((), out, (u, ()), (l, ()), r53_0, [], ())) (T53r0_0 ((), out, (u, ()), (l, ()), r53_0, [], ())) .fail).map fun r => match X53r0_0 r with | (.exit _, v) => (.nrm, v) | (e, v) => (e, v) := by
  kernel_rfl
theorem env53 (rows : List (List Cell)) (n i : Int) (out : List ByteArray) (u : Bool) (l : List Cell) : ((E53.lend 0).told 0 W53).inner (Nat.succ (len (unV ((E53.lend 0).live (Nat.add 500 (loopKey (rg Tryd.f53 0).body))) (q53_0.V ((rows, n, i, ()), out, (u, ()), (l, ()), ()))).h)) (yldR (evI 2 ((E53.lend 0).told 0 W53).round) (unV ((E53.lend 0).live (Nat.add 500 (loopKey (rg Tryd.f53 0).body))) (q53_0.V ((rows, n, i, ()), out, (u, ()), (l, ()), ()))).t (len (unV ((E53.lend 0).live (Nat.add 500 (loopKey (rg Tryd.f53 0).body))) (q53_0.V ((rows, n, i, ()), out, (u, ()), (l, ()), ()))).h)) = I53 (fun _ _ => none) 0 W53 ((rows, n, i, ()), out, (u, ()), (l, ()), ()) := by kernel_rfl
theorem iter53 (rows : List (List Cell)) (n i : Int) (out : List ByteArray) (u : Bool) (l : List Cell) : IterOK (evI 2) (evI 1) ((E53.lend 0).told 0 W53) (rg Tryd.f53 0).f (unV ((E53.lend 0).live (Nat.add 500 (loopKey (rg Tryd.f53 0).body))) (q53_0.V ((rows, n, i, ()), out, (u, ()), (l, ()), ()))) :=
  iterOK_of (gf := 148) (caps := [2]) (fn := Tryd.f148) (lcs := [lc Tryd.f148 0]) (by kernel_rfl) (by kernel_rfl) rfl (by kernel_rfl) (by kernel_rfl)
    (by rw [env53]; exact K53r0_0 0 W53 _ fun y => rfl)
theorem range53 : RangeOK (evI 2) (E53.lend 0) (rg Tryd.f53 0) := by
  intro x tr rr h1 h2
  have h1 : q53_0.ls T53 x = some tr := h1
  unfold LP.ls at h1
  split at h1
  · rename_i a ha
    cases h1
    rw [LP.get_eq ha]
    clear ha
    obtain ⟨⟨rows, n, i, z⟩, out, ⟨u, z0⟩, ⟨l, z1⟩, z2⟩ := a
    obtain ⟨g1, g2⟩ := pre_val h2
    rw [Bool.and_eq_true] at g1
    obtain ⟨g1, gk⟩ := g1
    have g1 : (U.sayR l).length ≤ 140737488355328 := of_decide_eq_true g1
    have gk : U.okP l.length l = true := gk
    have hi := congrArg Tr.val (run53 rows n i out u l)
    have t0 : (Tr.ite (o53r0_0 ((), out, (u, ()), (l, ()), r53_0, [], ())) (T53r0_0 ((), out, (u, ()), (l, ()), r53_0, [], ())) .fail).val = some (out, (u || !decide (l.length = 0)), [], r53_0, U.sayR l) := by
      simp only [o53r0_0, isRL_self, T53r0_0, Tr.val, g1, gk, List.length_nil, Nat.zero_add, decide_true, Bool.and_self, cond_true]
      rfl
    have hi := hi.trans ((Tr.map_val _ _).trans (congrArg (Option.map _) t0))
    clear t0
    cases g2
    exact ⟨0, W53, _, iter53 rows n i out u l, range_run (k0 := 2) (g := 148) (caps := [2]) (fn := Tryd.f148) (c := bodyOf Tryd.f148) (m := 3) (by kernel_rfl) (by kernel_rfl) rfl (by kernel_rfl) (by kernel_rfl) hi (.inl rfl) (pe := none) (rl' := r53_0) rfl rfl, Prod.ext rfl (by kernel_rfl)⟩
  · cases h1
def d53 (a : List Line) : Tr (List ByteArray × Int) :=
 let v1 : List (List Cell) × Int := (bif U.may a then (U.joinL a [], (0 : Int)) else ([], (1 : Int)))
 let v2 : List (List Cell) := (v1.fst)
 let v3 : Int := (v1.snd)
 let v4 : Int := ((↑(List.length v2) : Int))
 let v5 : Int := ((↑(List.length v2) : Int))
 Tr.ite (U.okl a && decide (U.cells a ≤ (1048576 : Nat))) (Tr.ite (!decide (v3 = (0 : Int))) (Tr.ret ([], v3)) (Tr.ite (decide (v5 = v4 ∧ (0 : Int) = (0 : Int) ∧ (0 : Nat) + List.length v2 ≤ (1048576 : Nat)) && List.all v2 U.okR) (Tr.ret (List.append [] (List.map (fun (l : List Cell) => strOf (U.sayR l)) v2), (0 : Int))) Tr.fail)) Tr.fail
def e53 (r : List ByteArray × Int) : FRes := { rs := Slot.tup [AV.one (Leaf.dat (Kd.sl Kd.str) r.fst), AV.one (Leaf.dat (.int .i64) r.snd)], upd := [], new := [] }
@[reducible] def a53 : List AK := [AK.d (Kd.sl link)]
@[reducible] def b53 : List BK := []
theorem t53 (a : List Line) : evFn (E53) Tryd.f53 [PM.data (Kd.sl Kd.str), PM.data (.int .i64)] (akAV a53 (a, ())) (bkBs b53 ()) = (d53 a).map e53 := by kernel_rfl
def s53 (C : akT a53 → Bool) (G : akT a53 → List ByteArray × Int) : FSpec := aspec a53 b53 e53 (fun x _ => C x) (fun x _ => G x)
theorem k53 {C : akT a53 → Bool} {G : akT a53 → List ByteArray × Int} (hd : ∀ (a : List Line), C (a, ()) = true → (d53 a).val = some (G (a, ()))) (IO : ItOK Tryd.prog (E53) := by exact itOK_none rfl) (L : ∀ c, Tryd.f53.body = some c → LsOK (evI 2) ((E53).lend 0) c := by exact fun c _ => LsOK_none rfl c) : SpecOK Tryd.prog E0 53 (s53 C G) :=
  aspec_ok (ak := a53) (bl := b53) (e := e53) (c := fun x _ => C x) (g := fun x _ => G x) (E0 := E0) (E := E53) tab AG53 rfl rfl hm Tryd.func53 (by kernel_rfl) [PM.data (Kd.sl Kd.str), PM.data (.int .i64)] (fun X Y H => by obtain ⟨a, _⟩ := X; exact val_of (t53 a) (hd a H)) IO L
theorem IO53 : ItOK Tryd.prog E53 := itOK_of (l := [(148, Tryd.f148)]) rfl (by
  intro p hp
  rw [List.mem_singleton] at hp
  subst hp
  exact ⟨Tryd.func148, by kernel_rfl⟩)
abbrev w53 : FSpec := s53 (fun x => U.okl x.1 && (decide (U.cells x.1 ≤ 1048576) && (!U.may x.1 || (decide (List.length (α := List Cell) (U.joinL x.1 []) ≤ 1048576) && List.all (α := List Cell) (U.joinL x.1 []) U.okR))))
  fun x => bif U.may x.1 then (List.map (α := List Cell) (fun l => strOf (U.sayR l)) (U.joinL x.1 []), (0 : Int)) else ([], (1 : Int))
theorem wk53 : SpecOK Tryd.prog E0 53 w53 := by
  refine k53 (fun l H => ?_) IO53 (L := ls_ok (lcs := [lc Tryd.f53 0]) (rgs := [rg Tryd.f53 0]) (by kernel_rfl) (by kernel_rfl) L53_0 range53)
  have H : (U.okl l && (decide (U.cells l ≤ 1048576) && (!U.may l || (decide ((U.joinL l []).length ≤ 1048576) && (U.joinL l []).all U.okR)))) = true := H
  rw [Bool.and_eq_true, Bool.and_eq_true] at H
  obtain ⟨gk, g2, g3⟩ := H
  show _ = some (bif U.may l then ((U.joinL l []).map (fun l => strOf (U.sayR l)), (0 : Int)) else ([], (1 : Int)))
  cases hm : U.may l with
  | false => simp only [d53, Tr.val, gk, g2, hm, Bool.and_self, cond_true, cond_false, show ¬ ((1 : Int) = 0) by decide, decide_false, Bool.not_false]
  | true =>
    rw [hm] at g3
    have g3 : (decide ((U.joinL l []).length ≤ 1048576) && (U.joinL l []).all U.okR) = true := g3
    rw [Bool.and_eq_true] at g3
    have g4 : (U.joinL l []).length ≤ 1048576 := of_decide_eq_true g3.1
    simp only [d53, Tr.val, gk, g2, hm, g3.2, g4, Nat.zero_add, and_self, Bool.and_self, cond_true, cond_false, decide_true, Bool.not_true]
    rfl
def d54 : Tr (Bool) :=
 Tr.ite true (Tr.ite true (Tr.ite true (Tr.ite true (Tr.ite true (Tr.ite true (Tr.ite true (Tr.ite true (Tr.ite true (Tr.ite true (Tr.ite true (Tr.ret true) Tr.fail) (Tr.ret false)) (Tr.ret false)) Tr.fail) (Tr.ret false)) Tr.fail) (Tr.ret false)) (Tr.ret false)) (Tr.ret false)) Tr.fail) Tr.fail
def e54 (r : Bool) : FRes := { rs := Slot.av (AV.one (Leaf.dat Kd.bool r)), upd := [], new := [] }
@[reducible] def a54 : List AK := []
@[reducible] def b54 : List BK := []
theorem t54 : evFn (Env.withFns E0 [((69 : Nat), w69), ((53 : Nat), w53)]) Tryd.f54 [PM.data Kd.bool] (akAV a54 ()) (bkBs b54 ()) = (d54).map e54 := by kernel_rfl
def s54' (G : akT a54 → Bool) : FSpec := aspec0 a54 b54 e54 (fun x _ => G x)
theorem k54' {G : akT a54 → Bool} (hd : (d54).val = some (G ())) (IO : ItOK Tryd.prog (Env.withFns E0 [((69 : Nat), w69), ((53 : Nat), w53)]) := by exact itOK_none rfl) (L : ∀ c, Tryd.f54.body = some c → LsOK (evI 2) ((Env.withFns E0 [((69 : Nat), w69), ((53 : Nat), w53)]).lend 0) c := by exact fun c _ => LsOK_none rfl c) : SpecOK Tryd.prog E0 54 (s54' G) :=
  aspec0_ok (ak := a54) (bl := b54) (e := e54) (g := fun x _ => G x) (E0 := E0) (E := Env.withFns E0 [((69 : Nat), w69), ((53 : Nat), w53)]) tab (.cons wk69 (.cons wk53 .nil)) rfl rfl hm Tryd.func54 (by kernel_rfl) [PM.data Kd.bool] (fun X Y => by exact val_of (t54) (hd)) IO L
abbrev w54 : FSpec := s54' fun _ => true
theorem wk54 : SpecOK Tryd.prog E0 54 w54 := k54' rfl
end Go.Proofs.YtmnbcnhpklejcaaDoor
end
section
set_option linter.unusedVariables false
set_option linter.unusedSimpArgs false
set_option maxRecDepth 20000
set_option maxHeartbeats 4000000
open Go Go.Ev
namespace Go.Ev
theorem Rounds.mapA {α β ρ τ : Type} {B : τ → Tr (τ ⊕ ρ)} (xs : List α) (st : Nat → List β → τ) (g : α → β) (fin : List β → ρ) (N : Nat)
    (hs : ∀ i s (h : i < xs.length), s.length + (xs.length - i) ≤ N → (B (st i s)).val = some (.inl (st (i + 1) (s ++ [g xs[i]])))) (he : ∀ s, (B (st xs.length s)).val = some (.inr (fin s))) (s0 : List β) (h0 : s0.length + xs.length ≤ N) :
    Rounds B (st 0 s0) (fin (s0 ++ xs.map g)) := by
  have := Rounds.fold0 (B := B) xs st (fun s c => s ++ [g c]) fin (fun i s => s.length + (xs.length - i) ≤ N) s0 (by omega) (fun i s hi hv => ⟨hs i s hi hv, by simp only [List.length_append, List.length_singleton]; omega⟩) (fun s _ => he s)
  have e : ∀ (l : List α) (a : List β), l.foldl (fun s c => s ++ [g c]) a = a ++ l.map g := by
    intro l
    induction l with
    | nil => intro a; simp
    | cons x l ih => intro a; rw [List.foldl_cons, ih]; simp
  rwa [e] at this
theorem snocRec {α : Type} {p : List α → Prop} (h0 : p []) (h1 : ∀ l a, p l → p (l ++ [a])) (l : List α) : p l := by
  have : ∀ m : List α, p m.reverse := by
    intro m
    induction m with
    | nil => exact h0
    | cons a m ih => rw [List.reverse_cons]; exact h1 _ _ ih
  have h := this l.reverse
  rwa [List.reverse_reverse] at h
end Go.Ev
namespace Go.Proofs.YtmnbcnhpklejcaaDoor
open Go.RowKit
def live68 (key : Nat) : Lv :=
  bif Nat.beq key 3 then { ls := [5, 13, 14, 15], wd := [⟨5, none, .row 48 celk⟩] } else bif Nat.beq key 1003 then { ls := [5] } else
  { ls := [] }
abbrev M68 (ls : Nat → VS → Option (Tr (Ex × VS))) : Env := E0.loops live68 ls
@[reducible] def p68_0 : LP := { n := 33, sl := [.c (Leaf.row ( 0)), .d (Kd.sl celk), .d (.int .i64), .d (.int .i64)], bl := [(0, .row 48 (celk))] }
def B68_0 (x1 : List Cell) (x2 : Int) (x3 : Int) (h0 : List Cell) : Tr (p68_0.T ⊕ (List Cell)) :=
 let v1 : Int := ((↑(ByteArray.size (rget celk x1 x3).fst) : Int))
 let v2 : Int := (minI v1 (20 : Int))
 Tr.ite (decide (x3 < x2)) (Tr.ite (inB x3 (List.length x1)) (Tr.ite (decide ((0 : Int) ≤ v2 ∧ v2 ≤ v1)) (Tr.ite (decide ((List.length h0 + (1 : Nat)) * (48 : Nat) ≤ (140737488355328 : Nat))) (Tr.ret (Sum.inl ((x1, x2, IntKind.wrap IntKind.i64 (x3 + (1 : Int)), ()), h0 ++ [(ByteArray.extract (rget celk x1 x3).fst (0 : Nat) (Int.toNat v2), (rget celk x1 x3).snd)], ()))) Tr.fail) Tr.fail) Tr.fail) (Tr.ret (Sum.inr h0))
def X68_0 (r : (List Cell)) : Ex × VS := Prod.mk (Ex.exit ( 0)) { n := 33, v := [Slot.av (AV.one (Leaf.row ( 0)))], h := [( 0, Blk.row ( 48) celk r)] }
def b68_0 : p68_0.T → Tr (p68_0.T ⊕ (List Cell)) := fun ⟨⟨x1, ⟨x2, ⟨x3, _⟩⟩⟩, ⟨h0, _⟩⟩ => B68_0 x1 x2 x3 h0
theorem h68_0 (ls : Nat → VS → Option (Tr (Ex × VS))) (x : p68_0.T) : (evC (evI 2) (lc Tryd.f68 0) (Env.lend (M68 ls) 0) (unV (live68 3) (p68_0.V x))).map (decL 0 (live68 3) (live68 1003)) = (b68_0 x).map (encR p68_0.V X68_0) := by
  obtain ⟨⟨x1, ⟨x2, ⟨x3, _⟩⟩⟩, ⟨h0, _⟩⟩ := x; kernel_rfl
theorem c68_0 (x : p68_0.T) : canV 0 (live68 3) (unV (live68 3) (p68_0.V x)) = p68_0.V x := by
  obtain ⟨⟨x1, ⟨x2, ⟨x3, _⟩⟩⟩, ⟨h0, _⟩⟩ := x; kernel_rfl
theorem l68_0 {T : p68_0.T → Tr (List Cell)} {ls : Nat → VS → Option (Tr (Ex × VS))} (hls : ∀ x, (Env.lend (M68 ls) 0).ls 3 x = p68_0.ls (fun a => (T a).map X68_0) x) (hS : ∀ x r, (T x).val = some r → Rounds b68_0 x r) : LoopOK (evI 2) (Env.lend (M68 ls) 0) (lc Tryd.f68 0) :=
  loopA 3 (live68 3) (live68 1003) p68_0 b68_0 X68_0 T (by kernel_rfl) rfl rfl hls (h68_0 ls) c68_0 hS
def T68 (x : p68_0.T) : Tr (List Cell) :=
  match x with
  | ⟨⟨l, n, i, _⟩, s, _⟩ => .ite (decide ((n : Int) = (List.length (α := Cell) l : Int) ∧ (i : Int) = 0 ∧ List.length (α := Cell) s + List.length (α := Cell) l ≤ 1048576)) (.ret (List.append (α := Cell) s (List.map (α := Cell) U.cutC l))) .fail
abbrev E68 : Env := M68 fun key x => bif Nat.beq key 3 then p68_0.ls (fun a => (T68 a).map X68_0) x else none
theorem L68 : LoopOK (evI 2) (E68.lend 0) (lc Tryd.f68 0) := by
  refine l68_0 (T := T68) (fun x => rfl) ?_
  rintro ⟨⟨l, n, i, z⟩, s, z1⟩ r hh
  obtain ⟨g1, g2⟩ := pre_val hh
  have g1 : (n : Int) = (l.length : Int) ∧ (i : Int) = 0 ∧ s.length + l.length ≤ 1048576 := of_decide_eq_true g1
  obtain ⟨rfl, rfl, e3⟩ := g1
  cases g2
  refine Rounds.mapA (B := b68_0) l (fun i s => ((l, (l.length : Int), (i : Int), ()), s, ())) U.cutC (fun s => s) 1048576 (fun i s hi hv => ?_) (fun s => ?_) s e3
  · have e : rget celk l (i : Int) = l[i] := by rw [rgetC]; exact getD_el hi
    have e6 : minI (l[i].1.size : Int) 20 = ((min l[i].1.size 20 : Nat) : Int) := minI_nat _ 20
    have e7 : decide ((0 : Int) ≤ ((min l[i].1.size 20 : Nat) : Int) ∧ ((min l[i].1.size 20 : Nat) : Int) ≤ (l[i].1.size : Int)) = true := decide_eq_true (by omega)
    have e8 : decide ((s.length + 1) * 48 ≤ 140737488355328) = true := decide_eq_true (by omega)
    have e9 : decide ((i : Int) < (l.length : Int)) = true := decide_eq_true (by omega)
    simp only [b68_0, B68_0, Tr.val, e, e6, e7, e8, e9, inB_nat hi, Int.toNat_natCast, cond_true, wrap64_nat (show i ≤ 1048576 by omega)]
    rfl
  · simp only [b68_0, B68_0, Tr.val, show ¬ ((l.length : Int) < (l.length : Int)) by omega, decide_false, cond_false]
def d68 (a : List Cell) (b : Int) : Tr (List Cell) :=
 let v1 : Int := ((↑(List.length a) : Int))
 let v2 : Int := (minI v1 b)
 let v3 : List Cell := (sub a (0 : Nat) (Int.toNat v2))
 let v4 : Int := ((↑(List.length v3) : Int))
 let v5 : Int := ((↑(List.length v3) : Int))
 Tr.ite (decide ((0 : Int) ≤ v2 ∧ v2 ≤ v1)) (Tr.ite (decide (v5 = v4 ∧ (0 : Int) = (0 : Int) ∧ (0 : Nat) + List.length v3 ≤ (1048576 : Nat))) (Tr.ret (List.append [] (List.map U.cutC v3))) Tr.fail) Tr.fail
def e68 (r : List Cell) : FRes := { rs := Slot.av (AV.one (Leaf.dat (Kd.sl celk) r)), upd := [], new := [] }
@[reducible] def a68 : List AK := [AK.d (Kd.sl celk), AK.d (.int .i64)]
@[reducible] def b68 : List BK := []
theorem t68 (a : List Cell) (b : Int) : evFn (E68) Tryd.f68 [PM.data (Kd.sl celk)] (akAV a68 (a, b, ())) (bkBs b68 ()) = (d68 a b).map e68 := by kernel_rfl
def s68 (C : akT a68 → Bool) (G : akT a68 → List Cell) : FSpec := aspec a68 b68 e68 (fun x _ => C x) (fun x _ => G x)
theorem k68 {C : akT a68 → Bool} {G : akT a68 → List Cell} (hd : ∀ (a : List Cell) (b : Int), C (a, b, ()) = true → (d68 a b).val = some (G (a, b, ()))) (IO : ItOK Tryd.prog (E68) := by exact itOK_none rfl) (L : ∀ c, Tryd.f68.body = some c → LsOK (evI 2) ((E68).lend 0) c := by exact fun c _ => LsOK_none rfl c) : SpecOK Tryd.prog E0 68 (s68 C G) :=
  aspec_ok (ak := a68) (bl := b68) (e := e68) (c := fun x _ => C x) (g := fun x _ => G x) (E0 := E0) (E := E68) tab .nil rfl rfl hm Tryd.func68 (by kernel_rfl) [PM.data (Kd.sl celk)] (fun X Y H => by obtain ⟨a, ⟨b, _⟩⟩ := X; exact val_of (t68 a b) (hd a b H)) IO L
abbrev w68 : FSpec := s68 (fun x => decide (0 ≤ (x.2.1 : Int) ∧ (x.2.1 : Int) ≤ 1000)) fun x => (List.take x.2.1.toNat x.1).map U.cutC
theorem wk68 : SpecOK Tryd.prog E0 68 w68 := by
  refine k68 (fun l n H => ?_) (L := ls_ok (lcs := [lc Tryd.f68 0]) (rgs := []) (by kernel_rfl) (by kernel_rfl) L68 trivial)
  have H : (0 : Int) ≤ n ∧ n ≤ 1000 := of_decide_eq_true H
  obtain ⟨h1, h2⟩ := H
  obtain ⟨m, rfl⟩ := Int.eq_ofNat_of_zero_le h1
  have e1 : minI (l.length : Int) (m : Int) = ((min l.length m : Nat) : Int) := minI_nat _ m
  have e2 : decide ((0 : Int) ≤ ((min l.length m : Nat) : Int) ∧ ((min l.length m : Nat) : Int) ≤ (l.length : Int)) = true := decide_eq_true (by omega)
  have e3 : sub l 0 (min l.length m) = l.take m := by
    unfold sub
    rw [List.drop_zero]
    rcases Nat.le_total l.length m with h | h
    · rw [Nat.min_eq_left h, List.take_length, List.take_of_length_le h]
    · rw [Nat.min_eq_right h]
  have e4 : (l.take m).length ≤ 1048576 := by rw [List.length_take]; omega
  show _ = some ((l.take m).map U.cutC)
  simp only [d68, Tr.val, e1, e2, e3, e4, Int.toNat_natCast, Nat.zero_add, and_self, decide_true, cond_true]
  rfl
def live51 (key : Nat) : Lv :=
  bif Nat.beq key 3 then { ls := [3, 10, 11, 12], wd := [⟨3, none, .row 34 link⟩] } else bif Nat.beq key 1003 then { ls := [3] } else
  { ls := [] }
abbrev M51 (ls : Nat → VS → Option (Tr (Ex × VS))) : Env := (E0.withFns [(68, w68)]).loops live51 ls
@[reducible] def p51_0 : LP := { n := 27, sl := [.c (Leaf.row ( 0)), .d (Kd.sl link), .d (.int .i64), .d (.int .i64)], bl := [(0, .row 34 (link))] }
def B51_0 (x1 : List Line) (x2 : Int) (x3 : Int) (h0 : List Line) : Tr (p51_0.T ⊕ (List Line)) :=
 Tr.ite (decide (x3 < x2)) (Tr.ite (inB x3 (List.length x1)) (Tr.ite true (Tr.ite (decide ((List.length h0 + (1 : Nat)) * (32 : Nat) ≤ (140737488355328 : Nat))) (Tr.ret (Sum.inl ((x1, x2, IntKind.wrap IntKind.i64 (x3 + (1 : Int)), ()), h0 ++ [(List.map U.cutC (List.take (82 : Nat) (rget link x1 x3).fst), (rget link x1 x3).snd)], ()))) Tr.fail) Tr.fail) Tr.fail) (Tr.ret (Sum.inr h0))
def X51_0 (r : (List Line)) : Ex × VS := Prod.mk (Ex.exit ( 0)) { n := 27, v := [Slot.av (AV.one (Leaf.row ( 0)))], h := [( 0, Blk.row ( 34) link r)] }
def b51_0 : p51_0.T → Tr (p51_0.T ⊕ (List Line)) := fun ⟨⟨x1, ⟨x2, ⟨x3, _⟩⟩⟩, ⟨h0, _⟩⟩ => B51_0 x1 x2 x3 h0
theorem h51_0 (ls : Nat → VS → Option (Tr (Ex × VS))) (x : p51_0.T) : (evC (evI 2) (lc Tryd.f51 0) (Env.lend (M51 ls) 0) (unV (live51 3) (p51_0.V x))).map (decL 0 (live51 3) (live51 1003)) = (b51_0 x).map (encR p51_0.V X51_0) := by
  obtain ⟨⟨x1, ⟨x2, ⟨x3, _⟩⟩⟩, ⟨h0, _⟩⟩ := x; kernel_rfl
theorem c51_0 (x : p51_0.T) : canV 0 (live51 3) (unV (live51 3) (p51_0.V x)) = p51_0.V x := by
  obtain ⟨⟨x1, ⟨x2, ⟨x3, _⟩⟩⟩, ⟨h0, _⟩⟩ := x; kernel_rfl
theorem l51_0 {T : p51_0.T → Tr (List Line)} {ls : Nat → VS → Option (Tr (Ex × VS))} (hls : ∀ x, (Env.lend (M51 ls) 0).ls 3 x = p51_0.ls (fun a => (T a).map X51_0) x) (hS : ∀ x r, (T x).val = some r → Rounds b51_0 x r) : LoopOK (evI 2) (Env.lend (M51 ls) 0) (lc Tryd.f51 0) :=
  loopA 3 (live51 3) (live51 1003) p51_0 b51_0 X51_0 T (by kernel_rfl) rfl rfl hls (h51_0 ls) c51_0 hS
def T51 (x : p51_0.T) : Tr (List Line) :=
  match x with
  | ⟨⟨l, n, i, _⟩, s, _⟩ => .ite (decide ((n : Int) = (List.length (α := Line) l : Int) ∧ (i : Int) = 0 ∧ List.length (α := Line) s + List.length (α := Line) l ≤ 1048576)) (.ret (List.append (α := Line) s (List.map (α := Line) (fun y => (U.cutL y.1, y.2.1, ())) l))) .fail
abbrev E51 : Env := M51 fun key x => bif Nat.beq key 3 then p51_0.ls (fun a => (T51 a).map X51_0) x else none
theorem L51 : LoopOK (evI 2) (E51.lend 0) (lc Tryd.f51 0) := by
  refine l51_0 (T := T51) (fun x => rfl) ?_
  rintro ⟨⟨l, n, i, z⟩, s, z1⟩ r hh
  obtain ⟨g1, g2⟩ := pre_val hh
  have g1 : (n : Int) = (l.length : Int) ∧ (i : Int) = 0 ∧ s.length + l.length ≤ 1048576 := of_decide_eq_true g1
  obtain ⟨rfl, rfl, e3⟩ := g1
  cases g2
  refine Rounds.mapA (B := b51_0) l (fun i s => ((l, (l.length : Int), (i : Int), ()), s, ())) (fun y => (U.cutL y.1, y.2.1, ())) (fun s => s) 1048576 (fun i s hi hv => ?_) (fun s => ?_) s e3
  · have e : rget link l (i : Int) = l[i] := by rw [rgetL]; exact getD_el hi
    have e8 : decide ((s.length + 1) * 32 ≤ 140737488355328) = true := decide_eq_true (by omega)
    have e9 : decide ((i : Int) < (l.length : Int)) = true := decide_eq_true (by omega)
    have e10 : decide ((0 : Int) ≤ 82 ∧ (82 : Int) ≤ 1000) = true := rfl
    simp only [b51_0, B51_0, Tr.val, e, e8, e9, e10, inB_nat hi, cond_true, wrap64_nat (show i ≤ 1048576 by omega)]
    rfl
  · simp only [b51_0, B51_0, Tr.val, show ¬ ((l.length : Int) < (l.length : Int)) by omega, decide_false, cond_false]
def d51 (a : List Line) : Tr (List Line) :=
 let v1 : Int := ((↑(List.length a) : Int))
 let v2 : Int := (minI v1 (30 : Int))
 let v3 : List Line := (sub a (0 : Nat) (Int.toNat v2))
 let v4 : Int := ((↑(List.length v3) : Int))
 let v5 : Int := ((↑(List.length v3) : Int))
 Tr.ite (decide ((0 : Int) ≤ v2 ∧ v2 ≤ v1)) (Tr.ite (decide (v5 = v4 ∧ (0 : Int) = (0 : Int) ∧ (0 : Nat) + List.length v3 ≤ (1048576 : Nat))) (Tr.ret (List.append [] (List.map (fun (y : Line) => (U.cutL y.fst, y.snd.fst, ())) v3))) Tr.fail) Tr.fail
def e51 (r : List Line) : FRes := { rs := Slot.av (AV.one (Leaf.dat (Kd.sl link) r)), upd := [], new := [] }
@[reducible] def a51 : List AK := [AK.d (Kd.sl link)]
@[reducible] def b51 : List BK := []
theorem t51 (a : List Line) : evFn (E51) Tryd.f51 [PM.data (Kd.sl link)] (akAV a51 (a, ())) (bkBs b51 ()) = (d51 a).map e51 := by kernel_rfl
def s51' (G : akT a51 → List Line) : FSpec := aspec0 a51 b51 e51 (fun x _ => G x)
theorem k51' {G : akT a51 → List Line} (hd : ∀ (a : List Line), (d51 a).val = some (G (a, ()))) (IO : ItOK Tryd.prog (E51) := by exact itOK_none rfl) (L : ∀ c, Tryd.f51.body = some c → LsOK (evI 2) ((E51).lend 0) c := by exact fun c _ => LsOK_none rfl c) : SpecOK Tryd.prog E0 51 (s51' G) :=
  aspec0_ok (ak := a51) (bl := b51) (e := e51) (g := fun x _ => G x) (E0 := E0) (E := E51) tab (.cons wk68 .nil) rfl rfl hm Tryd.func51 (by kernel_rfl) [PM.data (Kd.sl link)] (fun X Y => by obtain ⟨a, _⟩ := X; exact val_of (t51 a) (hd a)) IO L
abbrev w51 : FSpec := s51' fun x => U.few x.1 30
theorem wk51 : SpecOK Tryd.prog E0 51 w51 := by
  refine k51' (fun l => ?_) (L := ls_ok (lcs := [lc Tryd.f51 0]) (rgs := []) (by kernel_rfl) (by kernel_rfl) L51 trivial)
  have e1 : minI (l.length : Int) 30 = ((min l.length 30 : Nat) : Int) := minI_nat _ 30
  have e2 : decide ((0 : Int) ≤ ((min l.length 30 : Nat) : Int) ∧ ((min l.length 30 : Nat) : Int) ≤ (l.length : Int)) = true := decide_eq_true (by omega)
  have e3 : sub l 0 (min l.length 30) = l.take 30 := by
    unfold sub
    rw [List.drop_zero]
    rcases Nat.le_total l.length 30 with h | h
    · rw [Nat.min_eq_left h, List.take_length, List.take_of_length_le h]
    · rw [Nat.min_eq_right h]
  have e4 : (l.take 30).length ≤ 1048576 := by rw [List.length_take]; omega
  show _ = some (U.few l 30)
  simp only [d51, Tr.val, e1, e2, e3, e4, Int.toNat_natCast, Nat.zero_add, and_self, decide_true, cond_true]
  rfl
end Go.Proofs.YtmnbcnhpklejcaaDoor
namespace U
theorem trimR_len (l : List Cl) : (trimR l).length ≤ l.length ∧ l.take (trimR l).length = trimR l := by
  refine Go.Ev.snocRec (p := fun l => (trimR l).length ≤ l.length ∧ l.take (trimR l).length = trimR l) ⟨by simp [trimR], by simp [trimR]⟩ (fun l a ih => ?_) l
  rw [trimR_snoc]
  cases isNone a with
  | true =>
    simp only [cond_true]
    refine ⟨by rw [List.length_append]; omega, ?_⟩
    rw [List.take_append_of_le_length ih.1]
    exact ih.2
  | false =>
    simp only [cond_false]
    exact ⟨Nat.le_refl _, List.take_length⟩
end U
end
section
set_option linter.unusedVariables false
set_option linter.unusedSimpArgs false
set_option maxRecDepth 20000
set_option maxHeartbeats 4000000
open Go Go.Ev
namespace U
open Go.Proofs.YtmnbcnhpklejcaaDoor
def whB : List Cl → Bool
  | [] => true
  | [c] => decide (c.2.1 = 1)
  | c :: d :: l => if c.2.1 = 2 then decide (d.2.1 = 0) && whB l else decide (c.2.1 = 1) && whB (d :: l)
theorem whB_one {c : Cl} {l : List Cl} (h : c.2.1 = 1) : whB (c :: l) = whB l := by
  cases l with
  | nil => simp [whB, h]
  | cons d l =>
    show (if c.2.1 = 2 then decide (d.2.1 = 0) && whB l else decide (c.2.1 = 1) && whB (d :: l)) = whB (d :: l)
    rw [if_neg (by omega), decide_eq_true h, Bool.true_and]
theorem whB_two {c d : Cl} {l : List Cl} (h : c.2.1 = 2) (h' : d.2.1 = 0) : whB (c :: d :: l) = whB l := by
  show (if c.2.1 = 2 then decide (d.2.1 = 0) && whB l else decide (c.2.1 = 1) && whB (d :: l)) = whB l
  rw [if_pos h, decide_eq_true h', Bool.true_and]
theorem wh_ind {p : List Cl → Prop} (h0 : p []) (h1 : ∀ c l, c.2.1 = 1 → whB l = true → p l → p (c :: l)) (h2 : ∀ c d l, c.2.1 = 2 → d.2.1 = 0 → whB l = true → p l → p (c :: d :: l)) : ∀ (n : Nat) (l : List Cl), l.length ≤ n → whB l = true → p l
  | _, [], _, _ => h0
  | 0, c :: l, h, _ => by simp at h
  | n + 1, [c], _, hw => by
    have hc : c.2.1 = 1 := by simpa [whB] using hw
    exact h1 c [] hc rfl h0
  | n + 1, c :: d :: l, h, hw => by
    by_cases hc : c.2.1 = 2
    · have hd : d.2.1 = 0 := by
        unfold whB at hw; rw [if_pos hc, Bool.and_eq_true] at hw; exact of_decide_eq_true hw.1
      rw [whB_two hc hd] at hw
      exact h2 c d l hc hd hw (wh_ind h0 h1 h2 n l (by simp only [List.length_cons] at h; omega) hw)
    · have hc1 : c.2.1 = 1 := by
        unfold whB at hw; rw [if_neg hc, Bool.and_eq_true] at hw; exact of_decide_eq_true hw.1
      rw [whB_one hc1] at hw
      exact h1 c (d :: l) hc1 hw (wh_ind h0 h1 h2 n (d :: l) (by simp only [List.length_cons] at h ⊢; omega) hw)
theorem whInd {p : List Cl → Prop} {l : List Cl} (hw : whB l = true) (h0 : p []) (h1 : ∀ c l, c.2.1 = 1 → whB l = true → p l → p (c :: l)) (h2 : ∀ c d l, c.2.1 = 2 → d.2.1 = 0 → whB l = true → p l → p (c :: d :: l)) : p l :=
  wh_ind h0 h1 h2 l.length l (Nat.le_refl _) hw
theorem wh_app {a b : List Cl} (ha : whB a = true) (hb : whB b = true) : whB (a ++ b) = true :=
  whInd (p := fun a => whB (a ++ b) = true) ha hb (fun c l h _ ih => by rw [List.cons_append, whB_one h]; exact ih) (fun c d l h h' _ ih => by rw [List.cons_append, List.cons_append, whB_two h h']; exact ih)
theorem wh_init {a : Cl} (ha : a.2.1 = 1) : ∀ (n : Nat) (l : List Cl), l.length ≤ n → whB (l ++ [a]) = true → whB l = true
  | _, [], _, _ => rfl
  | 0, c :: l, h, _ => by simp at h
  | n + 1, [c], _, hw => by
    have hw : whB [c, a] = true := hw
    by_cases hc : c.2.1 = 2
    · unfold whB at hw; rw [if_pos hc, Bool.and_eq_true] at hw
      have := of_decide_eq_true hw.1
      omega
    · unfold whB at hw; rw [if_neg hc, Bool.and_eq_true] at hw
      exact hw.1
  | n + 1, c :: d :: l, h, hw => by
    by_cases hc : c.2.1 = 2
    · have hw : whB (c :: d :: (l ++ [a])) = true := hw
      have hd : d.2.1 = 0 := by
        unfold whB at hw; rw [if_pos hc, Bool.and_eq_true] at hw; exact of_decide_eq_true hw.1
      rw [whB_two hc hd] at hw ⊢
      exact wh_init ha n l (by simp only [List.length_cons] at h; omega) hw
    · have hw : whB (c :: d :: (l ++ [a])) = true := hw
      have hc1 : c.2.1 = 1 := by
        unfold whB at hw; rw [if_neg hc, Bool.and_eq_true] at hw; exact of_decide_eq_true hw.1
      rw [whB_one hc1] at hw ⊢
      exact wh_init ha n (d :: l) (by simp only [List.length_cons] at h ⊢; omega) hw
theorem isNone_wide {c : Cl} (h : isNone c = true) : c.2.1 = 1 := by
  unfold isNone at h
  simp only [Bool.and_eq_true, decide_eq_true_eq] at h
  exact h.2.1
theorem wh_trim (l : List Cl) : whB l = true → whB (trimR l) = true := by
  refine Go.Ev.snocRec (p := fun l => whB l = true → whB (trimR l) = true) (fun _ => by simp [trimR, whB]) (fun l a ih h => ?_) l
  rw [trimR_snoc]
  cases hb : isNone a with
  | true => exact ih (wh_init (isNone_wide hb) l.length l (Nat.le_refl _) h)
  | false => exact h
theorem wd_one {c : Cl} (h : c.2.1 = 1) : wd c = 1 := by unfold wd; rw [h]; rfl
theorem wd_two {c : Cl} (h : c.2.1 = 2) : wd c = 2 := by unfold wd; rw [h]; rfl
theorem wh_okP {l : List Cl} (h : whB l = true) : ∀ k, l.length ≤ k → okP k l = true :=
  whInd (p := fun l => ∀ k, l.length ≤ k → okP k l = true) h (fun k _ => by cases k <;> rfl)
    (fun c l hc _ ih k hk => by
      cases k with
      | zero => simp at hk
      | succ k =>
        unfold okP
        rw [wd_one hc, Bool.and_eq_true]
        exact ⟨decide_eq_true (by simp), ih k (by simpa using hk)⟩)
    (fun c d l hc hd _ ih k hk => by
      cases k with
      | zero => simp at hk
      | succ k =>
        unfold okP
        rw [wd_two hc, Bool.and_eq_true]
        exact ⟨decide_eq_true (by simp), ih k (by simp only [List.length_cons] at hk; omega)⟩)
theorem cellR_empty {c : Cl} (h : cellR c = true) : (c.1 = (⟨#[]⟩ : ByteArray) → c.2.1 = 0 ∨ c.2.1 = 1) ∧ (c.2.1 = 0 → c.1 = (⟨#[]⟩ : ByteArray)) := by
  unfold cellR at h
  split at h
  · rename_i hz
    simp only [Bool.and_eq_true] at h
    have := h.2
    unfold inn at this
    simp at this
    exact ⟨fun _ => by omega, fun _ => ba_nil hz⟩
  · rename_i hz
    split at h
    · rename_i h1
      have := h1.2.1
      unfold inn at this
      simp at this
      exact ⟨fun e => by rw [e] at hz; exact absurd rfl hz, fun e => by omega⟩
    · cases h
theorem pcs_one {k : Nat} {c : Cl} {l : List Cl} (h : c.2.1 = 1) : pcs (k + 1) (c :: l) = [c] :: pcs k l := by
  show (c :: l).take (wd c) :: pcs k ((c :: l).drop (wd c)) = _
  rw [wd_one h]; rfl
theorem pcs_two {k : Nat} {c d : Cl} {l : List Cl} (h : c.2.1 = 2) : pcs (k + 1) (c :: d :: l) = [c, d] :: pcs k l := by
  show (c :: d :: l).take (wd c) :: pcs k ((c :: d :: l).drop (wd c)) = _
  rw [wd_two h]; rfl
theorem wh_say {l : List Cl} (h : whB l = true) : (∀ c ∈ l, cellR c = true) → ∀ k, l.length ≤ k → (pcs k l).flatMap sayP = sayL l :=
  whInd (p := fun l => (∀ c ∈ l, cellR c = true) → ∀ k, l.length ≤ k → (pcs k l).flatMap sayP = sayL l) h (fun _ k _ => by rw [pcs_nil]; rfl)
    (fun c l hc _ ih hr k hk => by
      cases k with
      | zero => simp at hk
      | succ k =>
        rw [pcs_one hc, List.flatMap_cons, ih (fun x hx => hr x (by simp [hx])) k (by simpa using hk)]
        unfold sayL
        rw [List.flatMap_cons]
        congr 1
        show bytesL c.1 ++ (bif decide (c.1 = (⟨#[]⟩ : ByteArray)) then [32] else []) = sayC c
        unfold sayC
        rw [decide_eq_true hc, Bool.and_true])
    (fun c d l hc hd _ ih hr k hk => by
      cases k with
      | zero => simp at hk
      | succ k =>
        rw [pcs_two hc, List.flatMap_cons, ih (fun x hx => hr x (by simp [hx])) k (by simp only [List.length_cons] at hk; omega)]
        unfold sayL
        rw [List.flatMap_cons, List.flatMap_cons, ← List.append_assoc]
        congr 1
        have c0 : ¬ c.1 = (⟨#[]⟩ : ByteArray) := fun e => by
          have := (cellR_empty (hr c (by simp))).1 e
          omega
        have d0 := (cellR_empty (hr d (by simp))).2 hd
        show bytesL c.1 ++ (bif decide (c.1 = (⟨#[]⟩ : ByteArray)) then [32] else []) = sayC c ++ sayC d
        unfold sayC
        rw [decide_eq_false c0, hd, d0]
        simp [bytesL])
theorem cellR_cases {c : Cl} (h : cellR c = true) : c.2.1 = 0 ∨ c.2.1 = 1 ∨ c.2.1 = 2 := by
  unfold cellR at h
  split at h
  · simp only [Bool.and_eq_true] at h
    have := h.2
    unfold inn at this
    simp at this
    omega
  · split at h
    · rename_i h1
      have := h1.2.1
      unfold inn at this
      simp at this
      omega
    · cases h
theorem fit_at {l : List Cl} (h : fitC l = true) {i : Nat} (hi : i < l.length) : cellR (l.getD i dC) = true ∧ whole l i = true := by
  unfold fitC at h
  have := allN_iff.1 h i (by omega) (by omega)
  rwa [Bool.and_eq_true] at this
theorem fit_cells {l : List Cl} (h : fitC l = true) : ∀ c ∈ l, cellR c = true := fun c hc => by
  obtain ⟨i, hi, rfl⟩ := List.getElem_of_mem hc
  have := (fit_at h hi).1
  rwa [getD_el hi] at this
theorem fit_drop {l : List Cl} (h : fitC l = true) : ∀ (n i : Nat), l.length - i ≤ n → i ≤ l.length → (i < l.length → cw l i ≠ 0) → whB (l.drop i) = true
  | 0, i, hn, hi, _ => by rw [List.drop_of_length_le (by omega)]; rfl
  | n + 1, i, hn, hi, h0 => by
    by_cases hlt : i < l.length
    · obtain ⟨r1, r2⟩ := fit_at h hlt
      have e0 : l.getD i dC = l[i] := getD_el hlt
      have c0 : cw l i = (l[i]).2.1 := by unfold cw; rw [e0]
      rw [List.drop_eq_getElem_cons hlt]
      rw [e0] at r1
      have h0 := h0 hlt
      have nx : ∀ j, j < l.length → cw l j = 0 → 0 < j ∧ cw l (j - 1) = 2 := fun j hj hz => by
        have := (fit_at h hj).2
        unfold whole at this
        rw [if_neg (by omega), if_pos hz, Bool.and_eq_true] at this
        exact ⟨of_decide_eq_true this.1, of_decide_eq_true this.2⟩
      rcases cellR_cases r1 with q | q | q
      · rw [c0] at h0; exact absurd q h0
      · rw [whB_one q]
        refine fit_drop h n (i + 1) (by omega) (by omega) fun hj hz => ?_
        have := (nx (i + 1) hj hz).2
        rw [Nat.add_sub_cancel, c0] at this
        omega
      · unfold whole at r2
        rw [if_pos (by rw [c0]; exact q), Bool.and_eq_true] at r2
        have g1 : i + 1 < l.length := of_decide_eq_true r2.1
        have g2 : cw l (i + 1) = 0 := of_decide_eq_true r2.2
        rw [List.drop_eq_getElem_cons g1]
        have e1 : l.getD (i + 1) dC = l[i + 1] := getD_el g1
        have g3 : (l[i + 1]).2.1 = 0 := by rw [← e1]; exact g2
        rw [whB_two q g3]
        refine fit_drop h n (i + 1 + 1) (by omega) (by omega) fun hj hz => ?_
        have := (nx (i + 1 + 1) hj hz).2
        rw [Nat.add_sub_cancel] at this
        omega
    · rw [List.drop_of_length_le (by omega)]; rfl
theorem fit_wh {l : List Cl} (h : fitC l = true) : whB l = true := by
  have := fit_drop h l.length 0 (by omega) (by omega) fun hi hz => by
    have := (fit_at h hi).2
    unfold whole at this
    rw [if_neg (by omega), if_pos hz, Bool.and_eq_true] at this
    exact absurd (of_decide_eq_true this.1) (by omega)
  rwa [List.drop_zero] at this
end U
namespace U
open Go.Proofs.YtmnbcnhpklejcaaDoor
def Good (l : List Cl) : Prop := whB l = true ∧ ∀ c ∈ l, cellR c = true ∧ c.1.size ≤ 1048576
theorem Good.nil : Good [] := ⟨rfl, fun c h => by simp at h⟩
theorem Good.app {a b : List Cl} (ha : Good a) (hb : Good b) : Good (a ++ b) := ⟨wh_app ha.1 hb.1, fun c h => by
  rcases List.mem_append.1 h with h | h
  · exact ha.2 c h
  · exact hb.2 c h⟩
theorem mem_trim {l : List Cl} {c : Cl} (h : c ∈ trimR l) : c ∈ l := by
  rw [← (trimR_len l).2] at h
  exact List.mem_of_mem_take h
theorem Good.trim {l : List Cl} (h : Good l) : Good (trimR l) := ⟨wh_trim l h.1, fun c hc => h.2 c (mem_trim hc)⟩
theorem Good.fit {l : List Cl} (h : fitC l = true) (hk : okc l = true) : Good l := ⟨fit_wh h, fun c hc => by
  refine ⟨fit_cells h c hc, ?_⟩
  unfold okc at hk
  rw [Bool.and_eq_true] at hk
  exact of_decide_eq_true (List.all_eq_true.1 hk.2 c hc)⟩
theorem joinL_good : ∀ (l : List Ln) (h : List Cl), (∀ y ∈ l, Good y.1) → Good h → (∀ r ∈ joinL l h, Good r ∧ r.length ≤ h.length + cells l) ∧ (joinL l h).length ≤ l.length
  | [], h, _, _ => ⟨fun r hr => by simp [joinL] at hr, by simp [joinL]⟩
  | y :: l, h, hl, hh => by
    have hy := hl y (by simp)
    have hl' : ∀ y ∈ l, Good y.1 := fun z hz => hl z (by simp [hz])
    unfold joinL
    cases hc : (!y.2.1 || decide (l.length = 0)) with
    | true =>
      simp only [cond_true]
      obtain ⟨h1, h2⟩ := joinL_good l [] hl' .nil
      refine ⟨fun r hr => ?_, by simpa using h2⟩
      rcases List.mem_cons.1 hr with rfl | hr
      · refine ⟨(hh.app hy).trim, ?_⟩
        have := (trimR_len (h ++ y.1)).1
        rw [List.length_append] at this
        show _ ≤ h.length + (y.1.length + cells l)
        omega
      · obtain ⟨g1, g2⟩ := h1 r hr
        refine ⟨g1, ?_⟩
        show _ ≤ h.length + (y.1.length + cells l)
        rw [List.length_nil] at g2
        omega
    | false =>
      simp only [cond_false]
      obtain ⟨h1, h2⟩ := joinL_good l (h ++ y.1) hl' (hh.app hy)
      refine ⟨fun r hr => ?_, by simp only [List.length_cons]; omega⟩
      obtain ⟨g1, g2⟩ := h1 r hr
      refine ⟨g1, ?_⟩
      show _ ≤ h.length + (y.1.length + cells l)
      rw [List.length_append] at g2
      omega
theorem mayL_fit {l : List Ln} (h : mayL l = true) (hk : okl l = true) : ∀ y ∈ l, Good y.1 := fun y hy => by
  obtain ⟨i, hi, rfl⟩ := List.getElem_of_mem hy
  have h1 := mayL_at h hi
  rw [getD_el hi] at h1
  unfold mayR at h1
  simp only [Bool.and_eq_true] at h1
  have h2 := okl_at hk hi
  rw [getD_el hi] at h2
  exact .fit h1.2.2 h2
theorem Good.okc {l : List Cl} (h : Good l) (hl : l.length ≤ 1048576) : okc l = true := by
  unfold U.okc
  rw [Bool.and_eq_true]
  exact ⟨decide_eq_true hl, List.all_eq_true.2 fun c hc => decide_eq_true (h.2 c hc).2⟩
theorem Good.say {l : List Cl} (h : Good l) : sayR l = sayL l := wh_say h.1 (fun c hc => (h.2 c hc).1) l.length (Nat.le_refl _)
theorem Good.okR {l : List Cl} (h : Good l) (hl : l.length ≤ 1048576) : okR l = true := by
  unfold U.okR
  rw [Bool.and_eq_true, h.say]
  have := (okc_say (h.okc hl) 0).2
  rw [List.drop_zero] at this
  exact ⟨decide_eq_true this, wh_okP h.1 _ (Nat.le_refl _)⟩
end U
end
section
set_option linter.unusedVariables false
set_option linter.unusedSimpArgs false
set_option maxRecDepth 20000
set_option maxHeartbeats 4000000
open Go Go.Ev
namespace Go.Ev
theorem Rounds.flatA {α β ρ τ : Type} {B : τ → Tr (τ ⊕ ρ)} (xs : List α) (st : Nat → List β → τ) (g : α → List β) (fin : List β → ρ) (N : Nat)
    (hs : ∀ i s (h : i < xs.length), s.length + ((xs.drop i).flatMap g).length ≤ N → (B (st i s)).val = some (.inl (st (i + 1) (s ++ g xs[i])))) (he : ∀ s, (B (st xs.length s)).val = some (.inr (fin s))) :
    ∀ (k i : Nat) (s : List β), i + k = xs.length → s.length + ((xs.drop i).flatMap g).length ≤ N → Rounds B (st i s) (fin (s ++ (xs.drop i).flatMap g))
  | 0, i, s, e, h => by
    have : i = xs.length := by omega
    subst this
    rw [List.drop_length, List.flatMap_nil, List.append_nil]
    exact .exit (he s)
  | k + 1, i, s, e, h => by
    have hi : i < xs.length := by omega
    have h1 := hs i s hi h
    rw [List.drop_eq_getElem_cons hi, List.flatMap_cons] at h ⊢
    rw [List.length_append] at h
    have ih := Rounds.flatA xs st g fin N hs he k (i + 1) (s ++ g xs[i]) (by omega) (by rw [List.length_append]; omega)
    rw [List.append_assoc] at ih
    exact .step h1 ih
end Go.Ev
namespace U
open Go.Proofs.YtmnbcnhpklejcaaDoor
theorem foldL_len (n : Nat) (l : List Cl) : (foldL n l).length ≤ l.length + 1 := by
  unfold foldL
  rw [List.length_append, List.length_singleton]
  have h1 := (foldl_small n (pcs l.length l) ([], []) (by simp)).2
  have h2 := pcs_len l.length l
  simp only [List.length_nil] at h1
  omega
theorem flat_len (n : Nat) : ∀ rows : List (List Cl), (rows.flatMap (foldL n)).length ≤ (rows.map List.length).sum + rows.length
  | [] => by simp
  | r :: rows => by
    rw [List.flatMap_cons, List.length_append, List.map_cons, List.sum_cons, List.length_cons]
    have h1 := foldL_len n r
    have h2 := flat_len n rows
    omega
theorem join_sum : ∀ (l : List Ln) (h : List Cl), ((joinL l h).map List.length).sum ≤ h.length + cells l
  | [], h => by simp [joinL]
  | y :: l, h => by
    have e : cells (y :: l) = y.1.length + cells l := rfl
    unfold joinL
    cases (!y.2.1 || decide (l.length = 0)) with
    | true =>
      simp only [cond_true, List.map_cons, List.sum_cons]
      have h1 := (trimR_len (h ++ y.1)).1
      rw [List.length_append] at h1
      have h2 := join_sum l []
      simp only [List.length_nil] at h2
      omega
    | false =>
      simp only [cond_false]
      have h2 := join_sum l (h ++ y.1)
      rw [List.length_append] at h2
      omega
end U
namespace Go.Proofs.YtmnbcnhpklejcaaDoor
open Go.RowKit
def live70 (key : Nat) : Lv :=
  bif Nat.beq key 6 then { ls := [1, 8, 26, 27, 28], wd := [⟨8, none, .row 34 link⟩] } else bif Nat.beq key 1006 then { ls := [8] } else
  { ls := [] }
abbrev G70 : List (Nat × FSpec) := [(52, w52), (122, w122)]
theorem AG70 : AllFn Tryd.prog E0 G70 := .cons wk52 (.cons wk122 .nil)
abbrev M70 (ls : Nat → VS → Option (Tr (Ex × VS))) : Env := (E0.withFns G70).loops live70 ls
@[reducible] def p70_0 : LP := { n := 39, sl := [.d (.int .i64), .c (Leaf.row ( 0)), .d (Kd.sl (Kd.sl celk)), .d (.int .i64), .d (.int .i64)], bl := [(0, .row 34 (link))] }
def B70_0 (x0 : Int) (x2 : List (List Cell)) (x3 : Int) (x4 : Int) (h0 : List Line) : Tr (p70_0.T ⊕ (List Line)) :=
 let v1 : List U.Ln := (U.foldL (Int.toNat x0) (rget (Kd.sl celk) x2 x4))
 Tr.ite (decide (x4 < x3)) (Tr.ite (inB x4 (List.length x2)) (Tr.ite (decide ((1 : Int) ≤ x0 ∧ x0 ≤ (80 : Int) ∧ List.length (rget (Kd.sl celk) x2 x4) ≤ (1048576 : Nat)) && U.okP (List.length (rget (Kd.sl celk) x2 x4)) (rget (Kd.sl celk) x2 x4)) (Tr.ite (decide ((List.length h0 + List.length v1) * (32 : Nat) ≤ (140737488355328 : Nat))) (Tr.ret (Sum.inl ((x0, x2, x3, IntKind.wrap IntKind.i64 (x4 + (1 : Int)), ()), h0 ++ v1, ()))) Tr.fail) Tr.fail) Tr.fail) (Tr.ret (Sum.inr h0))
def X70_0 (r : (List Line)) : Ex × VS := Prod.mk (Ex.exit ( 0)) { n := 39, v := [Slot.av (AV.one (Leaf.row ( 0)))], h := [( 0, Blk.row ( 34) link r)] }
def b70_0 : p70_0.T → Tr (p70_0.T ⊕ (List Line)) := fun ⟨⟨x0, ⟨x2, ⟨x3, ⟨x4, _⟩⟩⟩⟩, ⟨h0, _⟩⟩ => B70_0 x0 x2 x3 x4 h0
theorem h70_0 (ls : Nat → VS → Option (Tr (Ex × VS))) (x : p70_0.T) : (evC (evI 2) (lc Tryd.f70 0) (Env.lend (M70 ls) 0) (unV (live70 6) (p70_0.V x))).map (decL 0 (live70 6) (live70 1006)) = (b70_0 x).map (encR p70_0.V X70_0) := by
  obtain ⟨⟨x0, ⟨x2, ⟨x3, ⟨x4, _⟩⟩⟩⟩, ⟨h0, _⟩⟩ := x; kernel_rfl
theorem c70_0 (x : p70_0.T) : canV 0 (live70 6) (unV (live70 6) (p70_0.V x)) = p70_0.V x := by
  obtain ⟨⟨x0, ⟨x2, ⟨x3, ⟨x4, _⟩⟩⟩⟩, ⟨h0, _⟩⟩ := x; kernel_rfl
theorem l70_0 {T : p70_0.T → Tr (List Line)} {ls : Nat → VS → Option (Tr (Ex × VS))} (hls : ∀ x, (Env.lend (M70 ls) 0).ls 6 x = p70_0.ls (fun a => (T a).map X70_0) x) (hS : ∀ x r, (T x).val = some r → Rounds b70_0 x r) : LoopOK (evI 2) (Env.lend (M70 ls) 0) (lc Tryd.f70 0) :=
  loopA 6 (live70 6) (live70 1006) p70_0 b70_0 X70_0 T (by kernel_rfl) rfl rfl hls (h70_0 ls) c70_0 hS
def T70 (x : p70_0.T) : Tr (List Line) :=
  match x with
  | ⟨⟨c, rows, n, i, _⟩, out, _⟩ =>
    .ite (decide (1 ≤ (c : Int) ∧ (c : Int) ≤ 80 ∧ (n : Int) = (List.length (α := List Cell) rows : Int) ∧ (i : Int) = 0 ∧ List.length (α := List Cell) rows ≤ 1048576 ∧ List.length (α := Line) out + List.length (α := Line) (List.flatMap (U.foldL (Int.toNat c)) rows) ≤ 4194304) && List.all (α := List Cell) rows (fun l => decide (List.length l ≤ 1048576) && U.okP (List.length l) l))
      (.ret (List.append (α := Line) out (List.flatMap (U.foldL (Int.toNat c)) rows))) .fail
abbrev E70 : Env := M70 fun key x => bif Nat.beq key 6 then p70_0.ls (fun a => (T70 a).map X70_0) x else none
theorem L70 : LoopOK (evI 2) (E70.lend 0) (lc Tryd.f70 0) := by
  refine l70_0 (T := T70) (fun x => rfl) ?_
  rintro ⟨⟨c, rows, n, i, z⟩, out, z1⟩ r hh
  obtain ⟨g1, g2⟩ := pre_val hh
  rw [Bool.and_eq_true] at g1
  obtain ⟨g1, ga⟩ := g1
  have g1 : 1 ≤ (c : Int) ∧ (c : Int) ≤ 80 ∧ (n : Int) = (rows.length : Int) ∧ (i : Int) = 0 ∧ rows.length ≤ 1048576 ∧ out.length + (List.flatMap (U.foldL (Int.toNat c)) rows).length ≤ 4194304 := of_decide_eq_true g1
  obtain ⟨c1, c2, rfl, rfl, c3, c4⟩ := g1
  cases g2
  have := Rounds.flatA (B := b70_0) rows (fun i s => ((c, rows, (rows.length : Int), (i : Int), ()), s, ())) (U.foldL (Int.toNat c)) (fun s => s) 4194304 (fun i s hi hv => ?_) (fun s => ?_) rows.length 0 out (by omega) (by rw [List.drop_zero]; exact c4)
  · rw [List.drop_zero] at this
    exact this
  · have e : rget (.sl celk) rows (i : Int) = rows[i] := by rw [rget_nat]; exact getD_el hi
    have ok : (decide (rows[i].length ≤ 1048576) && U.okP rows[i].length rows[i]) = true := List.all_eq_true.1 ga _ (List.getElem_mem hi)
    rw [Bool.and_eq_true] at ok
    have o1 : rows[i].length ≤ 1048576 := of_decide_eq_true ok.1
    have e9 : decide ((i : Int) < (rows.length : Int)) = true := decide_eq_true (by omega)
    have e8 : decide ((s.length + (U.foldL (Int.toNat c) rows[i]).length) * 32 ≤ 140737488355328) = true := decide_eq_true (by
      rw [List.drop_eq_getElem_cons hi, List.flatMap_cons, List.length_append] at hv
      omega)
    simp only [b70_0, B70_0, Tr.val, e, e8, e9, c1, c2, o1, ok.2, inB_nat hi, and_self, decide_true, Bool.and_self, cond_true, wrap64_nat (show i ≤ 1048576 by omega)]
  · simp only [b70_0, B70_0, Tr.val, show ¬ ((rows.length : Int) < (rows.length : Int)) by omega, decide_false, cond_false]
def d70 (a : List Line) (b : Int) : Tr (List Line × Int) :=
 let v1 : List (List Cell) × Int := (bif U.may a then (U.joinL a [], (0 : Int)) else ([], (1 : Int)))
 let v2 : Int := (v1.snd)
 let v3 : List (List Cell) := (v1.fst)
 let v4 : Int := ((↑(List.length v3) : Int))
 let v5 : List Line := (List.flatMap (U.foldL (Int.toNat b)) v3)
 let v6 : Int := ((↑(List.length v3) : Int))
 Tr.ite (U.okl a && decide (U.cells a ≤ (1048576 : Nat))) (Tr.ite (!decide (v2 = (0 : Int))) (Tr.ret ([], (1 : Int))) (Tr.ite (decide (b < (1 : Int))) (Tr.ret ([], (1 : Int))) (Tr.ite (decide ((80 : Int) < b)) (Tr.ret ([], (1 : Int))) (Tr.ite (decide ((1 : Int) ≤ b ∧ b ≤ (80 : Int) ∧ v6 = v4 ∧ (0 : Int) = (0 : Int) ∧ List.length v3 ≤ (1048576 : Nat) ∧ (0 : Nat) + List.length v5 ≤ (4194304 : Nat)) && List.all v3 fun (l : List Cell) => decide (List.length l ≤ (1048576 : Nat)) && U.okP (List.length l) l) (Tr.ret (List.append [] v5, (0 : Int))) Tr.fail)))) Tr.fail
def e70 (r : List Line × Int) : FRes := { rs := Slot.tup [AV.one (Leaf.dat (Kd.sl link) r.fst), AV.one (Leaf.dat (.int .i64) r.snd)], upd := [], new := [] }
@[reducible] def a70 : List AK := [AK.d (Kd.sl link), AK.d (.int .i64)]
@[reducible] def b70 : List BK := []
theorem t70 (a : List Line) (b : Int) : evFn (E70) Tryd.f70 [PM.data (Kd.sl link), PM.data (.int .i64)] (akAV a70 (a, b, ())) (bkBs b70 ()) = (d70 a b).map e70 := by kernel_rfl
def s70 (C : akT a70 → Bool) (G : akT a70 → List Line × Int) : FSpec := aspec a70 b70 e70 (fun x _ => C x) (fun x _ => G x)
theorem k70 {C : akT a70 → Bool} {G : akT a70 → List Line × Int} (hd : ∀ (a : List Line) (b : Int), C (a, b, ()) = true → (d70 a b).val = some (G (a, b, ()))) (IO : ItOK Tryd.prog (E70) := by exact itOK_none rfl) (L : ∀ c, Tryd.f70.body = some c → LsOK (evI 2) ((E70).lend 0) c := by exact fun c _ => LsOK_none rfl c) : SpecOK Tryd.prog E0 70 (s70 C G) :=
  aspec_ok (ak := a70) (bl := b70) (e := e70) (c := fun x _ => C x) (g := fun x _ => G x) (E0 := E0) (E := E70) tab AG70 rfl rfl hm Tryd.func70 (by kernel_rfl) [PM.data (Kd.sl link), PM.data (.int .i64)] (fun X Y H => by obtain ⟨a, ⟨b, _⟩⟩ := X; exact val_of (t70 a b) (hd a b H)) IO L
end Go.Proofs.YtmnbcnhpklejcaaDoor
namespace U
def flowL (l : List Ln) (n : Nat) : List Ln := (joinL l []).flatMap (foldL n)
end U
namespace Go.Proofs.YtmnbcnhpklejcaaDoor
abbrev w70 : FSpec := s70 (fun x => U.okl x.1 && decide (U.cells x.1 ≤ 1048576)) fun x => bif U.may x.1 && (decide (1 ≤ (x.2.1 : Int)) && decide ((x.2.1 : Int) ≤ 80)) then (U.flowL x.1 x.2.1.toNat, (0 : Int)) else ([], (1 : Int))
theorem wk70 : SpecOK Tryd.prog E0 70 w70 := by
  refine k70 (fun l c H => ?_) (L := ls_ok (lcs := [lc Tryd.f70 0]) (rgs := []) (by kernel_rfl) (by kernel_rfl) L70 trivial)
  have H : (U.okl l && decide (U.cells l ≤ 1048576)) = true := H
  have H' := H
  rw [Bool.and_eq_true] at H
  obtain ⟨gk, g2⟩ := H
  have g2 : U.cells l ≤ 1048576 := of_decide_eq_true g2
  show _ = some (bif U.may l && (decide (1 ≤ c) && decide (c ≤ 80)) then (U.flowL l c.toNat, (0 : Int)) else ([], (1 : Int)))
  simp only [d70, Tr.val, H', cond_true]
  cases hm : U.may l with
  | false => simp only [cond_false, Bool.false_and, show ¬ ((1 : Int) = 0) by decide, decide_false, Bool.not_false, cond_true]
  | true =>
    by_cases c1 : 1 ≤ c
    · by_cases c2 : c ≤ 80
      · rw [U.may_mayL, Bool.and_eq_true] at hm
        obtain ⟨j1, j2⟩ := U.joinL_good l [] (U.mayL_fit hm.1 gk) .nil
        have j3 : l.length ≤ 200 := by have := of_decide_eq_true hm.2; omega
        have a2 : ((U.joinL l []).all fun l => decide (List.length l ≤ 1048576) && U.okP (List.length l) l) = true := List.all_eq_true.2 fun r hr => by
          obtain ⟨g3, g4⟩ := j1 r hr
          rw [Bool.and_eq_true]
          exact ⟨decide_eq_true (by simp only [List.length_nil] at g4; omega), U.wh_okP g3.1 _ (Nat.le_refl _)⟩
        have j4 := U.flat_len (Int.toNat c) (U.joinL l [])
        have j5 := U.join_sum l []
        simp only [List.length_nil] at j5
        have a3 : 0 + (List.flatMap (U.foldL (Int.toNat c)) (U.joinL l [])).length ≤ 4194304 := by omega
        have a4 : (U.joinL l []).length ≤ 1048576 := by omega
        simp only [cond_true, c1, c2, show ¬ c < 1 by omega, show ¬ (80 : Int) < c by omega, a2, a3, a4, List.length_nil, decide_true, decide_false, Bool.not_true, Bool.and_self, and_self, cond_false]
        rfl
      · simp only [cond_true, c1, c2, show ¬ c < 1 by omega, show (80 : Int) < c by omega, decide_true, decide_false, Bool.not_true, Bool.true_and, cond_false]
    · simp only [cond_true, c1, show c < 1 by omega, decide_true, decide_false, Bool.not_true, Bool.true_and, Bool.false_and, cond_false]
end Go.Proofs.YtmnbcnhpklejcaaDoor
namespace U
open Go.Proofs.YtmnbcnhpklejcaaDoor
theorem fillL_len (l : List Cl) (n : Nat) : (fillL l n).length = max l.length n := by
  unfold fillL
  rw [List.length_append, List.length_replicate]
  omega
theorem foldl_lines (n : Nat) : ∀ (ps : List (List Cl)) (s : List Ln × List Cl), s.2.length ≤ n → (∀ y ∈ s.1, y.1.length = n) → ∀ y ∈ (ps.foldl (stepP n) s).1, y.1.length = n
  | [], s, _, h => h
  | p :: ps, s, hn, h => by
    rw [List.foldl_cons]
    have hs := foldl_small n [p] s hn
    refine foldl_lines n ps (stepP n s p) hs.1 fun y hy => ?_
    unfold stepP at hy
    by_cases p1 : n < p.length
    · rw [decide_eq_true p1] at hy; exact h y hy
    · by_cases p2 : n < s.2.length + p.length
      · rw [decide_eq_false p1, decide_eq_true p2] at hy
        rcases List.mem_append.1 hy with hy | hy
        · exact h y hy
        · rw [List.mem_singleton] at hy
          subst hy
          show (fillL s.2 n).length = n
          rw [fillL_len]; omega
      · rw [decide_eq_false p1, decide_eq_false p2] at hy; exact h y hy
theorem foldL_lines (n : Nat) (l : List Cl) : ∀ y ∈ foldL n l, y.1.length = n := by
  intro y hy
  unfold foldL at hy
  rcases List.mem_append.1 hy with hy | hy
  · exact foldl_lines n _ ([], []) (by simp) (by simp) y hy
  · rw [List.mem_singleton] at hy
    subst hy
    have := (foldl_small n (pcs l.length l) ([], []) (by simp)).1
    show (fillL _ n).length = n
    rw [fillL_len]; omega
theorem flowL_lines (n : Nat) (l : List Ln) : ∀ y ∈ flowL l n, y.1.length = n := by
  intro y hy
  obtain ⟨r, _, hr⟩ := List.mem_flatMap.1 hy
  exact foldL_lines n r y hr
theorem flowL_len (n : Nat) (l : List Ln) (h : (joinL l []).length ≤ l.length) : (flowL l n).length ≤ cells l + l.length := by
  unfold flowL
  have h1 := flat_len n (joinL l [])
  have h2 := join_sum l []
  simp only [List.length_nil] at h2
  omega
end U
end
