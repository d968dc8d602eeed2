/- Letters: the decoder's contracts. -/
import Derived.Test.YtmnbcnhpklejcaaDoorZEvUtfT
set_option linter.unusedVariables false
set_option linter.unusedSimpArgs false
set_option maxRecDepth 20000
namespace Go.Ev
def ib (b : Bool) : SRes := { rs := one (.dat .bool b) }
def ii (n : Int) : SRes := { rs := one (.dat (.int .i64) n) }
@[reducible] def spk : Kd := .pr (.int .i32) (.pr (.int .i32) .un)
end Go.Ev
namespace U
open Go Go.Ev
def valid (r : Int) : Bool := (decide (0 ≤ r) && decide (r < 55296)) || (decide (57343 < r) && decide (r ≤ 1114111))
def zero : List (Int × Int × Unit) := [(768, 879, ()), (8203, 8205, ()), (65024, 65039, ())]
def wide : List (Int × Int × Unit) := [(4352, 4447, ()), (12353, 19903, ()), (19968, 40959, ()), (44032, 55203, ()), (63744, 64255, ()), (65281, 65376, ()), (127744, 129791, ()), (131072, 262141, ())]
def inn (a b c : Int) : Bool := decide (b ≤ a) && decide (a ≤ c)
def span (x : Int × Int × Unit) (r : Int) : Bool := decide (x.1 ≤ r) && decide (r ≤ x.2.1)
end U
namespace Go.Proofs.YtmnbcnhpklejcaaDoor
open Go.Ev Go.RowKit
abbrev rb (b : Bool) : FRes := ⟨one (.dat .bool b), [], []⟩
abbrev ri (n : Int) : FRes := ⟨one (.dat (.int .i64) n), [], []⟩
def w154 : FSpec := dspec [.str] fun x => ib (U.full x.1)
def w169 : FSpec := dspec [.str] fun x => { rs := .tup [.one (.dat (.int .i32) (U.dec x.1).1), .one (.dat (.int .i64) (U.dec x.1).2)] }
def w156 : FSpec := dspec [.int .i32] fun x => ib (U.valid x.1)
def w158 : FSpec := dspec [] fun _ => { rs := one (.dat (.sl spk) U.zero) }
def w159 : FSpec := dspec [] fun _ => { rs := one (.dat (.sl spk) U.wide) }
def w138 : FSpec := dspec [.int .i64, .int .i64, .int .i64] fun x => ib (U.inn x.1 x.2.1 x.2.2.1)
def w171 : FSpec := bspec [.d spk, .c (.ptr 0 0)] [.box [.d (.int .i32)]] fun x y => { rs := one (.dat .bool (U.span x.1 y.1.1)), upd := [.box [.dat (.int .i32) y.1.1]] }

theorem inB_true {i : Int} {n : Nat} (h : 0 ≤ i ∧ i < n) : inB i n = true := by simp [inB, h]

theorem wrap32_id {n : Int} (h0 : -2147483648 ≤ n) (h1 : n ≤ 2147483647) : IntKind.i32.wrap n = n := by
  rw [IntKind.wrap_i32]; omega

theorem m63 {x : Int} (h0 : 0 ≤ x) (h1 : x ≤ 255) : IntKind.u8.wrap (((BitVec.ofInt 8 x &&& BitVec.ofInt 8 63).toNat : Int)) = x % 64 := u8_and63 x h0 (by omega)
theorem m31 {x : Int} (h0 : 0 ≤ x) (h1 : x ≤ 255) : IntKind.u8.wrap (((BitVec.ofInt 8 x &&& BitVec.ofInt 8 31).toNat : Int)) = x % 32 := u8_and31 x h0 (by omega)
theorem m15 {x : Int} (h0 : 0 ≤ x) (h1 : x ≤ 255) : IntKind.u8.wrap (((BitVec.ofInt 8 x &&& BitVec.ofInt 8 15).toNat : Int)) = x % 16 := u8_and15 x h0 (by omega)
theorem m7 {x : Int} (h0 : 0 ≤ x) (h1 : x ≤ 255) : IntKind.u8.wrap (((BitVec.ofInt 8 x &&& BitVec.ofInt 8 7).toNat : Int)) = x % 8 := u8_and7 x h0 (by omega)
theorem o6 {x y : Int} (hx0 : 0 ≤ x) (hx : x % 64 = 0) (hx1 : x < 2147483648) (h0 : 0 ≤ y) (h1 : y < 64) : IntKind.i32.wrap (((BitVec.ofInt 32 x ||| BitVec.ofInt 32 y).toNat : Int)) = x + y := i32_or6 x y hx0 hx hx1 h0 h1
theorem o12 {x y : Int} (hx0 : 0 ≤ x) (hx : x % 4096 = 0) (hx1 : x < 2147483648) (h0 : 0 ≤ y) (h1 : y < 4096) : IntKind.i32.wrap (((BitVec.ofInt 32 x ||| BitVec.ofInt 32 y).toNat : Int)) = x + y := i32_or12 x y hx0 hx hx1 h0 h1
theorem o18 {x y : Int} (hx0 : 0 ≤ x) (hx : x % 262144 = 0) (hx1 : x < 2147483648) (h0 : 0 ≤ y) (h1 : y < 262144) : IntKind.i32.wrap (((BitVec.ofInt 32 x ||| BitVec.ofInt 32 y).toNat : Int)) = x + y := i32_or18 x y hx0 hx hx1 h0 h1

theorem v154 (s : ByteArray) : (evFn (E0.withFns []) Tryd.f154 [.data .bool] (toAVs [.str] (s, ())) []).val = some (rb (U.full s)) := by
  have b0 := bt_ge s 0
  have b1 := bt_lt s 0
  obtain ⟨x0, x1, big, hq, f0, f1, hl, hh, hx⟩ := U.row b0 b1
  have hq' : IntKind.i64.wrap (IntKind.u8.wrap (((BitVec.ofInt 8 (rget (.int .u8) U.firstL (bt s 0)) &&& BitVec.ofInt 8 7).toNat : Int))) = _ := hq
  rw [t154 s rfl rfl rfl rfl rfl]
  unfold U.full
  rw [hq']
  have i0 : inB (bt s 0) 256 = true := inB_true ⟨b0, by omega⟩
  have i1 : inB ((rget (.int .u8) U.firstL (bt s 0) : Int).fdiv 16) 16 = true := inB_true ⟨f0, f1⟩
  by_cases c0 : s.size = 0
  · simp [Tr.val, c0]; rfl
  have c0' : ¬ ((s.size : Int) = 0) := by omega
  have i2 : inB 0 s.size = true := inB_true ⟨by omega, by omega⟩
  rcases U.need_cases (bt s 0) with ⟨hn, hc⟩ | hn | hn
  · have e : ¬ (s.size : Int) < 1 := by omega
    have e1 : (decide ((0 : Int) ≤ (s.size : Int))) = true := by simp
    have e2 : (decide ((1 : Int) ≤ (s.size : Int))) = true := by simp; omega
    simp only [Tr.val, c0, c0', i0, i2, hn, hc, if_true, e1, e2, decide_false, cond_false, cond_true]
    rfl
  · have e2 : (decide ((1 : Int) ≤ (s.size : Int))) = true := by simp; omega
    have e3 : (decide ((0 : Int) ≤ (s.size : Int))) = true := by simp
    have hc : ¬ bt s 0 < 128 := by
      intro h
      unfold U.need at hn
      rw [if_pos h] at hn
      omega
    simp only [Tr.val, c0, c0', i0, i2, hn, hc, if_false, e2, e3, decide_false, cond_false, cond_true, if_pos (show (0 : Int) ≤ 1 by omega)]
    rfl
  · have hn2 : 2 ≤ U.need (bt s 0) := by omega
    have hc : ¬ bt s 0 < 128 := by omega
    have hn1 : ¬ U.need (bt s 0) ≤ 1 := by omega
    have hlo := hl hn2
    have hhi := hh hn2
    simp only [Tr.val, c0, c0', i0, i1, i2, hc, hn1, if_false, hlo, hhi, decide_false, cond_false, cond_true]
    by_cases c1 : U.need (bt s 0) ≤ (s.size : Int)
    · simp only [c1, decide_true, cond_true]; try rfl
    · simp only [c1, decide_false, cond_false]
      unfold U.ok1 U.cont
      by_cases c2 : 1 < s.size
      · have c2' : (1 : Int) < (s.size : Int) := by omega
        have i3 : inB 1 s.size = true := inB_true ⟨by omega, by omega⟩
        by_cases c3 : bt s 1 < U.lo (bt s 0)
        · have c4 : ¬ U.lo (bt s 0) ≤ bt s 1 := by omega
          simp only [c2, c2', i3, c3, c4, decide_true, decide_false, cond_true, cond_false, Bool.false_and, Bool.not_false, Bool.and_self]; try rfl
        · have c4 : U.lo (bt s 0) ≤ bt s 1 := by omega
          by_cases c5 : U.hi (bt s 0) < bt s 1
          · have c6 : ¬ bt s 1 ≤ U.hi (bt s 0) := by omega
            simp only [c2, c2', i3, c3, c4, c5, c6, decide_true, decide_false, cond_true, cond_false, Bool.and_false, Bool.not_false, Bool.and_self]; try rfl
          · have c6 : bt s 1 ≤ U.hi (bt s 0) := by omega
            by_cases c7 : 2 < s.size
            · have c7' : (2 : Int) < (s.size : Int) := by omega
              have i4 : inB 2 s.size = true := inB_true ⟨by omega, by omega⟩
              by_cases c8 : bt s 2 < 128
              · have c9 : ¬ 128 ≤ bt s 2 := by omega
                simp only [c2, c2', i3, i4, c3, c4, c5, c6, c7, c7', c8, c9, decide_true, decide_false, cond_true, cond_false, Bool.and_false, Bool.false_and, Bool.not_false, Bool.not_true, Bool.and_self]; try rfl
              · have c9 : 128 ≤ bt s 2 := by omega
                by_cases c10 : 191 < bt s 2
                · have c11 : ¬ bt s 2 ≤ 191 := by omega
                  simp only [c2, c2', i3, i4, c3, c4, c5, c6, c7, c7', c8, c9, c10, c11, decide_true, decide_false, cond_true, cond_false, Bool.and_false, Bool.false_and, Bool.not_false, Bool.not_true, Bool.and_self]; try rfl
                · have c11 : bt s 2 ≤ 191 := by omega
                  simp only [c2, c2', i3, i4, c3, c4, c5, c6, c7, c7', c8, c9, c10, c11, decide_true, decide_false, cond_true, cond_false, Bool.and_false, Bool.false_and, Bool.not_false, Bool.not_true, Bool.and_self]; try rfl
            · have c7' : ¬ (2 : Int) < (s.size : Int) := by omega
              simp only [c2, c2', i3, c3, c4, c5, c6, c7, c7', decide_true, decide_false, cond_true, cond_false, Bool.and_false, Bool.false_and, Bool.not_false, Bool.not_true, Bool.and_self]; try rfl
      · have c2' : ¬ (1 : Int) < (s.size : Int) := by omega
        have c7 : ¬ 2 < s.size := by omega
        have c7' : ¬ (2 : Int) < (s.size : Int) := by omega
        simp only [c2, c2', c7, c7', decide_true, decide_false, cond_true, cond_false, Bool.and_false, Bool.false_and, Bool.not_false, Bool.not_true, Bool.and_self]; try rfl
theorem wk154 : SpecOK Tryd.prog E0 154 w154 := by
  refine dspec_ok (E0 := E0) (E := E0.withFns []) (fns := []) tab .nil rfl rfl hm Tryd.func154 (by kernel_rfl) [.data .bool] (fun x hx => ?_)
  obtain ⟨s, z⟩ := x
  exact v154 s

abbrev rd (x : Int × Int) : FRes := ⟨.tup [.one (.dat (.int .i32) x.1), .one (.dat (.int .i64) x.2)], [], []⟩

theorem keepb : ∀ x : Fin 256, IntKind.i32.wrap (((BitVec.ofInt 32 (IntKind.i32.wrap (((BitVec.ofInt 32 (IntKind.i32.wrap ((x.val : Nat) : Int)) &&& ~~~BitVec.ofInt 32 ((IntKind.i32.wrap (IntKind.i32.wrap 240 * 2147483648)).fdiv 2147483648)).toNat : Int))) |||
    BitVec.ofInt 32 (IntKind.i32.wrap (((BitVec.ofInt 32 65533 &&& BitVec.ofInt 32 ((IntKind.i32.wrap (IntKind.i32.wrap 240 * 2147483648)).fdiv 2147483648)).toNat : Int)))).toNat : Int)) = ((x.val : Nat) : Int) := by decide +kernel
theorem dropb : ∀ x : Fin 256, IntKind.i32.wrap (((BitVec.ofInt 32 (IntKind.i32.wrap (((BitVec.ofInt 32 (IntKind.i32.wrap ((x.val : Nat) : Int)) &&& ~~~BitVec.ofInt 32 ((IntKind.i32.wrap (IntKind.i32.wrap 241 * 2147483648)).fdiv 2147483648)).toNat : Int))) |||
    BitVec.ofInt 32 (IntKind.i32.wrap (((BitVec.ofInt 32 65533 &&& BitVec.ofInt 32 ((IntKind.i32.wrap (IntKind.i32.wrap 241 * 2147483648)).fdiv 2147483648)).toNat : Int)))).toNat : Int)) = 65533 := by decide +kernel
theorem keep_b {b : Int} (h0 : 0 ≤ b) (h1 : b ≤ 255) : IntKind.i32.wrap (((BitVec.ofInt 32 (IntKind.i32.wrap (((BitVec.ofInt 32 (IntKind.i32.wrap b) &&& ~~~BitVec.ofInt 32 ((IntKind.i32.wrap (IntKind.i32.wrap 240 * 2147483648)).fdiv 2147483648)).toNat : Int))) |||
    BitVec.ofInt 32 (IntKind.i32.wrap (((BitVec.ofInt 32 65533 &&& BitVec.ofInt 32 ((IntKind.i32.wrap (IntKind.i32.wrap 240 * 2147483648)).fdiv 2147483648)).toNat : Int)))).toNat : Int)) = b := by
  obtain ⟨n, rfl⟩ := Int.eq_ofNat_of_zero_le h0
  exact keepb ⟨n, by omega⟩
theorem drop_b {b : Int} (h0 : 0 ≤ b) (h1 : b ≤ 255) : IntKind.i32.wrap (((BitVec.ofInt 32 (IntKind.i32.wrap (((BitVec.ofInt 32 (IntKind.i32.wrap b) &&& ~~~BitVec.ofInt 32 ((IntKind.i32.wrap (IntKind.i32.wrap 241 * 2147483648)).fdiv 2147483648)).toNat : Int))) |||
    BitVec.ofInt 32 (IntKind.i32.wrap (((BitVec.ofInt 32 65533 &&& BitVec.ofInt 32 ((IntKind.i32.wrap (IntKind.i32.wrap 241 * 2147483648)).fdiv 2147483648)).toNat : Int)))).toNat : Int)) = 65533 := by
  obtain ⟨n, rfl⟩ := Int.eq_ofNat_of_zero_le h0
  exact dropb ⟨n, by omega⟩

theorem lo_ge (c : Int) : 128 ≤ U.lo c := by
  unfold U.lo
  repeat' split
  all_goals omega
theorem hi_le (c : Int) : U.hi c ≤ 191 := by
  unfold U.hi
  repeat' split
  all_goals omega

theorem v169 (s : ByteArray) : (evFn (E0.withFns []) Tryd.f169 [.data (.int .i32), .data (.int .i64)] (toAVs [.str] (s, ())) []).val = some (rd (U.dec s)) := by
  have b0 := bt_ge s 0
  have b1 := bt_lt s 0
  have b2 := bt_ge s 1
  have b3 := bt_lt s 1
  have b4 := bt_ge s 2
  have b5 := bt_lt s 2
  have b6 := bt_ge s 3
  have b7 := bt_lt s 3
  obtain ⟨x0, x1, big, hq, f0, f1, hl, hh, hx⟩ := U.row b0 b1
  have hq' : IntKind.i64.wrap (IntKind.u8.wrap (((BitVec.ofInt 8 (rget (.int .u8) U.firstL (bt s 0)) &&& BitVec.ofInt 8 7).toNat : Int))) = _ := hq
  rw [t169 s rfl rfl rfl rfl rfl rfl rfl rfl rfl rfl rfl]
  unfold U.dec
  rw [hq', m63 b2 b3, m63 b4 b5, m63 b6 b7, m31 b0 b1, m15 b0 b1, m7 b0 b1]
  have i0 : inB (bt s 0) 256 = true := inB_true ⟨b0, by omega⟩
  have i1 : inB ((rget (.int .u8) U.firstL (bt s 0) : Int).fdiv 16) 16 = true := inB_true ⟨f0, f1⟩
  by_cases c0 : s.size = 0
  · have c0' : (s.size : Int) < 1 := by omega
    simp only [Tr.val, c0, c0', decide_true, cond_true]; rfl
  have c0' : ¬ (s.size : Int) < 1 := by omega
  have i2 : inB 0 s.size = true := inB_true ⟨by omega, by omega⟩
  rcases U.need_cases (bt s 0) with ⟨hn, hc⟩ | hn | hn
  · have hbig := big.2 (by omega)
    have hxx := hx (by omega)
    rw [if_pos hc] at hxx
    simp only [Tr.val, c0, c0', i0, i2, hn, hxx, keep_b b0 b1, decide_false, decide_true, cond_false, cond_true, show ¬ ((1 : Int) = 0) by omega, show (240 : Int) ≤ 240 by omega]
  · have hc : ¬ bt s 0 < 128 := by
      intro h
      unfold U.need at hn
      rw [if_pos h] at hn
      omega
    have hxx := hx (by omega)
    rw [if_neg hc] at hxx
    simp only [Tr.val, c0, c0', i0, i2, hn, hxx, drop_b b0 b1, decide_false, decide_true, cond_false, cond_true, show (240 : Int) ≤ 241 by omega]
  · have hn2 : 2 ≤ U.need (bt s 0) := by omega
    have hc : ¬ bt s 0 < 128 := by omega
    have hn1 : ¬ U.need (bt s 0) ≤ 1 := by omega
    have hn0 : ¬ U.need (bt s 0) = 0 := by omega
    have hn11 : ¬ U.need (bt s 0) = 1 := by omega
    have hbig : ¬ (240 : Int) ≤ (rget (.int .u8) U.firstL (bt s 0) : Int) := fun h => hn1 (big.1 h)
    have hlo := hl hn2
    have hhi := hh hn2
    simp only [Tr.val, c0, c0', i0, i1, i2, hc, hn1, hn0, hn11, hbig, if_false, hlo, hhi, decide_false, decide_true, cond_false, cond_true]
    by_cases c1 : (s.size : Int) < U.need (bt s 0)
    · simp only [c1, decide_true, cond_true]
    · have i3 : inB 1 s.size = true := inB_true ⟨by omega, by omega⟩
      simp only [c1, i3, decide_false, cond_false, cond_true]
      unfold U.ok1 U.cont
      by_cases c3 : bt s 1 < U.lo (bt s 0)
      · have c4 : ¬ U.lo (bt s 0) ≤ bt s 1 := by omega
        simp only [c3, c4, decide_true, decide_false, cond_true, cond_false, Bool.false_and, Bool.not_false]
      · have c4 : U.lo (bt s 0) ≤ bt s 1 := by omega
        by_cases c5 : U.hi (bt s 0) < bt s 1
        · have c6 : ¬ bt s 1 ≤ U.hi (bt s 0) := by omega
          simp only [c3, c4, c5, c6, decide_true, decide_false, cond_true, cond_false, Bool.and_false, Bool.not_false]
        · have c6 : bt s 1 ≤ U.hi (bt s 0) := by omega
          have l1 := lo_ge (bt s 0)
          have l2 := hi_le (bt s 0)
          simp only [c3, c4, c5, c6, decide_true, decide_false, cond_true, cond_false, Bool.and_self, Bool.not_true]
          have w1 : IntKind.i32.wrap (bt s 1 % 64) = bt s 1 - 128 := by rw [wrap32_id (by omega) (by omega)]; omega
          by_cases d2 : U.need (bt s 0) = 2
          · have e0 : IntKind.i32.wrap (bt s 0 % 32) = bt s 0 - 192 := by rw [wrap32_id (by omega) (by omega)]; omega
            have e1 : IntKind.i32.wrap ((bt s 0 - 192) * 64) = (bt s 0 - 192) * 64 := wrap32_id (by omega) (by omega)
            simp only [d2, w1, e0, e1, decide_true, cond_true, show (2 : Int) ≤ 2 by omega]
            rw [o6 (by omega) (by omega) (by omega) (by omega) (by omega)]
            rfl
          · have d2' : ¬ U.need (bt s 0) ≤ 2 := by omega
            have i4 : inB 2 s.size = true := inB_true ⟨by omega, by omega⟩
            simp only [d2, d2', i4, decide_false, cond_false, cond_true]
            by_cases c8 : bt s 2 < 128
            · have c9 : ¬ 128 ≤ bt s 2 := by omega
              simp only [c8, c9, decide_true, decide_false, cond_true, cond_false, Bool.false_and, Bool.not_false]
            · have c9 : 128 ≤ bt s 2 := by omega
              by_cases c10 : 191 < bt s 2
              · have c11 : ¬ bt s 2 ≤ 191 := by omega
                simp only [c8, c9, c10, c11, decide_true, decide_false, cond_true, cond_false, Bool.and_false, Bool.not_false]
              · have c11 : bt s 2 ≤ 191 := by omega
                simp only [c8, c9, c10, c11, decide_true, decide_false, cond_true, cond_false, Bool.and_self, Bool.not_true]
                have w2 : IntKind.i32.wrap (bt s 2 % 64) = bt s 2 - 128 := by rw [wrap32_id (by omega) (by omega)]; omega
                have w11 : IntKind.i32.wrap ((bt s 1 - 128) * 64) = (bt s 1 - 128) * 64 := wrap32_id (by omega) (by omega)
                by_cases d3 : U.need (bt s 0) = 3
                · have e0 : IntKind.i32.wrap (bt s 0 % 16) = bt s 0 - 224 := by rw [wrap32_id (by omega) (by omega)]; omega
                  have e1 : IntKind.i32.wrap ((bt s 0 - 224) * 4096) = (bt s 0 - 224) * 4096 := wrap32_id (by omega) (by omega)
                  simp only [d3, w1, w2, w11, e0, e1, decide_true, cond_true, show (3 : Int) ≤ 3 by omega]
                  rw [o12 (x := (bt s 0 - 224) * 4096) (y := (bt s 1 - 128) * 64) (by omega) (by omega) (by omega) (by omega) (by omega), o6 (x := (bt s 0 - 224) * 4096 + (bt s 1 - 128) * 64) (y := bt s 2 - 128) (by omega) (by omega) (by omega) (by omega) (by omega)]
                  rfl
                · have d3' : ¬ U.need (bt s 0) ≤ 3 := by omega
                  have d4 : U.need (bt s 0) = 4 := by omega
                  have i5 : inB 3 s.size = true := inB_true ⟨by omega, by omega⟩
                  simp only [d3, d3', i5, decide_false, cond_false, cond_true]
                  by_cases c12 : bt s 3 < 128
                  · have c13 : ¬ 128 ≤ bt s 3 := by omega
                    simp only [c12, c13, decide_true, decide_false, cond_true, cond_false, Bool.false_and, Bool.not_false]
                  · have c13 : 128 ≤ bt s 3 := by omega
                    by_cases c14 : 191 < bt s 3
                    · have c15 : ¬ bt s 3 ≤ 191 := by omega
                      simp only [c12, c13, c14, c15, decide_true, decide_false, cond_true, cond_false, Bool.and_false, Bool.not_false]
                    · have c15 : bt s 3 ≤ 191 := by omega
                      have e0 : IntKind.i32.wrap (bt s 0 % 8) = bt s 0 - 240 := by rw [wrap32_id (by omega) (by omega)]; omega
                      have e1 : IntKind.i32.wrap ((bt s 0 - 240) * 262144) = (bt s 0 - 240) * 262144 := wrap32_id (by omega) (by omega)
                      have w12 : IntKind.i32.wrap ((bt s 1 - 128) * 4096) = (bt s 1 - 128) * 4096 := wrap32_id (by omega) (by omega)
                      have w21 : IntKind.i32.wrap ((bt s 2 - 128) * 64) = (bt s 2 - 128) * 64 := wrap32_id (by omega) (by omega)
                      have w3 : IntKind.i32.wrap (bt s 3 % 64) = bt s 3 - 128 := by rw [wrap32_id (by omega) (by omega)]; omega
                      simp only [c12, c13, c14, c15, w1, w2, w12, w21, w3, e0, e1, decide_true, decide_false, cond_true, cond_false, Bool.and_self, Bool.not_true]
                      rw [o18 (x := (bt s 0 - 240) * 262144) (y := (bt s 1 - 128) * 4096) (by omega) (by omega) (by omega) (by omega) (by omega), o12 (x := (bt s 0 - 240) * 262144 + (bt s 1 - 128) * 4096) (y := (bt s 2 - 128) * 64) (by omega) (by omega) (by omega) (by omega) (by omega), o6 (x := (bt s 0 - 240) * 262144 + (bt s 1 - 128) * 4096 + (bt s 2 - 128) * 64) (y := bt s 3 - 128) (by omega) (by omega) (by omega) (by omega) (by omega)]
                      rfl
theorem wk169 : SpecOK Tryd.prog E0 169 w169 := by
  refine dspec_ok (E0 := E0) (E := E0.withFns []) (fns := []) tab .nil rfl rfl hm Tryd.func169 (by kernel_rfl) [.data (.int .i32), .data (.int .i64)] (fun x hx => ?_)
  obtain ⟨s, z⟩ := x
  exact v169 s
end Go.Proofs.YtmnbcnhpklejcaaDoor
