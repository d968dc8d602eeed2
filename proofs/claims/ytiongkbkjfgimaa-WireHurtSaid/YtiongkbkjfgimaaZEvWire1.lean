/- The wire's functions: sum, first, Right, frames. -/
import Derived.Test.YtiongkbkjfgimaaZEvWire0
import Derived.Test.YtiongkbkjfgimaaZEvTurn
set_option linter.unusedVariables false
set_option linter.unusedSimpArgs false
set_option maxRecDepth 20000
namespace Go.Proofs.Ytiongkbkjfgimaa
open Go.Ev Go.RowKit

/-! ### sum -/
def live34 (key : Nat) : List Nat := bif Nat.beq key 3 then [0, 3, 6, 7] else bif Nat.beq key 1003 then [3] else []
def g34 (v : List Slot) (h : Heap) : Option (Tr (Ex × VS)) :=
  match v, h with
  | [.av (.one (.dat .str s)), .av (.one (.dat (.int .u8) n)), .av (.one (.dat (.int .i64) l)), .av (.one (.dat (.int .i64) i))], [] =>
    some (.ite (decide (l = (ByteArray.size s : Int) ∧ 0 ≤ (i : Int) ∧ (i : Int) ≤ l ∧ l ≤ 1048576)) (.ret (.exit 0, ⟨17, [dI .u8 (W.sumL ((bl s).drop (Int.toNat i)) n)], []⟩)) .fail)
  | _, _ => none
def ls34 (key : Nat) (x : VS) : Option (Tr (Ex × VS)) := bif Nat.beq key 3 && Nat.beq x.n 17 then g34 x.v x.h else none
abbrev V34 (x : ByteArray × Int × Int × Int) : VS := ⟨17, [dS x.1, dI .u8 x.2.1, dI .i64 x.2.2.1, dI .i64 x.2.2.2], []⟩
def B34 (x : ByteArray × Int × Int × Int) : Tr ((ByteArray × Int × Int × Int) ⊕ (Ex × VS)) :=
  .ite (decide (x.2.2.2 < x.2.2.1)) (.ite (inB x.2.2.2 x.1.size) (.ret (.inl (x.1, IntKind.u8.wrap (x.2.1 + bt x.1 x.2.2.2), x.2.2.1, IntKind.i64.wrap (x.2.2.2 + 1)))) .fail)
    (.ret (.inr (.exit 0, ⟨17, [dI .u8 x.2.1], []⟩)))
abbrev E34 : Env := (E0.withFns []).loops live34 ls34

theorem run34 : ∀ (k : Nat) (s : ByteArray) (n i : Int), 0 ≤ i → i ≤ (s.size : Int) → (s.size : Int) ≤ 1048576 → (s.size : Int) - i < k →
    runB B34 k (s, n, s.size, i) = some (.exit 0, ⟨17, [dI .u8 (W.sumL ((bl s).drop i.toNat) n)], []⟩)
  | 0, s, n, i, h0, h1, h2, hk => by omega
  | k + 1, s, n, i, h0, h1, h2, hk => by
    by_cases hlt : i < (s.size : Int)
    · have e : (B34 (s, n, s.size, i)).val = some (.inl (s, IntKind.u8.wrap (n + bt s i), s.size, i + 1)) := by
        simp [B34, Tr.val, hlt, inB, h0, wrap64_id (show -9223372036854775808 ≤ i + 1 by omega) (by omega)]
      simp only [runB, e]
      rw [run34 k s _ (i + 1) (by omega) (by omega) h2 (by omega)]
      have hl : i.toNat < (bl s).length := by rw [bl_len]; omega
      rw [drop_at hl, W.sumL, bt_eq h0, show (i + 1).toNat = i.toNat + 1 by omega]
    · have e : (B34 (s, n, s.size, i)).val = some (.inr (.exit 0, ⟨17, [dI .u8 n], []⟩)) := by simp [B34, Tr.val, hlt]
      simp only [runB, e]
      rw [List.drop_eq_nil_of_le (by rw [bl_len]; omega)]
      rfl

theorem hB34 (x : ByteArray × Int × Int × Int) : (evC (evI 2) (lc Try.f34 0) (E34.lend 0) (unV [0, 3, 6, 7] (V34 x))).map (decL 0 [0, 3, 6, 7] [3]) = (B34 x).map (encL V34) := by
  obtain ⟨s, n, l, i⟩ := x
  kernel_rfl

theorem loop34 : LoopOK (evI 2) (E34.lend 0) (lc Try.f34 0) := by
  refine loopOK_of 3 [0, 3, 6, 7] [3] V34 B34 (by kernel_rfl) rfl rfl hB34 ?_
  rintro ⟨N, v, h⟩ tr r h1 h2
  replace h1 := at_key (show ls34 3 ⟨N, v, h⟩ = some tr from h1)
  obtain ⟨h1, rfl⟩ := h1
  · replace h1 : g34 v h = some tr := h1
    unfold g34 at h1
    split at h1
    · rename_i s n l i
      cases h1
      simp only [Tr.val] at h2
      cases hc : decide (l = (ByteArray.size s : Int) ∧ 0 ≤ (i : Int) ∧ (i : Int) ≤ l ∧ l ≤ 1048576) with
      | false => rw [hc] at h2; cases h2
      | true =>
        rw [hc] at h2
        simp only [decide_eq_true_eq] at hc
        obtain ⟨rfl, c1, c2, c3⟩ := hc
        cases h2
        exact ⟨(s, n, (s.size : Int), i), _, by kernel_rfl, run34 (((s.size : Int) - i).toNat + 1) s n i c1 c2 c3 (by omega)⟩
    · cases h1

theorem t34 (s : ByteArray) : evFn E34 Try.f34 [.data (.int .u8)] (toAVs [.str] (s, ())) [] =
    .ite (decide ((s.size : Int) = s.size ∧ (0 : Int) ≤ 0 ∧ (0 : Int) ≤ s.size ∧ (s.size : Int) ≤ 1048576)) (.ret ⟨one (.dat (.int .u8) (W.sumL ((bl s).drop (Int.toNat 0)) 0)), [], []⟩) .fail := by kernel_rfl

theorem wk34 : SpecOK Try.prog E0 34 w34 := by
  refine dspec_ok (E0 := E0) (E := E34) (fns := []) tab .nil rfl rfl hm Try.func34 (by kernel_rfl) [.data (.int .u8)] (fun x hx => ?_) (L := ls_ok (lcs := [lc Try.f34 0]) (rgs := []) (by kernel_rfl) (by kernel_rfl) loop34 trivial)
  obtain ⟨s, z⟩ := x
  have hs : s.size ≤ 1048576 := by simpa [small] using hx
  rw [t34]
  have : (decide ((s.size : Int) = s.size ∧ (0 : Int) ≤ 0 ∧ (0 : Int) ≤ s.size ∧ (s.size : Int) ≤ 1048576)) = true := by simp; omega
  rw [this]
  rfl

/-! ### first -/
def M1 : List (Nat × FSpec) := [(34, w34)]
theorem MA1 : AllFn Try.prog E0 M1 := .cons wk34 .nil

theorem t36 (s : ByteArray) {v1 : Int} {v2 : Int} {v3 : Int} {v4 : Int} {v5 : Int} {v6 : Int} {v7 : Int} {v8 : Int} {v9 : ByteArray}
    (h1 : bt s (2 : Int) = v1)
    (h2 : bt s (1 : Int) = v2)
    (h3 : bt s (0 : Int) = v3)
    (h4 : IntKind.i64.wrap v2 * (256 : Int) = v4)
    (h5 : (↑(BitVec.ofInt (64 : Nat) (IntKind.i64.wrap v4) ||| BitVec.ofInt (64 : Nat) (IntKind.i64.wrap v1)).toNat : Int) = v5)
    (h6 : (3 : Int) + IntKind.i64.wrap v5 = v6)
    (h7 : IntKind.i64.wrap v6 + (1 : Int) = v7)
    (h8 : IntKind.i64.wrap v7 - (1 : Int) = v8)
    (h9 : s.extract (0 : Nat) (IntKind.i64.wrap v8).toNat = v9)
    : evFn (E0.withFns M1) Try.f36 [PM.data (Kd.int IntKind.i64)] (toAVs [Kd.str] (s, ())) [] =
Tr.ite (decide (s = { data := #[] })) (Tr.ret { rs := Slot.av (AV.one (Leaf.dat (Kd.int IntKind.i64) (0 : Int))), upd := [], new := [] })
  (Tr.ite (inB (0 : Int) s.size)
    (Tr.ite (decide (v3 < (1 : Int))) (Tr.ret { rs := Slot.av (AV.one (Leaf.dat (Kd.int IntKind.i64) (-1 : Int))), upd := [], new := [] })
      (Tr.ite (inB (0 : Int) s.size)
        (Tr.ite (decide ((12 : Int) < v3)) (Tr.ret { rs := Slot.av (AV.one (Leaf.dat (Kd.int IntKind.i64) (-1 : Int))), upd := [], new := [] })
          (Tr.ite (decide ((↑s.size : Int) < (3 : Int))) (Tr.ret { rs := Slot.av (AV.one (Leaf.dat (Kd.int IntKind.i64) (0 : Int))), upd := [], new := [] })
            (Tr.ite (inB (1 : Int) s.size)
              (Tr.ite true
                (Tr.ite (inB (2 : Int) s.size)
                  (Tr.ite (decide ((512 : Int) < IntKind.i64.wrap v5)) (Tr.ret { rs := Slot.av (AV.one (Leaf.dat (Kd.int IntKind.i64) (-1 : Int))), upd := [], new := [] })
                    (Tr.ite (decide ((↑s.size : Int) < IntKind.i64.wrap v7)) (Tr.ret { rs := Slot.av (AV.one (Leaf.dat (Kd.int IntKind.i64) (0 : Int))), upd := [], new := [] })
                      (Tr.ite (decide ((0 : Int) ≤ IntKind.i64.wrap v8 ∧ IntKind.i64.wrap v8 ≤ (↑s.size : Int)))
                        (Tr.ite (small v9)
                          (Tr.ite (inB (IntKind.i64.wrap v8) s.size)
                            (Tr.ite (!decide (W.sum v9 = bt s (IntKind.i64.wrap v8))) (Tr.ret { rs := Slot.av (AV.one (Leaf.dat (Kd.int IntKind.i64) (-1 : Int))), upd := [], new := [] })
                              (Tr.ret { rs := Slot.av (AV.one (Leaf.dat (Kd.int IntKind.i64) (IntKind.i64.wrap v7))), upd := [], new := [] }))
                            Tr.fail)
                          Tr.fail)
                        Tr.fail)))
                  Tr.fail)
                Tr.fail)
              Tr.fail)))
        Tr.fail))
    Tr.fail) := by
  subst h1; subst h2; subst h3; subst h4; subst h5; subst h6; subst h7; subst h8; subst h9; kernel_rfl

theorem size_pos {s : ByteArray} (h : ¬ s = ByteArray.empty) : 0 < s.size := by
  rcases Nat.eq_zero_or_pos s.size with e | e
  · refine absurd (bl_inj ?_) h
    rw [bl_empty]
    exact List.length_eq_zero_iff.1 (by rw [bl_len]; exact e)
  · exact e

theorem ext_size (s : ByteArray) (i j : Nat) : (s.extract i j).size = min j s.size - i := by
  rw [← bl_len, bl_ext, List.length_drop, List.length_take, bl_len]

theorem wk36 : SpecOK Try.prog E0 36 w36 := by
  refine dspec_ok (E0 := E0) (E := E0.withFns M1) (fns := M1) tab MA1 rfl rfl hm Try.func36 (by kernel_rfl) [.data (.int .i64)] (fun x hx => ?_)
  obtain ⟨s, z⟩ := x
  have hs : s.size ≤ 1048576 := by simpa [small] using hx
  have b1 := bt_ge s 1
  have b1' := bt_lt s 1
  have b2 := bt_ge s 2
  have b2' := bt_lt s 2
  have n0 : 0 ≤ W.num s := by unfold W.num; omega
  have n1 : W.num s ≤ 65535 := by unfold W.num; omega
  rw [t36 s (v5 := W.num s) (v6 := W.num s + 3) (v7 := W.num s + 4) (v8 := W.num s + 3) (v9 := s.extract 0 (W.num s + 3).toNat) rfl rfl rfl rfl
    (by rw [wrap64_byte b1 (by omega), wrap64_byte (by omega : 0 ≤ bt s 1 * 256) (by omega), wrap64_byte b2 (by omega), or_bytes b1 b1' b2 b2']; rfl)
    (by rw [wrap64_byte n0 (by omega)]; omega) (by rw [wrap64_byte (by omega) (by omega)]; omega) (by rw [wrap64_byte (by omega) (by omega)]; omega) (by rw [wrap64_byte (by omega) (by omega)])]
  rw [wrap64_byte n0 (by omega), wrap64_byte (show 0 ≤ W.num s + 4 by omega) (by omega), wrap64_byte (show 0 ≤ W.num s + 3 by omega) (by omega)]
  show Tr.val _ = some (⟨one (.dat (.int .i64) (W.first s)), [], []⟩ : FRes)
  unfold W.first
  by_cases c0 : s = ByteArray.empty
  · simp [Tr.val, c0, show (ByteArray.empty = ({ data := #[] } : ByteArray)) from rfl]; rfl
  have hp := size_pos c0
  have c0' : ¬ s = ({ data := #[] } : ByteArray) := c0
  have i0 : inB 0 s.size = true := by simp [inB]; omega
  by_cases c1 : bt s 0 < 1
  · simp [Tr.val, c0, c0', i0, c1]; rfl
  by_cases c2 : 12 < bt s 0
  · simp [Tr.val, c0, c0', i0, c1, c2]; rfl
  by_cases c3 : (s.size : Int) < 3
  · simp [Tr.val, c0, c0', i0, c1, c2, c3]; rfl
  have i1 : inB 1 s.size = true := by simp [inB]; omega
  have i2 : inB 2 s.size = true := by simp [inB]; omega
  by_cases c4 : 512 < W.num s
  · simp [Tr.val, c0, c0', i0, c1, c2, c3, i1, i2, c4]; rfl
  by_cases c5 : (s.size : Int) < W.num s + 4
  · simp [Tr.val, c0, c0', i0, c1, c2, c3, i1, i2, c4, c5]; rfl
  have i3 : (decide ((0 : Int) ≤ W.num s + 3 ∧ W.num s + 3 ≤ (s.size : Int))) = true := by simp; omega
  have i4 : inB (W.num s + 3) s.size = true := by simp [inB]; omega
  have i5 : small (s.extract 0 (W.num s + 3).toNat) = true := by simp [small, ext_size]; omega
  by_cases c6 : W.sum (s.extract 0 (W.num s + 3).toNat) = bt s (W.num s + 3)
  · simp only [Tr.val, c0, c0', i0, c1, c2, c3, i1, i2, c4, c5, i3, i4, i5, c6, decide_true, decide_false, cond_true, cond_false, Bool.not_true, Bool.or_false]; rfl
  · simp only [Tr.val, c0, c0', i0, c1, c2, c3, i1, i2, c4, c5, i3, i4, i5, c6, decide_true, decide_false, cond_true, cond_false, Bool.not_false, Bool.or_false]; rfl

/-! ### Right, frames -/
def M2 : List (Nat × FSpec) := [(34, w34), (36, w36)]
theorem MA2 : AllFn Try.prog E0 M2 := .cons wk34 (.cons wk36 .nil)

theorem wk23 : SpecOK Try.prog E0 23 w23 := by
  refine dspec_ok (E0 := E0) (E := E0.withFns M2) (fns := M2) tab MA2 rfl rfl hm Try.func23 (by kernel_rfl) [.data .bool] (fun x hx => ?_)
  obtain ⟨⟨s, b, z⟩, z'⟩ := x
  have hs : small s = true := by simpa using hx
  have e : evFn (E0.withFns M2) Try.f23 [.data .bool] (toAVs [dk] ((s, b, z), z')) [] =
      .ite b (.ret ⟨one (.dat .bool (decide (s = ({ data := #[] } : ByteArray)))), [], []⟩) (.ite (small s) (.ret ⟨one (.dat .bool (decide (W.first s = (0 : Int)))), [], []⟩) .fail) := by kernel_rfl
  rw [e]
  cases b <;> simp only [Tr.val, cond_true, cond_false, hs] <;> rfl

theorem wk35 : SpecOK Try.prog E0 35 w35 := by
  refine dspec_ok (E0 := E0) (E := E0.withFns []) (fns := []) tab .nil rfl rfl hm Try.func35 (by kernel_rfl) [.raw] (fun x hx => ?_)
  obtain ⟨s, z⟩ := x
  have e : evFn (E0.withFns []) Try.f35 [.raw] (toAVs [.str] (s, z)) [] = .ret ⟨one (.fn 44 [0]), [], [.box [.dat .str s]]⟩ := by kernel_rfl
  rw [e]
  rfl
end Go.Proofs.Ytiongkbkjfgimaa
