/- Bytes: laws of byte arrays, by their lists. -/
import Derived.Test.YtmnbcnhpklejcaaDoorZEvLoop
set_option linter.unusedVariables false
namespace Go.Ev

abbrev dI (k : IntKind) (n : Int) : Slot := .av (.one (.dat (.int k) n))
abbrev dS (s : ByteArray) : Slot := .av (.one (.dat .str s))
abbrev dB (b : Bool) : Slot := .av (.one (.dat .bool b))

/-- The bytes of a string. -/
def bl (s : ByteArray) : List UInt8 := s.data.toList

theorem bl_len (s : ByteArray) : (bl s).length = s.size := by unfold bl; cases s; rfl
theorem bl_inj {s t : ByteArray} (h : bl s = bl t) : s = t := by
  cases s; cases t
  congr 1
  exact Array.ext' h
theorem bl_app (s t : ByteArray) : bl (s ++ t) = bl s ++ bl t := by
  unfold bl
  rw [ByteArray.data_append]
  simp
theorem bl_ext (s : ByteArray) (i j : Nat) : bl (s.extract i j) = ((bl s).take j).drop i := by
  unfold bl
  rw [ByteArray.data_extract]
  simp [List.extract_eq_take_drop, List.drop_take]
theorem bl_empty : bl ByteArray.empty = [] := rfl
theorem bl_mk (a : Array UInt8) : bl ⟨a⟩ = a.toList := rfl
theorem bt_eq {s : ByteArray} {i : Int} (h0 : 0 ≤ i) : bt s i = (((bl s).getD i.toNat 0).toNat : Int) := by
  unfold bt bl
  simp [Array.getD_eq_getD_getElem?, List.getD]
theorem bt_ge (s : ByteArray) (i : Int) : 0 ≤ bt s i := by unfold bt; omega
theorem bt_lt (s : ByteArray) (i : Int) : bt s i ≤ 255 := by
  unfold bt
  have := UInt8.toNat_lt (s.data.getD i.toNat 0)
  omega
theorem drop_at {l : List UInt8} {i : Nat} (h : i < l.length) : l.drop i = l.getD i 0 :: l.drop (i + 1) := by
  rw [List.drop_eq_getElem_cons h]
  simp [List.getD, h]
theorem wrap64_id {n : Int} (h0 : -9223372036854775808 ≤ n) (h1 : n ≤ 9223372036854775807) : IntKind.i64.wrap n = n := by
  simp [IntKind.wrap, IntKind.signed, IntKind.bits]
  omega
theorem wrap8_eq (n : Int) : IntKind.u8.wrap n = n % 256 := by
  simp [IntKind.wrap, IntKind.signed, IntKind.bits]
end Go.Ev
namespace Go.Ev
theorem wrap64_byte {n : Int} (h0 : 0 ≤ n) (h1 : n ≤ 1000000) : IntKind.i64.wrap n = n := wrap64_id (by omega) (by omega)
theorem or_bytes {a b : Int} (a0 : 0 ≤ a) (a1 : a ≤ 255) (b0 : 0 ≤ b) (b1 : b ≤ 255) : ((BitVec.ofInt 64 (a * 256) ||| BitVec.ofInt 64 b).toNat : Int) = a * 256 + b := by
  obtain ⟨m, rfl⟩ := Int.eq_ofNat_of_zero_le a0
  obtain ⟨k, rfl⟩ := Int.eq_ofNat_of_zero_le b0
  have e1 : BitVec.ofInt 64 ((m : Int) * 256) = BitVec.ofNat 64 (m * 256) := by
    rw [show ((m : Int) * 256) = ((m * 256 : Nat) : Int) by simp]
    exact BitVec.ofInt_natCast ..
  have e2 : BitVec.ofInt 64 (k : Int) = BitVec.ofNat 64 k := BitVec.ofInt_natCast ..
  rw [e1, e2, BitVec.toNat_or, BitVec.toNat_ofNat, BitVec.toNat_ofNat]
  rw [Nat.mod_eq_of_lt (by omega), Nat.mod_eq_of_lt (by omega)]
  have := Nat.shiftLeft_add_eq_or_of_lt (a := m) (b := k) (i := 8) (by omega)
  rw [Nat.shiftLeft_eq, show (2 ^ 8 : Nat) = 256 from rfl] at this
  omega
end Go.Ev
