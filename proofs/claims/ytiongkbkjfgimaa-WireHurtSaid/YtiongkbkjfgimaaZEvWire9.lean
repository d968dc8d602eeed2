/- Frames that are written are read. -/
import Derived.Test.YtiongkbkjfgimaaZEvWire8
set_option linter.unusedVariables false
set_option linter.unusedSimpArgs false
set_option maxRecDepth 20000
namespace W
open Go Go.Ev Go.Proofs.Ytiongkbkjfgimaa

theorem may_un {f : Fr} (h : may f = true) : 1 ≤ f.1 ∧ f.1 ≤ 12 ∧ f.2.1.size ≤ 512 := by
  obtain ⟨n, s, z⟩ := f
  have := may_iff.1 h
  exact ⟨this.1, this.2.1, (by omega : s.size ≤ 512)⟩
theorem bl_hd (f : Fr) : bl (hd f) = [UInt8.ofNat (IntKind.u8.wrap f.1).toNat, UInt8.ofNat (IntKind.u8.wrap ((f.2.1.size : Int) / 256)).toNat, UInt8.ofNat (IntKind.u8.wrap (f.2.1.size : Int)).toNat] ++ bl f.2.1 := by
  unfold hd
  rw [bl_app, strOf_bl]
  rfl
theorem bl_enc (f : Fr) : bl (enc f) = bl (hd f) ++ [UInt8.ofNat (sum (hd f)).toNat] := by
  unfold enc
  rw [bl_app, strOf_bl]
  rfl
theorem enc_size (f : Fr) : (enc f).size = f.2.1.size + 4 := by
  unfold enc
  rw [app_size, hd_size, strOf_size]
  rfl
theorem ofNat_toNat {n : Int} (h0 : 0 ≤ n) (h1 : n ≤ 255) : ((UInt8.ofNat n.toNat).toNat : Int) = n := by
  rw [UInt8.toNat_ofNat', Nat.mod_eq_of_lt (by omega)]
  omega
theorem bt_list {s : ByteArray} {l : List UInt8} (h : bl s = l) (i : Nat) : bt s (i : Int) = ((l.getD i 0).toNat : Int) := by
  rw [bt_eq (by omega), h]
  rfl

theorem enc_first {f : Fr} (h : may f = true) (t : ByteArray) : first (enc f ++ t) = (f.2.1.size : Int) + 4 ∧ frame (enc f ++ t) = f ∧ rest (enc f ++ t) = t := by
  obtain ⟨h1, h2, h3⟩ := may_un h
  have hb : bl (enc f ++ t) = [UInt8.ofNat (IntKind.u8.wrap f.1).toNat, UInt8.ofNat (IntKind.u8.wrap ((f.2.1.size : Int) / 256)).toNat, UInt8.ofNat (IntKind.u8.wrap (f.2.1.size : Int)).toNat] ++ (bl f.2.1 ++ ([UInt8.ofNat (sum (hd f)).toNat] ++ bl t)) := by
    rw [bl_app, bl_enc, bl_hd]
    simp only [List.append_assoc]
  have hsz : (enc f ++ t).size = f.2.1.size + 4 + t.size := by rw [app_size, enc_size]
  have e0 : bt (enc f ++ t) 0 = f.1 := by
    rw [show (0 : Int) = ((0 : Nat) : Int) from rfl, bt_list hb 0]
    show ((UInt8.ofNat (IntKind.u8.wrap f.1).toNat).toNat : Int) = f.1
    rw [wrap8_eq, ofNat_toNat (by omega) (by omega)]
    omega
  have e1 : bt (enc f ++ t) 1 = (f.2.1.size : Int) / 256 := by
    rw [show (1 : Int) = ((1 : Nat) : Int) from rfl, bt_list hb 1]
    show ((UInt8.ofNat (IntKind.u8.wrap ((f.2.1.size : Int) / 256)).toNat).toNat : Int) = _
    rw [wrap8_eq, ofNat_toNat (by omega) (by omega)]
    omega
  have e2 : bt (enc f ++ t) 2 = (f.2.1.size : Int) % 256 := by
    rw [show (2 : Int) = ((2 : Nat) : Int) from rfl, bt_list hb 2]
    show ((UInt8.ofNat (IntKind.u8.wrap (f.2.1.size : Int)).toNat).toNat : Int) = _
    rw [wrap8_eq, ofNat_toNat (by omega) (by omega)]
  have en : num (enc f ++ t) = (f.2.1.size : Int) := by
    unfold num
    rw [e1, e2]
    omega
  have hs := sum_range (hd f)
  have e3 : (enc f ++ t).extract 0 (num (enc f ++ t) + 3).toNat = hd f := by
    apply bl_inj
    rw [bl_ext, bl_app, bl_enc, List.append_assoc, List.drop_zero, List.take_append_of_le_length (by rw [bl_len, hd_size, en]; omega), List.take_of_length_le (by rw [bl_len, hd_size, en]; omega)]
  have e4 : bt (enc f ++ t) (num (enc f ++ t) + 3) = sum (hd f) := by
    rw [en, show (f.2.1.size : Int) + 3 = ((f.2.1.size + 3 : Nat) : Int) by omega, bt_list (bl_app _ _)]
    rw [bl_enc, List.append_assoc]
    have : (bl (hd f) ++ ([UInt8.ofNat (sum (hd f)).toNat] ++ bl t)).getD (f.2.1.size + 3) 0 = UInt8.ofNat (sum (hd f)).toNat := by
      simp only [List.getD]
      rw [List.getElem?_append_right (by rw [bl_len, hd_size]; omega), bl_len, hd_size]
      simp
    rw [this, ofNat_toNat hs.1 hs.2]
  have ef : first (enc f ++ t) = (f.2.1.size : Int) + 4 := by
    rcases first_cases (enc f ++ t) (by omega) with ⟨g1, e⟩ | ⟨g1, e⟩ | ⟨g1, g2, ⟨g3, e⟩ | ⟨g3, ⟨g4, e⟩ | ⟨g4, ⟨g5, e⟩ | ⟨g5, ⟨g6, e⟩ | ⟨g6, e⟩⟩⟩⟩⟩
    · omega
    · omega
    · omega
    · omega
    · omega
    · omega
    · rw [e3, e4] at g6
      exact absurd rfl g6
  refine ⟨ef, ?_, ?_⟩
  · unfold frame
    rw [e0, ef]
    have : (enc f ++ t).extract 3 ((f.2.1.size : Int) + 4 - 1).toNat = f.2.1 := by
      apply bl_inj
      rw [bl_ext, hb, show ((f.2.1.size : Int) + 4 - 1).toNat = f.2.1.size + 3 by omega, List.drop_take]
      show (bl f.2.1 ++ ([UInt8.ofNat (sum (hd f)).toNat] ++ bl t)).take (f.2.1.size + 3 - 3) = bl f.2.1
      rw [Nat.add_sub_cancel, ← bl_len, List.take_left']
      rfl
    rw [this]
  · unfold rest
    rw [ef, show ((f.2.1.size : Int) + 4).toNat = (enc f).size by rw [enc_size]; omega, ext_all _ _ (Nat.le_refl _)]
    apply bl_inj
    rw [bl_app, bl_ext]
    simp [bl_len]

/-- Frames, one behind the other. -/
def cat : List Fr → ByteArray
  | [] => ByteArray.empty
  | f :: l => enc f ++ cat l
theorem empty_app (t : ByteArray) : ByteArray.empty ++ t = t := bl_inj (by rw [bl_app, bl_empty, List.nil_append])
theorem app_empty (t : ByteArray) : t ++ ByteArray.empty = t := bl_inj (by rw [bl_app, bl_empty, List.append_nil])
theorem first_empty : first ByteArray.empty = 0 := rfl
theorem frames_cat : ∀ {l : List Fr}, (∀ f ∈ l, may f = true) → frames (cat l) = (l, ByteArray.empty)
  | [], _ => frames_none (by rw [show cat [] = ByteArray.empty from rfl, first_empty]; omega)
  | f :: l, h => by
    obtain ⟨e1, e2, e3⟩ := enc_first (h f (by simp)) (cat l)
    rw [show cat (f :: l) = enc f ++ cat l from rfl, frames_pos (by rw [e1]; omega), e2, e3, frames_cat (fun g hg => h g (by simp [hg]))]
theorem cat_snoc : ∀ (l : List Fr) (f : Fr), cat (l ++ [f]) = cat l ++ enc f
  | [], f => by show enc f ++ ByteArray.empty = ByteArray.empty ++ enc f; rw [empty_app, app_empty]
  | g :: l, f => by show enc g ++ cat (l ++ [f]) = enc g ++ cat l ++ enc f; rw [cat_snoc l f, app_assoc]
theorem cat_size : ∀ {l : List Fr}, (∀ f ∈ l, may f = true) → (cat l).size ≤ 516 * l.length
  | [], _ => Nat.zero_le _
  | f :: l, h => by
    have := cat_size (l := l) fun g hg => h g (by simp [hg])
    have h1 := (may_un (h f (by simp))).2.2
    rw [show cat (f :: l) = enc f ++ cat l from rfl, app_size, enc_size, List.length_cons]
    omega
theorem first_zero_size {s : ByteArray} (h : first s = 0) : s.size ≤ 515 := by
  rcases Nat.eq_zero_or_pos s.size with e | e
  · omega
  · have := num_range s
    rcases first_cases s e with ⟨g1, e⟩ | ⟨g1, e⟩ | ⟨g1, g2, ⟨g3, e⟩ | ⟨g3, ⟨g4, e⟩ | ⟨g4, ⟨g5, e⟩ | ⟨g5, ⟨g6, e⟩ | ⟨g6, e⟩⟩⟩⟩⟩ <;> omega
theorem ext_split (s : ByteArray) {n : Nat} (h : n ≤ s.size) : s.extract 0 n ++ s.extract n s.size = s := by
  apply bl_inj
  rw [bl_app, bl_ext, bl_ext, List.drop_zero, List.take_of_length_le (l := bl s) (i := s.size) (by rw [bl_len]; exact Nat.le_refl _), List.take_append_drop]
end W
