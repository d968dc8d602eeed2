/- The reference's cells and lines; what is kept. -/
import Derived.Test.YtmnbcnhpklejcaaDoorZEvAuto
import Derived.Test.YtmnbcnhpklejcaaDoorZEvC3
set_option linter.unusedVariables false
set_option linter.unusedSimpArgs false
set_option maxRecDepth 20000
open Go Go.Ev
namespace U
open Go.Proofs.YtmnbcnhpklejcaaDoor
theorem bt_strOf {l : List Int} (h : ∀ x ∈ l, 0 ≤ x ∧ x ≤ 255) {i : Nat} (hi : i < l.length) : bt (strOf l) (i : Int) = l.getD i 0 := by
  rw [bt_eq (by omega)]
  have e : bl (strOf l) = l.map fun n => UInt8.ofNat n.toNat := by unfold strOf; rw [bl_mk]
  obtain ⟨h0, h1⟩ := h l[i] (List.getElem_mem hi)
  rw [e, Int.toNat_natCast, getD_el (by simpa using hi), List.getElem_map, getD_el hi]
  show ((UInt8.ofNat l[i].toNat).toNat : Int) = l[i]
  rw [UInt8.toNat_ofNat']
  have : l[i].toNat % 2 ^ 8 = l[i].toNat := Nat.mod_eq_of_lt (by omega)
  rw [this]
  omega
theorem bytesL_at {s : ByteArray} {i : Nat} (hi : i < s.size) : (bytesL s).getD i 0 = bt s (i : Int) := by
  have h2 : i < s.data.toList.length := by
    have := bl_len s
    unfold bl at this
    omega
  rw [bt_eq (by omega), Int.toNat_natCast]
  unfold bytesL bl
  rw [List.getD_eq_getElem?_getD, List.getD_eq_getElem?_getD, List.getElem?_map, List.getElem?_eq_getElem h2]
  rfl
theorem bytesL_in {s : ByteArray} : ∀ x ∈ bytesL s, 0 ≤ x ∧ x ≤ 255 := by
  intro x hx
  unfold bytesL at hx
  obtain ⟨b, _, rfl⟩ := List.mem_map.1 hx
  have := UInt8.toNat_lt b
  omega
/-- Bytes, and others behind them. -/
theorem fill_at {s : ByteArray} {n : Nat} {c : Int} (hc : 0 ≤ c ∧ c ≤ 255) (hs : s.size ≤ n) {i : Nat} (hi : i < n) : bt (strOf (fillTo (bytesL s) n c)) (i : Int) = if i < s.size then bt s (i : Int) else c := by
  have hl : (bytesL s).length = s.size := Ev.bytesL_len
  rw [bt_strOf (fun x hx => ?_) (by rw [fillTo_len (by omega)]; exact hi)]
  · unfold fillTo
    by_cases h : i < s.size
    · rw [if_pos h, ← bytesL_at h, List.getD_eq_getElem?_getD, List.getD_eq_getElem?_getD, List.getElem?_append_left (by omega)]
    · rw [if_neg h, List.getD_eq_getElem?_getD, List.getElem?_append_right (by omega), List.getElem?_replicate, if_pos (by omega)]
      rfl
  · rcases List.mem_append.1 hx with hx | hx
    · exact bytesL_in x hx
    · rw [List.eq_of_mem_replicate hx]; exact hc
theorem fill_size {s : ByteArray} {n : Nat} {c : Int} (hs : s.size ≤ n) : (strOf (fillTo (bytesL s) n c)).size = n := by
  rw [strOf_size, fillTo_len (by rw [Ev.bytesL_len]; exact hs)]

theorem rv2 {s : ByteArray} (h : s.size = 2) : rv s = if cont (bt s (1 : Nat)) = true then 64 * (bt s 0 - 192) + bt s (1 : Nat) - 128 else -1 := by
  unfold rv vL
  rw [h, if_neg (by omega)]
  simp only [vl, head, List.getD, show (2 : Nat) - 1 = 0 + 1 from rfl]
  by_cases h1 : cont (bt s (1 : Nat)) = true <;> simp_all
theorem rv3 {s : ByteArray} (h : s.size = 3) : rv s = if cont (bt s (1 : Nat)) = true ∧ cont (bt s (2 : Nat)) = true then 64 * (64 * (bt s 0 - 224) + bt s (1 : Nat) - 128) + bt s (2 : Nat) - 128 else -1 := by
  unfold rv vL
  rw [h, if_neg (by omega)]
  simp only [vl, head, List.getD, show (3 : Nat) - 1 = 0 + 1 + 1 from rfl]
  by_cases h1 : cont (bt s (1 : Nat)) = true <;> by_cases h2 : cont (bt s (2 : Nat)) = true <;> simp_all
theorem rv4 {s : ByteArray} (h : s.size = 4) : rv s = if cont (bt s (1 : Nat)) = true ∧ cont (bt s (2 : Nat)) = true ∧ cont (bt s (3 : Nat)) = true then 64 * (64 * (64 * (bt s 0 - 240) + bt s (1 : Nat) - 128) + bt s (2 : Nat) - 128) + bt s (3 : Nat) - 128 else -1 := by
  unfold rv vL
  rw [h, if_neg (by omega)]
  simp only [vl, head, List.getD, show (4 : Nat) - 1 = 0 + 1 + 1 + 1 from rfl]
  by_cases h1 : cont (bt s (1 : Nat)) = true <;> by_cases h2 : cont (bt s (2 : Nat)) = true <;> by_cases h3 : cont (bt s (3 : Nat)) = true <;> simp_all
theorem cont_iff {c : Int} : cont c = true ↔ 128 ≤ c ∧ c ≤ 191 := by simp [cont]
theorem beg2 {s : ByteArray} {n : Nat} (hn : need (bt s 0) = n) (h2 : 2 ≤ n) (hs : 2 ≤ s.size) : beg (s.extract 0 2) n = ok1 s := by
  have hz : (s.extract 0 2).size = 2 := size_pre hs
  have t0 : bt (s.extract 0 2) 0 = bt s 0 := bt_pre (i := 0) (by omega) hs
  have t1 : bt (s.extract 0 2) (1 : Nat) = bt s (1 : Nat) := bt_pre (i := 1) (by omega) hs
  have F : ∀ (c : Int), 0 ≤ c ∧ c ≤ 255 → ∀ i, i < n → bt (strOf (fillTo (bytesL (s.extract 0 2)) n c)) (i : Nat) = if i < 2 then bt (s.extract 0 2) (i : Nat) else c := fun c hc i hi => by
    rw [fill_at hc (by omega) hi, hz]
  have Z : ∀ c, (strOf (fillTo (bytesL (s.extract 0 2)) n c)).size = n := fun c => fill_size (by omega)
  have b1 := bt_ge s (1 : Nat)
  have b2 := bt_lt s (1 : Nat)
  have hN := need_cases (bt s 0)
  have e1 : bt s 1 = bt s (1 : Nat) := rfl
  unfold beg ok1
  rw [hz, e1]
  have ha : allN (fun i => cont (bt (s.extract 0 2) ((i + 1 : Nat) : Int))) (2 - 1) 0 = cont (bt s (1 : Nat)) := by
    show (cont (bt (s.extract 0 2) ((0 + 1 : Nat) : Int)) && true) = _
    rw [Bool.and_true]
    exact congrArg cont t1
  rw [ha]
  have hc8 : cont 128 = true := by decide
  have hc9 : cont 191 = true := by decide
  have f0 : ∀ c, 0 ≤ c ∧ c ≤ 255 → bt (strOf (fillTo (bytesL (s.extract 0 2)) n c)) 0 = bt s 0 := fun c hc => (F c hc 0 (by omega)).trans (by rw [if_pos (by omega)]; exact t0)
  have f1 : ∀ c, 0 ≤ c ∧ c ≤ 255 → bt (strOf (fillTo (bytesL (s.extract 0 2)) n c)) (1 : Nat) = bt s (1 : Nat) := fun c hc => (F c hc 1 (by omega)).trans (by rw [if_pos (by omega)]; exact t1)
  have f2 : ∀ c, 0 ≤ c ∧ c ≤ 255 → 3 ≤ n → bt (strOf (fillTo (bytesL (s.extract 0 2)) n c)) (2 : Nat) = c := fun c hc h => (F c hc 2 (by omega)).trans (by rw [if_neg (by omega)])
  have f3 : ∀ c, 0 ≤ c ∧ c ≤ 255 → 4 ≤ n → bt (strOf (fillTo (bytesL (s.extract 0 2)) n c)) (3 : Nat) = c := fun c hc h => (F c hc 3 (by omega)).trans (by rw [if_neg (by omega)])
  cases hcb : cont (bt s (1 : Nat)) with
  | false =>
    have h1 := lo_ge (bt s 0)
    have h2 := hi_le (bt s 0)
    have : ¬ (128 ≤ bt s (1 : Nat) ∧ bt s (1 : Nat) ≤ 191) := fun h => by rw [cont_iff.2 h] at hcb; cases hcb
    rw [Bool.false_and, eq_comm, Bool.and_eq_false_iff, decide_eq_false_iff_not, decide_eq_false_iff_not]
    omega
  | true =>
    have h1 := cont_iff.1 hcb
    rw [Bool.true_and]
    have hn3 : n = 2 ∨ n = 3 ∨ n = 4 := by omega
    rcases hn3 with rfl | rfl | rfl
    · rw [rv2 (Z 128), rv2 (Z 191), f0 _ (by omega), f0 _ (by omega), f1 _ (by omega), f1 _ (by omega), if_pos hcb]
      rw [Bool.eq_iff_iff, show floor 2 = 128 from rfl]
      simp only [rng, lo, hi, Bool.and_eq_true, Bool.not_eq_true', Bool.or_eq_false_iff, decide_eq_false_iff_not, decide_eq_true_eq, Bool.or_eq_true]
      repeat' split
      all_goals simp only [decide_eq_true_eq]
      all_goals omega
    · rw [rv3 (Z 128), rv3 (Z 191), f0 _ (by omega), f0 _ (by omega), f1 _ (by omega), f1 _ (by omega), f2 _ (by omega) (by omega), f2 _ (by omega) (by omega), if_pos ⟨hcb, hc8⟩, if_pos ⟨hcb, hc9⟩]
      rw [Bool.eq_iff_iff, show floor 3 = 2048 from rfl]
      simp only [rng, lo, hi, Bool.and_eq_true, Bool.not_eq_true', Bool.or_eq_false_iff, decide_eq_false_iff_not, decide_eq_true_eq, Bool.or_eq_true]
      repeat' split
      all_goals simp only [decide_eq_true_eq]
      all_goals omega
    · rw [rv4 (Z 128), rv4 (Z 191), f0 _ (by omega), f0 _ (by omega), f1 _ (by omega), f1 _ (by omega), f2 _ (by omega) (by omega), f2 _ (by omega) (by omega), f3 _ (by omega) (by omega), f3 _ (by omega) (by omega), if_pos ⟨hcb, hc8, hc8⟩, if_pos ⟨hcb, hc9, hc9⟩]
      rw [Bool.eq_iff_iff, show floor 4 = 65536 from rfl]
      simp only [rng, lo, hi, Bool.and_eq_true, Bool.not_eq_true', Bool.or_eq_false_iff, decide_eq_false_iff_not, decide_eq_true_eq, Bool.or_eq_true]
      repeat' split
      all_goals simp only [decide_eq_true_eq]
      all_goals omega

theorem beg3 {s : ByteArray} {n : Nat} (hn : need (bt s 0) = n) (h2 : 3 ≤ n) (hs : 3 ≤ s.size) (ho : ok1 s = true) : beg (s.extract 0 3) n = cont (bt s (2 : Nat)) := by
  have hz : (s.extract 0 3).size = 3 := size_pre hs
  have t0 : bt (s.extract 0 3) 0 = bt s 0 := bt_pre (i := 0) (by omega) hs
  have t1 : bt (s.extract 0 3) (1 : Nat) = bt s (1 : Nat) := bt_pre (i := 1) (by omega) hs
  have t2 : bt (s.extract 0 3) (2 : Nat) = bt s (2 : Nat) := bt_pre (i := 2) (by omega) hs
  have F : ∀ (c : Int), 0 ≤ c ∧ c ≤ 255 → ∀ i, i < n → bt (strOf (fillTo (bytesL (s.extract 0 3)) n c)) (i : Nat) = if i < 3 then bt (s.extract 0 3) (i : Nat) else c := fun c hc i hi => by
    rw [fill_at hc (by omega) hi, hz]
  have Z : ∀ c, (strOf (fillTo (bytesL (s.extract 0 3)) n c)).size = n := fun c => fill_size (by omega)
  have hN := need_cases (bt s 0)
  have b3 := bt_ge s (2 : Nat)
  have hl := lo_ge (bt s 0)
  have hh := hi_le (bt s 0)
  unfold ok1 at ho
  simp only [Bool.and_eq_true, decide_eq_true_eq] at ho
  have e1 : bt s 1 = bt s (1 : Nat) := rfl
  rw [e1] at ho
  have hcb : cont (bt s (1 : Nat)) = true := cont_iff.2 (by omega)
  unfold beg
  rw [hz]
  have ha : allN (fun i => cont (bt (s.extract 0 3) ((i + 1 : Nat) : Int))) (3 - 1) 0 = cont (bt s (2 : Nat)) := by
    show (cont (bt (s.extract 0 3) ((0 + 1 : Nat) : Int)) && (cont (bt (s.extract 0 3) ((1 + 1 : Nat) : Int)) && true)) = _
    rw [Bool.and_true, show cont (bt (s.extract 0 3) ((0 + 1 : Nat) : Int)) = true from (congrArg cont t1).trans hcb, Bool.true_and]
    exact congrArg cont t2
  rw [ha]
  have hc8 : cont 128 = true := by decide
  have hc9 : cont 191 = true := by decide
  have f0 : ∀ c, 0 ≤ c ∧ c ≤ 255 → bt (strOf (fillTo (bytesL (s.extract 0 3)) n c)) 0 = bt s 0 := fun c hc => (F c hc 0 (by omega)).trans (by rw [if_pos (by omega)]; exact t0)
  have f1 : ∀ c, 0 ≤ c ∧ c ≤ 255 → bt (strOf (fillTo (bytesL (s.extract 0 3)) n c)) (1 : Nat) = bt s (1 : Nat) := fun c hc => (F c hc 1 (by omega)).trans (by rw [if_pos (by omega)]; exact t1)
  have f2 : ∀ c, 0 ≤ c ∧ c ≤ 255 → bt (strOf (fillTo (bytesL (s.extract 0 3)) n c)) (2 : Nat) = bt s (2 : Nat) := fun c hc => (F c hc 2 (by omega)).trans (by rw [if_pos (by omega)]; exact t2)
  have f3 : ∀ c, 0 ≤ c ∧ c ≤ 255 → 4 ≤ n → bt (strOf (fillTo (bytesL (s.extract 0 3)) n c)) (3 : Nat) = c := fun c hc h => (F c hc 3 (by omega)).trans (by rw [if_neg (by omega)])
  cases hcb2 : cont (bt s (2 : Nat)) with
  | false => rfl
  | true =>
    have h1 := cont_iff.1 hcb2
    rw [Bool.true_and]
    have hn3 : n = 3 ∨ n = 4 := by omega
    rcases hn3 with rfl | rfl
    · rw [rv3 (Z 128), rv3 (Z 191), f0 _ (by omega), f0 _ (by omega), f1 _ (by omega), f1 _ (by omega), f2 _ (by omega), f2 _ (by omega), if_pos ⟨hcb, hcb2⟩]
      simp only [rng, show floor 3 = 2048 from rfl, Bool.and_eq_true, Bool.not_eq_true', Bool.or_eq_false_iff, decide_eq_false_iff_not, decide_eq_true_eq, Bool.or_eq_true]
      unfold lo hi at ho
      repeat' split at ho
      all_goals omega
    · rw [rv4 (Z 128), rv4 (Z 191), f0 _ (by omega), f0 _ (by omega), f1 _ (by omega), f1 _ (by omega), f2 _ (by omega), f2 _ (by omega), f3 _ (by omega) (by omega), f3 _ (by omega) (by omega), if_pos ⟨hcb, hcb2, hc8⟩, if_pos ⟨hcb, hcb2, hc9⟩]
      simp only [rng, show floor 4 = 65536 from rfl, Bool.and_eq_true, Bool.not_eq_true', Bool.or_eq_false_iff, decide_eq_false_iff_not, decide_eq_true_eq, Bool.or_eq_true]
      unfold lo hi at ho
      repeat' split at ho
      all_goals omega
theorem beg4 {s : ByteArray} (hn : need (bt s 0) = 4) (hs : 4 ≤ s.size) (ho : ok1 s = true) (hc : cont (bt s (2 : Nat)) = true) : beg (s.extract 0 4) 4 = cont (bt s (3 : Nat)) := by
  have hz : (s.extract 0 4).size = 4 := size_pre hs
  have t0 : bt (s.extract 0 4) 0 = bt s 0 := bt_pre (i := 0) (by omega) hs
  have t1 : bt (s.extract 0 4) (1 : Nat) = bt s (1 : Nat) := bt_pre (i := 1) (by omega) hs
  have t2 : bt (s.extract 0 4) (2 : Nat) = bt s (2 : Nat) := bt_pre (i := 2) (by omega) hs
  have t3 : bt (s.extract 0 4) (3 : Nat) = bt s (3 : Nat) := bt_pre (i := 3) (by omega) hs
  have F : ∀ (c : Int), 0 ≤ c ∧ c ≤ 255 → ∀ i, i < 4 → bt (strOf (fillTo (bytesL (s.extract 0 4)) 4 c)) (i : Nat) = bt (s.extract 0 4) (i : Nat) := fun c hc i hi => by
    rw [fill_at hc (by omega) hi, hz, if_pos hi]
  have Z : ∀ c, (strOf (fillTo (bytesL (s.extract 0 4)) 4 c)).size = 4 := fun c => fill_size (by omega)
  have hN := need_cases (bt s 0)
  have hl := lo_ge (bt s 0)
  have hh := hi_le (bt s 0)
  unfold ok1 at ho
  simp only [Bool.and_eq_true, decide_eq_true_eq] at ho
  have e1 : bt s 1 = bt s (1 : Nat) := rfl
  rw [e1] at ho
  have hcb : cont (bt s (1 : Nat)) = true := cont_iff.2 (by omega)
  unfold beg
  rw [hz]
  have ha : allN (fun i => cont (bt (s.extract 0 4) ((i + 1 : Nat) : Int))) (4 - 1) 0 = cont (bt s (3 : Nat)) := by
    show (cont (bt (s.extract 0 4) ((0 + 1 : Nat) : Int)) && (cont (bt (s.extract 0 4) ((1 + 1 : Nat) : Int)) && (cont (bt (s.extract 0 4) ((2 + 1 : Nat) : Int)) && true))) = _
    rw [Bool.and_true, show cont (bt (s.extract 0 4) ((0 + 1 : Nat) : Int)) = true from (congrArg cont t1).trans hcb, show cont (bt (s.extract 0 4) ((1 + 1 : Nat) : Int)) = true from (congrArg cont t2).trans hc, Bool.true_and, Bool.true_and]
    exact congrArg cont t3
  rw [ha]
  have f0 : ∀ c, 0 ≤ c ∧ c ≤ 255 → bt (strOf (fillTo (bytesL (s.extract 0 4)) 4 c)) 0 = bt s 0 := fun c hc => (F c hc 0 (by omega)).trans t0
  have f1 : ∀ c, 0 ≤ c ∧ c ≤ 255 → bt (strOf (fillTo (bytesL (s.extract 0 4)) 4 c)) (1 : Nat) = bt s (1 : Nat) := fun c hc => (F c hc 1 (by omega)).trans t1
  have f2 : ∀ c, 0 ≤ c ∧ c ≤ 255 → bt (strOf (fillTo (bytesL (s.extract 0 4)) 4 c)) (2 : Nat) = bt s (2 : Nat) := fun c hc => (F c hc 2 (by omega)).trans t2
  have f3 : ∀ c, 0 ≤ c ∧ c ≤ 255 → bt (strOf (fillTo (bytesL (s.extract 0 4)) 4 c)) (3 : Nat) = bt s (3 : Nat) := fun c hc => (F c hc 3 (by omega)).trans t3
  cases hcb2 : cont (bt s (3 : Nat)) with
  | false => rfl
  | true =>
    have h1 := cont_iff.1 hcb2
    have h2 := cont_iff.1 hc
    rw [Bool.true_and, rv4 (Z 128), rv4 (Z 191), f0 _ (by omega), f0 _ (by omega), f1 _ (by omega), f1 _ (by omega), f2 _ (by omega), f2 _ (by omega), f3 _ (by omega), f3 _ (by omega), if_pos ⟨hcb, hc, hcb2⟩]
    simp only [rng, show floor 4 = 65536 from rfl, Bool.and_eq_true, Bool.not_eq_true', Bool.or_eq_false_iff, decide_eq_false_iff_not, decide_eq_true_eq, Bool.or_eq_true]
    unfold lo hi at ho
    repeat' split at ho
    all_goals omega

theorem rvx1 {s : ByteArray} (h : 1 ≤ s.size) : rv (s.extract 0 1) = bt s 0 := by
  have hz : (s.extract 0 1).size = 1 := size_pre h
  unfold rv vL
  rw [if_pos hz]
  exact bt_pre (i := 0) (by omega) h
theorem rvx2 {s : ByteArray} (h : 2 ≤ s.size) (h1 : cont (bt s (1 : Nat)) = true) : rv (s.extract 0 2) = val2 s := by
  rw [rv2 (size_pre h), show bt (s.extract 0 2) (1 : Nat) = bt s (1 : Nat) from bt_pre (i := 1) (by omega) h, show bt (s.extract 0 2) 0 = bt s 0 from bt_pre (i := 0) (by omega) h, if_pos h1]
  unfold val2
  show _ = (bt s 0 - 192) * 64 + (bt s (1 : Nat) - 128)
  omega
theorem rvx3 {s : ByteArray} (h : 3 ≤ s.size) (h1 : cont (bt s (1 : Nat)) = true) (h2 : cont (bt s (2 : Nat)) = true) : rv (s.extract 0 3) = val3 s := by
  rw [rv3 (size_pre h), show bt (s.extract 0 3) (1 : Nat) = bt s (1 : Nat) from bt_pre (i := 1) (by omega) h, show bt (s.extract 0 3) (2 : Nat) = bt s (2 : Nat) from bt_pre (i := 2) (by omega) h, show bt (s.extract 0 3) 0 = bt s 0 from bt_pre (i := 0) (by omega) h, if_pos ⟨h1, h2⟩]
  unfold val3
  show _ = (bt s 0 - 224) * 4096 + (bt s (1 : Nat) - 128) * 64 + (bt s (2 : Nat) - 128)
  omega
theorem rvx4 {s : ByteArray} (h : 4 ≤ s.size) (h1 : cont (bt s (1 : Nat)) = true) (h2 : cont (bt s (2 : Nat)) = true) (h3 : cont (bt s (3 : Nat)) = true) : rv (s.extract 0 4) = val4 s := by
  rw [rv4 (size_pre h), show bt (s.extract 0 4) (1 : Nat) = bt s (1 : Nat) from bt_pre (i := 1) (by omega) h, show bt (s.extract 0 4) (2 : Nat) = bt s (2 : Nat) from bt_pre (i := 2) (by omega) h, show bt (s.extract 0 4) (3 : Nat) = bt s (3 : Nat) from bt_pre (i := 3) (by omega) h,
    show bt (s.extract 0 4) 0 = bt s 0 from bt_pre (i := 0) (by omega) h, if_pos ⟨h1, h2, h3⟩]
  unfold val4
  show _ = (bt s 0 - 240) * 262144 + (bt s (1 : Nat) - 128) * 4096 + (bt s (2 : Nat) - 128) * 64 + (bt s (3 : Nat) - 128)
  omega
theorem ok1_cont {s : ByteArray} (ho : ok1 s = true) : cont (bt s (1 : Nat)) = true := by
  have hl := lo_ge (bt s 0)
  have hh := hi_le (bt s 0)
  unfold ok1 at ho
  simp only [Bool.and_eq_true, decide_eq_true_eq] at ho
  exact cont_iff.2 ⟨by have := ho.1; show 128 ≤ bt s 1; omega, by have := ho.2; show bt s 1 ≤ 191; omega⟩

theorem firstR_eq (s : ByteArray) : firstR s = first s := by
  have c2 : bt s 2 = bt s (2 : Nat) := rfl
  have c3 : bt s 3 = bt s (3 : Nat) := rfl
  unfold firstR first
  by_cases h0 : s.size = 0
  · have : full s = false := by unfold full; rw [decide_eq_true h0]; rfl
    rw [if_pos h0, this]; rfl
  rw [if_neg h0]
  have d0 : decide (s.size = 0) = false := decide_eq_false h0
  rcases need_cases (bt s 0) with ⟨hn, hb⟩ | hn | ⟨hn, hb⟩ | ⟨hn, hb⟩ | ⟨hn, hb⟩
  · have f : full s = true := by unfold full; rw [d0, hn, decide_eq_true (show (1 : Int) ≤ (s.size : Int) by omega)]; rfl
    have d : dec s = (bt s 0, 1) := by unfold dec; rw [d0, hn]; rfl
    have l : isL s = true := by unfold isL; rw [d, decide_eq_false (show ¬ (bt s 0, (1 : Int)).1 = 65533 by show ¬ bt s 0 = 65533; omega)]; rfl
    rw [if_neg (by omega), f, l, d, hn]
    show (if pref s 1 0 1 = 1 then (rv (s.extract 0 1), (1 : Int), (0 : Int)) else if pref s 1 0 1 = s.size then (0, 0, 2) else (0, ((pref s 1 0 1 : Nat) : Int), (4 : Int))) = _
    rw [if_pos (show pref s 1 0 1 = 1 from rfl), rvx1 (by omega)]
    rfl
  · have f : full s = true := by unfold full; rw [d0, hn, decide_eq_true (show (0 : Int) ≤ (s.size : Int) by omega)]; rfl
    have d : dec s = (65533, 1) := by unfold dec; rw [d0, hn]; rfl
    have l : isL s = false := by unfold isL; rw [d]; rfl
    have b : bad s = 1 := by unfold bad; rw [hn]; rfl
    rw [if_pos hn, f, l, b]; rfl
  · rw [if_neg (by omega), hn]
    show (if pref s 2 1 1 = 2 then (rv (s.extract 0 2), (2 : Int), (0 : Int)) else if pref s 2 1 1 = s.size then (0, 0, 2) else (0, ((pref s 2 1 1 : Nat) : Int), (4 : Int))) = _
    by_cases h1 : 1 < s.size
    · have f : full s = true := by unfold full; rw [d0, hn, decide_eq_true (show (2 : Int) ≤ (s.size : Int) by omega)]; rfl
      have dz : decide ((s.size : Int) < 2) = false := decide_eq_false (by omega)
      cases ho : ok1 s with
      | true =>
        have p : pref s 2 1 1 = 2 := by simp only [pref, decide_eq_true h1, beg2 (n := 2) hn (by omega) (by omega), ho, Bool.and_self, cond_true]
        have d : dec s = (val2 s, 2) := by unfold dec; rw [d0, hn, dz, ho]; rfl
        have l : isL s = true := by unfold isL; rw [d, decide_eq_true (show (1 : Int) < ((val2 s, (2 : Int)) : Int × Int).2 from (by decide : (1 : Int) < 2)), Bool.or_true]
        rw [p, if_pos rfl, rvx2 (by omega) (ok1_cont ho), f, l, d]
        rfl
      | false =>
        have p : pref s 2 1 1 = 1 := by simp only [pref, decide_eq_true h1, beg2 (n := 2) hn (by omega) (by omega), ho, Bool.and_false, cond_false]
        have d : dec s = (65533, 1) := by unfold dec; rw [d0, hn, dz, ho]; rfl
        have l : isL s = false := by unfold isL; rw [d]; rfl
        have b : bad s = 1 := by unfold bad; rw [hn, ho]; rfl
        rw [p, if_neg (by omega), if_neg (by omega), f, l, b]; rfl
    · have p : pref s 2 1 1 = 1 := by simp only [pref, decide_eq_false h1, Bool.false_and, cond_false]
      have f : full s = false := by unfold full; rw [d0, hn, decide_eq_false (show ¬ (2 : Int) ≤ (s.size : Int) by omega), decide_eq_false h1, decide_eq_false (show ¬ 2 < s.size by omega)]; rfl
      rw [p, if_neg (by omega), if_pos (by omega), f]; rfl
  · rw [if_neg (by omega), hn]
    show (if pref s 3 2 1 = 3 then (rv (s.extract 0 3), (3 : Int), (0 : Int)) else if pref s 3 2 1 = s.size then (0, 0, 2) else (0, ((pref s 3 2 1 : Nat) : Int), (4 : Int))) = _
    by_cases h1 : 1 < s.size
    · cases ho : ok1 s with
      | true =>
        by_cases h2 : 2 < s.size
        · have f : full s = true := by unfold full; rw [d0, hn, decide_eq_true (show (3 : Int) ≤ (s.size : Int) by omega)]; rfl
          have dz : decide ((s.size : Int) < 3) = false := decide_eq_false (by omega)
          cases hc : cont (bt s (2 : Nat)) with
          | true =>
            have p : pref s 3 2 1 = 3 := by simp only [pref, decide_eq_true h1, decide_eq_true h2, beg2 (n := 3) hn (by omega) (by omega), beg3 (n := 3) hn (by omega) (by omega) ho, ho, hc, Bool.and_self, cond_true]
            have d : dec s = (val3 s, 3) := by unfold dec; rw [d0, hn, dz, ho, c2, hc]; rfl
            have l : isL s = true := by unfold isL; rw [d, decide_eq_true (show (1 : Int) < ((val3 s, (3 : Int)) : Int × Int).2 from (by decide : (1 : Int) < 3)), Bool.or_true]
            rw [p, if_pos rfl, rvx3 (by omega) (ok1_cont ho) hc, f, l, d]
            rfl
          | false =>
            have p : pref s 3 2 1 = 2 := by simp only [pref, decide_eq_true h1, decide_eq_true h2, beg2 (n := 3) hn (by omega) (by omega), beg3 (n := 3) hn (by omega) (by omega) ho, ho, hc, Bool.and_self, Bool.and_false, cond_true, cond_false]
            have d : dec s = (65533, 1) := by unfold dec; rw [d0, hn, dz, ho, c2, hc]; rfl
            have l : isL s = false := by unfold isL; rw [d]; rfl
            have b : bad s = 2 := by unfold bad; rw [hn, ho, c2, hc]; rfl
            rw [p, if_neg (by omega), if_neg (by omega), f, l, b]; rfl
        · have p : pref s 3 2 1 = 2 := by simp only [pref, decide_eq_true h1, decide_eq_false h2, beg2 (n := 3) hn (by omega) (by omega), ho, Bool.and_self, Bool.false_and, cond_true, cond_false]
          have f : full s = false := by unfold full; rw [d0, hn, decide_eq_false (show ¬ (3 : Int) ≤ (s.size : Int) by omega), decide_eq_true h1, decide_eq_false h2, ho]; rfl
          rw [p, if_neg (by omega), if_pos (by omega), f]; rfl
      | false =>
        have p : pref s 3 2 1 = 1 := by simp only [pref, decide_eq_true h1, beg2 (n := 3) hn (by omega) (by omega), ho, Bool.and_false, cond_false]
        have f : full s = true := by
          unfold full
          rw [d0, decide_eq_true h1, ho]
          cases decide (need (bt s 0) ≤ (s.size : Int)) <;> rfl
        have d : dec s = (65533, 1) := by
          unfold dec
          rw [d0, hn, ho]
          cases decide ((s.size : Int) < 3) <;> rfl
        have l : isL s = false := by unfold isL; rw [d]; rfl
        have b : bad s = 1 := by unfold bad; rw [hn, ho]; rfl
        rw [p, if_neg (by omega), if_neg (by omega), f, l, b]; rfl
    · have p : pref s 3 2 1 = 1 := by simp only [pref, decide_eq_false h1, Bool.false_and, cond_false]
      have f : full s = false := by unfold full; rw [d0, hn, decide_eq_false (show ¬ (3 : Int) ≤ (s.size : Int) by omega), decide_eq_false h1, decide_eq_false (show ¬ 2 < s.size by omega)]; rfl
      rw [p, if_neg (by omega), if_pos (by omega), f]; rfl
  · rw [if_neg (by omega), hn]
    show (if pref s 4 3 1 = 4 then (rv (s.extract 0 4), (4 : Int), (0 : Int)) else if pref s 4 3 1 = s.size then (0, 0, 2) else (0, ((pref s 4 3 1 : Nat) : Int), (4 : Int))) = _
    by_cases h1 : 1 < s.size
    · cases ho : ok1 s with
      | true =>
        by_cases h2 : 2 < s.size
        · cases hc : cont (bt s (2 : Nat)) with
          | true =>
            by_cases h3 : 3 < s.size
            · have f : full s = true := by unfold full; rw [d0, hn, decide_eq_true (show (4 : Int) ≤ (s.size : Int) by omega)]; rfl
              have dz : decide ((s.size : Int) < 4) = false := decide_eq_false (by omega)
              cases hd : cont (bt s (3 : Nat)) with
              | true =>
                have p : pref s 4 3 1 = 4 := by simp only [pref, decide_eq_true h1, decide_eq_true h2, decide_eq_true h3, beg2 (n := 4) hn (by omega) (by omega), beg3 (n := 4) hn (by omega) (by omega) ho, beg4 hn (by omega) ho hc, ho, hc, hd, Bool.and_self, cond_true]
                have d : dec s = (val4 s, 4) := by unfold dec; rw [d0, hn, dz, ho, c2, hc, c3, hd]; rfl
                have l : isL s = true := by unfold isL; rw [d, decide_eq_true (show (1 : Int) < ((val4 s, (4 : Int)) : Int × Int).2 from (by decide : (1 : Int) < 4)), Bool.or_true]
                rw [p, if_pos rfl, rvx4 (by omega) (ok1_cont ho) hc hd, f, l, d]
                rfl
              | false =>
                have p : pref s 4 3 1 = 3 := by simp only [pref, decide_eq_true h1, decide_eq_true h2, decide_eq_true h3, beg2 (n := 4) hn (by omega) (by omega), beg3 (n := 4) hn (by omega) (by omega) ho, beg4 hn (by omega) ho hc, ho, hc, hd, Bool.and_self, Bool.and_false, cond_true, cond_false]
                have d : dec s = (65533, 1) := by unfold dec; rw [d0, hn, dz, ho, c2, hc, c3, hd]; rfl
                have l : isL s = false := by unfold isL; rw [d]; rfl
                have b : bad s = 3 := by unfold bad; rw [hn, ho, c2, hc]; rfl
                rw [p, if_neg (by omega), if_neg (by omega), f, l, b]; rfl
            · have p : pref s 4 3 1 = 3 := by simp only [pref, decide_eq_true h1, decide_eq_true h2, decide_eq_false h3, beg2 (n := 4) hn (by omega) (by omega), beg3 (n := 4) hn (by omega) (by omega) ho, ho, hc, Bool.and_self, Bool.false_and, cond_true, cond_false]
              have f : full s = false := by unfold full; rw [d0, hn, decide_eq_false (show ¬ (4 : Int) ≤ (s.size : Int) by omega), decide_eq_true h1, decide_eq_true h2, ho, c2, hc]; rfl
              rw [p, if_neg (by omega), if_pos (by omega), f]; rfl
          | false =>
            have p : pref s 4 3 1 = 2 := by simp only [pref, decide_eq_true h1, decide_eq_true h2, beg2 (n := 4) hn (by omega) (by omega), beg3 (n := 4) hn (by omega) (by omega) ho, ho, hc, Bool.and_self, Bool.and_false, cond_true, cond_false]
            have f : full s = true := by
              unfold full
              rw [d0, decide_eq_true h1, decide_eq_true h2, ho, c2, hc]
              cases decide (need (bt s 0) ≤ (s.size : Int)) <;> rfl
            have d : dec s = (65533, 1) := by
              unfold dec
              rw [d0, hn, ho, c2, hc]
              cases decide ((s.size : Int) < 4) <;> rfl
            have l : isL s = false := by unfold isL; rw [d]; rfl
            have b : bad s = 2 := by unfold bad; rw [hn, ho, c2, hc]; rfl
            rw [p, if_neg (by omega), if_neg (by omega), f, l, b]; rfl
        · have p : pref s 4 3 1 = 2 := by simp only [pref, decide_eq_true h1, decide_eq_false h2, beg2 (n := 4) hn (by omega) (by omega), ho, Bool.and_self, Bool.false_and, cond_true, cond_false]
          have f : full s = false := by unfold full; rw [d0, hn, decide_eq_false (show ¬ (4 : Int) ≤ (s.size : Int) by omega), decide_eq_true h1, decide_eq_false h2, ho]; rfl
          rw [p, if_neg (by omega), if_pos (by omega), f]; rfl
      | false =>
        have p : pref s 4 3 1 = 1 := by simp only [pref, decide_eq_true h1, beg2 (n := 4) hn (by omega) (by omega), ho, Bool.and_false, cond_false]
        have f : full s = true := by
          unfold full
          rw [d0, decide_eq_true h1, ho]
          cases decide (need (bt s 0) ≤ (s.size : Int)) <;> rfl
        have d : dec s = (65533, 1) := by
          unfold dec
          rw [d0, hn, ho]
          cases decide ((s.size : Int) < 4) <;> rfl
        have l : isL s = false := by unfold isL; rw [d]; rfl
        have b : bad s = 1 := by unfold bad; rw [hn, ho]; rfl
        rw [p, if_neg (by omega), if_neg (by omega), f, l, b]; rfl
    · have p : pref s 4 3 1 = 1 := by simp only [pref, decide_eq_false h1, Bool.false_and, cond_false]
      have f : full s = false := by unfold full; rw [d0, hn, decide_eq_false (show ¬ (4 : Int) ≤ (s.size : Int) by omega), decide_eq_false h1, decide_eq_false (show ¬ 2 < s.size by omega)]; rfl
      rw [p, if_neg (by omega), if_pos (by omega), f]; rfl
end U
namespace Go.Proofs.YtmnbcnhpklejcaaDoor
open Go Go.Ev Go.RowKit
abbrev w83' : FSpec := s83 (fun x => decide (ByteArray.size x.1 ≤ 1048576)) fun x => U.first x.1
theorem wk83' : SpecOK Tryd.prog E0 83 w83' := by
  have e : w83' = w83 := by unfold w83' w83 s83; congr 1; funext x y; exact (U.firstR_eq x.1).symm
  rw [e]
  exact wk83
def d123 (a : List Cell) (b : Int) : Tr (Bool) :=
  let v1 : Int := ((↑a.length : Int))
  let v2 : Int := (b - (1 : Int))
  let v3 : Int := (b + (1 : Int))
  Tr.ite (inB b a.length)
    (Tr.ite (decide ((rget celk a b).snd.fst = (2 : Int)))
      (Tr.ite (decide (IntKind.i64.wrap v3 = v1)) (Tr.ret true) (Tr.ite (inB (IntKind.i64.wrap v3) a.length) (Tr.ret !decide ((rget celk a (IntKind.i64.wrap v3)).snd.fst = (0 : Int))) Tr.fail))
      (Tr.ite (inB b a.length)
        (Tr.ite (decide ((rget celk a b).snd.fst = (0 : Int)))
          (Tr.ite (decide (b = (0 : Int))) (Tr.ret true) (Tr.ite (inB (IntKind.i64.wrap v2) a.length) (Tr.ret !decide ((rget celk a (IntKind.i64.wrap v2)).snd.fst = (2 : Int))) Tr.fail)) (Tr.ret false))
        Tr.fail))
    Tr.fail
def e123 (r : Bool) : FRes := { rs := Slot.av (AV.one (Leaf.dat Kd.bool r)), upd := [], new := [] }
@[reducible] def a123 : List AK := [AK.d celk.sl, AK.d (.int .i64)]
@[reducible] def b123 : List BK := []
theorem t123 (a : List Cell) (b : Int) : evFn (E0) Tryd.f123 [PM.data Kd.bool] (akAV a123 (a, b, ())) (bkBs b123 ()) = (d123 a b).map e123 := by kernel_rfl
def s123 (C : akT a123 → Bool) (G : akT a123 → Bool) : FSpec := aspec a123 b123 e123 (fun x _ => C x) (fun x _ => G x)
def s123' (G : akT a123 → Bool) : FSpec := aspec0 a123 b123 e123 (fun x _ => G x)
theorem k123 {C : akT a123 → Bool} {G : akT a123 → Bool} (hd : ∀ (a : List Cell) (b : Int), C (a, b, ()) = true → (d123 a b).val = some (G (a, b, ()))) (IO : ItOK Tryd.prog (E0) := by exact itOK_none rfl) (L : ∀ c, Tryd.f123.body = some c → LsOK (evI 2) ((E0).lend 0) c := by exact fun c _ => LsOK_none rfl c) : SpecOK Tryd.prog E0 123 (s123 C G) :=
  aspec_ok (ak := a123) (bl := b123) (e := e123) (c := fun x _ => C x) (g := fun x _ => G x) (E0 := E0) (E := E0) tab .nil rfl rfl hm Tryd.func123 (by kernel_rfl) [PM.data Kd.bool] (fun X Y H => by obtain ⟨a, ⟨b, _⟩⟩ := X; exact val_of (t123 a b) (hd a b H)) IO L
theorem k123' {G : akT a123 → Bool} (hd : ∀ (a : List Cell) (b : Int), (d123 a b).val = some (G (a, b, ()))) (IO : ItOK Tryd.prog (E0) := by exact itOK_none rfl) (L : ∀ c, Tryd.f123.body = some c → LsOK (evI 2) ((E0).lend 0) c := by exact fun c _ => LsOK_none rfl c) : SpecOK Tryd.prog E0 123 (s123' G) :=
  aspec0_ok (ak := a123) (bl := b123) (e := e123) (g := fun x _ => G x) (E0 := E0) (E := E0) tab .nil rfl rfl hm Tryd.func123 (by kernel_rfl) [PM.data Kd.bool] (fun X Y => by obtain ⟨a, ⟨b, _⟩⟩ := X; exact val_of (t123 a b) (hd a b)) IO L
abbrev G28 : List (Nat × FSpec) := [(37, w37), (83, w83'), (84, w84)]
theorem AG28 : AllFn Tryd.prog E0 G28 := .cons wk37 (.cons wk83' (.cons wk84 .nil))
def live28 (key : Nat) : Lv :=
  bif Nat.beq key 10 then { ls := [4, 5] } else bif Nat.beq key 1010 then { ls := [2, 5] } else
  { ls := [] }
abbrev M28 (ls : Nat → VS → Option (Tr (Ex × VS))) : Env := (E0.withFns G28).loops live28 ls
@[reducible] def p28_0 : LP := { n := 73, sl := [.d (Kd.str), .d (.int .i64)], bl := [] }
def B28_0 (x0 : ByteArray) (x1 : Int) : Tr (p28_0.T ⊕ (Int ⊕ Int)) :=
  let v1 : Int := ((U.first x0).fst)
  let v2 : Int := ((U.first x0).snd.snd)
  let v3 : Int := ((U.first x0).snd.fst)
  Tr.ite (decide ((0 : Int) < (↑x0.size : Int)))
    (Tr.ite (decide (x0.size ≤ (1048576 : Nat)))
      (Tr.ite (!decide (v2 = (0 : Int))) (Tr.ret (Sum.inr (Sum.inl x1)))
        (Tr.ite (!decide (U.width v1 = (0 : Int))) (Tr.ret (Sum.inr (Sum.inl x1)))
          (Tr.ite (decide ((0 : Int) ≤ v3 ∧ v3 ≤ (↑x0.size : Int))) (Tr.ret (Sum.inl ((x0.extract v3.toNat x0.size, IntKind.i64.wrap (x1 + (1 : Int)), ()), ()))) Tr.fail)))
      Tr.fail)
    (Tr.ret (Sum.inr (Sum.inr x1)))
def X28_0 : (Int ⊕ Int) → Ex × VS
  | (.inl r) => Prod.mk Ex.ret { n := 73, v := [Slot.av (AV.one (Leaf.kb false)), Slot.av (AV.one (Leaf.dat (.int .i64) r))], h := [] }
  | (.inr r) => Prod.mk (Ex.exit ( 0)) { n := 73, v := [Slot.av (AV.one Leaf.undef), Slot.av (AV.one (Leaf.dat (.int .i64) r))], h := [] }
def b28_0 : p28_0.T → Tr (p28_0.T ⊕ (Int ⊕ Int)) := fun ⟨⟨x0, ⟨x1, _⟩⟩, _⟩ => B28_0 x0 x1
theorem h28_0 (ls : Nat → VS → Option (Tr (Ex × VS))) (x : p28_0.T) : (evC (evI 2) (lc Tryd.f28 0) (Env.lend (M28 ls) 0) (unV (live28 10) (p28_0.V x))).map (decL 0 (live28 10) (live28 1010)) = (b28_0 x).map (encR p28_0.V X28_0) := by
  obtain ⟨⟨x0, ⟨x1, _⟩⟩, _⟩ := x; kernel_rfl
theorem c28_0 (x : p28_0.T) : canV 0 (live28 10) (unV (live28 10) (p28_0.V x)) = p28_0.V x := by
  obtain ⟨⟨x0, ⟨x1, _⟩⟩, _⟩ := x; kernel_rfl
theorem l28_0 {T : p28_0.T → Tr (Int ⊕ Int)} {ls : Nat → VS → Option (Tr (Ex × VS))} (hls : ∀ x, (Env.lend (M28 ls) 0).ls 10 x = p28_0.ls (fun a => (T a).map X28_0) x) (hS : ∀ x r, (T x).val = some r → Rounds b28_0 x r) : LoopOK (evI 2) (Env.lend (M28 ls) 0) (lc Tryd.f28 0) :=
  loopA 10 (live28 10) (live28 1010) p28_0 b28_0 X28_0 T (by kernel_rfl) rfl rfl hls (h28_0 ls) c28_0 hS
end Go.Proofs.YtmnbcnhpklejcaaDoor
namespace U
def mL (s : ByteArray) (k : Nat) (n : Int) : Int ⊕ Int := match marksL k s n with
  | .inl p => .inl p.2
  | .inr n => .inr n
theorem marksL_bad : ∀ (k : Nat) (s : ByteArray) (n : Int) (p : Int × Int), marksL k s n = .inl p → p.1 = -1
  | 0, s, n, p, h => by cases h
  | k + 1, s, n, p, h => by
    simp only [marksL] at h
    split at h
    · cases h
    · split at h
      · exact marksL_bad k _ _ p h
      · cases h; rfl
theorem marksL_ge : ∀ (k : Nat) (s : ByteArray) (n m : Int), marksL k s n = .inr m → n ≤ m
  | 0, s, n, m, h => by cases h; omega
  | k + 1, s, n, m, h => by
    simp only [marksL] at h
    split at h
    · cases h; omega
    · split at h
      · have := marksL_ge k _ _ m h; omega
      · cases h
end U
namespace Go.Proofs.YtmnbcnhpklejcaaDoor
def T28 (x : p28_0.T) : Tr (Int ⊕ Int) := .ite (decide (ByteArray.size x.1.1 ≤ 1048576 ∧ x.1.2.1 = 0)) (.spl (U.mL x.1.1 (ByteArray.size x.1.1) 0) 0 0) .fail
abbrev E28 : Env := M28 fun key x => bif Nat.beq key 10 then p28_0.ls (fun a => (T28 a).map X28_0) x else none
theorem r28 : ∀ (k : Nat) (s : ByteArray) (n : Nat), s.size ≤ k → n + k ≤ 1048576 → Rounds b28_0 ((s, (n : Int), ()), ()) (U.mL s k n)
  | 0, s, n, h1, h2 => by
    refine .exit ?_
    simp only [b28_0, B28_0, Tr.val, show ¬ ((0 : Int) < (s.size : Int)) by omega, decide_false, cond_false]
    rfl
  | k + 1, s, n, h1, h2 => by
    by_cases h0 : s.size = 0
    · refine .exit ?_
      simp only [b28_0, B28_0, Tr.val, show ¬ ((0 : Int) < (s.size : Int)) by omega, decide_false, cond_false]
      unfold U.mL U.marksL
      rw [if_pos h0]
    · have hp : (0 : Int) < (s.size : Int) := by omega
      have hsz : s.size ≤ 1048576 := by omega
      unfold U.mL U.marksL
      rw [if_neg h0]
      by_cases h3 : (U.first s).2.2 = 0
      · by_cases h4 : U.width (U.first s).1 = 0
        · obtain ⟨a, b⟩ := U.first_ok h3
          rw [if_pos ⟨h3, h4⟩]
          refine .step (y := ((s.extract (U.first s).2.1.toNat s.size, ((n + 1 : Nat) : Int), ()), ())) ?_ ?_
          · have hb : (0 : Int) ≤ (U.first s).2.1 ∧ (U.first s).2.1 ≤ (s.size : Int) := ⟨by omega, b⟩
            simp only [b28_0, B28_0, Tr.val, h3, h4, hp, hsz, hb, decide_true, decide_false, Bool.not_false, Bool.not_true, cond_true, cond_false, wrap64_nat (show n ≤ 1048576 by omega), and_self]
          · refine r28 k _ (n + 1) ?_ (by omega)
            rw [← bl_len, bl_ext, List.length_drop, List.length_take, bl_len]
            omega
        · rw [if_neg (fun h => h4 h.2)]
          refine .exit ?_
          simp only [b28_0, B28_0, Tr.val, h3, h4, hp, hsz, decide_true, decide_false, Bool.not_false, Bool.not_true, cond_true, cond_false]
      · rw [if_neg (fun h => h3 h.1)]
        refine .exit ?_
        simp only [b28_0, B28_0, Tr.val, h3, hp, hsz, decide_true, decide_false, Bool.not_false, Bool.not_true, cond_true, cond_false]
theorem L28 : LoopOK (evI 2) (E28.lend 0) (lc Tryd.f28 0) := by
  refine l28_0 (T := T28) (fun x => rfl) ?_
  rintro ⟨⟨s, n, z⟩, z'⟩ r h
  obtain ⟨h1, h2⟩ := pre_val h
  rw [Tr.val_spl] at h2
  cases h2
  have h1 := of_decide_eq_true h1
  have h3 : n = (0 : Int) := h1.2
  subst h3
  exact r28 _ s 0 (Nat.le_refl _) (by have := h1.1; dsimp at this; omega)
def d28 (a1 : ByteArray) (a2 : Int) (a31 : Int) (a32 : Int) (a33 : Int) : Tr (Bool) :=
  let v1 : Int := ((U.first a1).fst)
  let v2 : Int := ((U.first a1).snd.snd)
  let v3 : Int := ((U.first a1).snd.fst)
  let v4 : ByteArray := (a1.extract v3.toNat a1.size)
  let v5 : Int := ((U.mL v4 v4.size (0 : Int)).getRight?.getD (0 : Int))
  Tr.ite (!U.look (a31, a32, a33, ())) (Tr.ret false)
    (Tr.ite (decide (a2 < (0 : Int))) (Tr.ret false)
      (Tr.ite (decide ((2 : Int) < a2)) (Tr.ret false)
        (Tr.ite (decide (a1 = { data := #[] })) (Tr.ret (decide (a2 < (2 : Int))))
          (Tr.ite (decide (a1.size ≤ (1048576 : Nat)))
            (Tr.ite (!decide (v2 = (0 : Int))) (Tr.ret false)
              (Tr.ite (decide (a2 = (0 : Int))) (Tr.ret false)
                (Tr.ite (!decide (U.width v1 = a2)) (Tr.ret false)
                  (Tr.ite (decide ((0 : Int) ≤ v3 ∧ v3 ≤ (↑a1.size : Int)))
                    (Tr.ite (decide (v4.size ≤ (1048576 : Nat) ∧ (0 : Int) = (0 : Int))) (Tr.ite (U.mL v4 v4.size (0 : Int)).isLeft (Tr.ret false) (Tr.ret (decide (v5 ≤ (2 : Int))))) Tr.fail)
                    Tr.fail))))
            Tr.fail))))
def e28 (r : Bool) : FRes := { rs := Slot.av (AV.one (Leaf.dat Kd.bool r)), upd := [], new := [] }
@[reducible] def a28 : List AK := [AK.d celk]
@[reducible] def b28 : List BK := []
theorem t28 (a1 : ByteArray) (a2 : Int) (a31 : Int) (a32 : Int) (a33 : Int) : evFn (E28) Tryd.f28 [PM.data Kd.bool] (akAV a28 ((a1, a2, (a31, a32, a33, ()), ()), ())) (bkBs b28 ()) = (d28 a1 a2 a31 a32 a33).map e28 := by kernel_rfl
def s28 (C : akT a28 → Bool) (G : akT a28 → Bool) : FSpec := aspec a28 b28 e28 (fun x _ => C x) (fun x _ => G x)
def s28' (G : akT a28 → Bool) : FSpec := aspec0 a28 b28 e28 (fun x _ => G x)
theorem k28 {C : akT a28 → Bool} {G : akT a28 → Bool} (hd : ∀ (a1 : ByteArray) (a2 : Int) (a31 : Int) (a32 : Int) (a33 : Int), C ((a1, a2, (a31, a32, a33, ()), ()), ()) = true → (d28 a1 a2 a31 a32 a33).val = some (G ((a1, a2, (a31, a32, a33, ()), ()), ()))) (IO : ItOK Tryd.prog (E28) := by exact itOK_none rfl) (L : ∀ c, Tryd.f28.body = some c → LsOK (evI 2) ((E28).lend 0) c := by exact fun c _ => LsOK_none rfl c) : SpecOK Tryd.prog E0 28 (s28 C G) :=
  aspec_ok (ak := a28) (bl := b28) (e := e28) (c := fun x _ => C x) (g := fun x _ => G x) (E0 := E0) (E := E28) tab AG28 rfl rfl hm Tryd.func28 (by kernel_rfl) [PM.data Kd.bool] (fun X Y H => by obtain ⟨⟨a1, ⟨a2, ⟨⟨a31, ⟨a32, ⟨a33, _⟩⟩⟩, _⟩⟩⟩, _⟩ := X; exact val_of (t28 a1 a2 a31 a32 a33) (hd a1 a2 a31 a32 a33 H)) IO L
theorem k28' {G : akT a28 → Bool} (hd : ∀ (a1 : ByteArray) (a2 : Int) (a31 : Int) (a32 : Int) (a33 : Int), (d28 a1 a2 a31 a32 a33).val = some (G ((a1, a2, (a31, a32, a33, ()), ()), ()))) (IO : ItOK Tryd.prog (E28) := by exact itOK_none rfl) (L : ∀ c, Tryd.f28.body = some c → LsOK (evI 2) ((E28).lend 0) c := by exact fun c _ => LsOK_none rfl c) : SpecOK Tryd.prog E0 28 (s28' G) :=
  aspec0_ok (ak := a28) (bl := b28) (e := e28) (g := fun x _ => G x) (E0 := E0) (E := E28) tab AG28 rfl rfl hm Tryd.func28 (by kernel_rfl) [PM.data Kd.bool] (fun X Y => by obtain ⟨⟨a1, ⟨a2, ⟨⟨a31, ⟨a32, ⟨a33, _⟩⟩⟩, _⟩⟩⟩, _⟩ := X; exact val_of (t28 a1 a2 a31 a32 a33) (hd a1 a2 a31 a32 a33)) IO L
abbrev w28 : FSpec := s28 (fun x => decide (ByteArray.size x.1.1 ≤ 1048576)) fun x => U.cellR x.1
theorem wk28 : SpecOK Tryd.prog E0 28 w28 := by
  refine k28 (fun s w f g h H => ?_) (L := ls_ok (lcs := [lc Tryd.f28 0]) (rgs := []) (by kernel_rfl) (by kernel_rfl) L28 trivial)
  have H' : s.size ≤ 1048576 := of_decide_eq_true H
  show _ = some (U.cellR (s, w, (f, g, h, ()), ()))
  unfold U.cellR
  cases h5 : U.look (f, g, h, ()) with
  | false =>
    by_cases h0 : s.size = 0
    · simp only [d28, Tr.val, h5, Bool.not_false, cond_true, if_pos h0, Bool.false_and]
    · simp only [d28, Tr.val, h5, Bool.not_false, cond_true, if_neg h0, Bool.false_and, ite_self]
  | true =>
    by_cases h0 : s.size = 0
    · have := ba_nil h0
      subst this
      simp only [d28, Tr.val, h5, Bool.not_true, cond_false, if_pos h0, Bool.true_and, decide_true, cond_true, U.inn]
      by_cases w0 : w < 0
      · simp [w0, show ¬ 0 ≤ w by omega]
      · by_cases w2 : 2 < w
        · simp [w0, w2, show ¬ w ≤ 1 by omega]
        · by_cases w3 : w < 2
          · simp [w0, w2, w3, show 0 ≤ w by omega, show w ≤ 1 by omega]
          · simp [w0, w2, w3, show ¬ w ≤ 1 by omega]
    · have h1 := ba_ne h0
      by_cases h2 : (U.first s).2.2 = 0
      · obtain ⟨a, b⟩ := U.first_ok h2
        have hb : (0 : Int) ≤ (U.first s).2.1 ∧ (U.first s).2.1 ≤ (s.size : Int) := ⟨by omega, b⟩
        have hs : (s.extract (U.first s).2.1.toNat s.size).size ≤ 1048576 := by
          rw [← bl_len, bl_ext, List.length_drop, List.length_take, bl_len]
          omega
        by_cases w0 : w < 0
        · simp [d28, Tr.val, h5, w0, h0, U.inn, show ¬ 1 ≤ w by omega]
        by_cases w2 : 2 < w
        · simp [d28, Tr.val, h5, w0, w2, h0, U.inn, show ¬ w ≤ 2 by omega]
        by_cases w1 : w = 0
        · subst w1
          simp [d28, Tr.val, h5, h0, h1, h2, H', U.inn]
        have hw : U.inn w 1 2 = true := by unfold U.inn; rw [decide_eq_true (show 1 ≤ w by omega), decide_eq_true (show w ≤ 2 by omega)]; rfl
        by_cases h4 : U.width (U.first s).1 = w
        · simp only [d28, Tr.val, h5, h0, h1, h2, h4, w0, w1, w2, hw, hb, hs, H', decide_true, decide_false, cond_true, cond_false, Bool.not_true, Bool.not_false, if_true, if_false, and_self, Bool.true_and]
          unfold U.mL U.marks
          cases hm : U.marksL (s.extract (U.first s).2.1.toNat s.size).size (s.extract (U.first s).2.1.toNat s.size) 0 with
          | inl p =>
            have := U.marksL_bad _ _ _ _ hm
            simp [this, U.inn]
          | inr m =>
            have := U.marksL_ge _ _ _ _ hm
            simp [U.inn, this]
            try rfl
        · simp only [d28, Tr.val, h5, h0, h1, h2, h4, w0, w1, w2, hw, H', decide_true, decide_false, cond_true, cond_false, Bool.not_true, Bool.not_false, if_false, and_false]
      · by_cases w0 : w < 0
        · simp only [d28, Tr.val, h5, w0, h2, if_neg h0, decide_true, cond_true, cond_false, Bool.not_true, false_and, if_false]
        by_cases w2 : 2 < w
        · simp only [d28, Tr.val, h5, w0, w2, h2, if_neg h0, decide_true, decide_false, cond_true, cond_false, Bool.not_true, false_and, if_false]
        simp only [d28, Tr.val, h5, h1, h2, w0, w2, H', if_neg h0, decide_true, decide_false, cond_true, cond_false, Bool.not_true, Bool.not_false, if_false, false_and]
abbrev w123 : FSpec := s123 (fun x => decide (0 ≤ (x.2.1 : Int) ∧ (x.2.1 : Int) < (List.length (α := Cell) x.1 : Int) ∧ List.length (α := Cell) x.1 ≤ 1048576)) fun x => !U.whole x.1 x.2.1.toNat
theorem wk123 : SpecOK Tryd.prog E0 123 w123 := by
  refine k123 fun l i H => ?_
  obtain ⟨h0, h1, h2⟩ := of_decide_eq_true H
  dsimp only at h0 h1 h2
  obtain ⟨n, rfl⟩ := Int.eq_ofNat_of_zero_le h0
  show _ = some (!U.whole l n)
  have hn : n < l.length := Int.ofNat_lt.1 h1
  have w1 : IntKind.i64.wrap ((n : Int) + 1) = ((n + 1 : Nat) : Int) := wrap64_nat (by omega)
  unfold U.whole d123
  simp only [Tr.val, inB_nat hn, cond_true, w1, cw_eq]
  by_cases a : U.cw l n = 2
  · by_cases b : n + 1 < l.length
    · have i1 : inB ((n + 1 : Nat) : Int) l.length = true := inB_nat b
      have i2 : decide (((n + 1 : Nat) : Int) = (l.length : Int)) = false := decide_eq_false (by omega)
      simp only [a, b, i1, i2, cw_eq, decide_true, cond_true, cond_false, if_true, Bool.true_and]
    · have i2 : decide (((n + 1 : Nat) : Int) = (l.length : Int)) = true := decide_eq_true (by omega)
      simp only [a, b, i2, decide_true, decide_false, cond_true, if_true, Bool.false_and, Bool.not_false]
  · by_cases b : U.cw l n = 0
    · by_cases c : 0 < n
      · have w2 : IntKind.i64.wrap ((n : Int) - 1) = ((n - 1 : Nat) : Int) := by
          rw [wrap64_id (by omega) (by omega)]
          omega
        have i1 : inB ((n - 1 : Nat) : Int) l.length = true := inB_nat (by omega)
        have i2 : decide ((n : Int) = 0) = false := decide_eq_false (by omega)
        have a0 : ¬ (0 : Int) = 2 := by decide
        simp only [b, c, w2, i1, i2, cw_eq, a0, decide_true, decide_false, cond_true, cond_false, if_true, if_false, Bool.true_and]
      · have : n = 0 := by omega
        subst this
        simp [a, b]
    · simp [a, b]
abbrev G71 : List (Nat × FSpec) := [(28, w28), (123, w123)]
theorem AG71 : AllFn Tryd.prog E0 G71 := .cons wk28 (.cons wk123 .nil)
def live71 (key : Nat) : Lv :=
  bif Nat.beq key 2 then { ls := [1, 2, 8, 9, 10] } else bif Nat.beq key 1002 then { ls := [1, 2, 4] } else
  { ls := [] }
abbrev M71 (ls : Nat → VS → Option (Tr (Ex × VS))) : Env := (E0.withFns G71).loops live71 ls
@[reducible] def p71_0 : LP := { n := 30, sl := [.d (.int .i64), .c (Leaf.ptr ( 0) ( 0)), .d (celk.sl), .d (.int .i64), .d (.int .i64)], bl := [(0, .box [.d (celk.sl), .d (Kd.bool)])] }
def B71_0 (x0 : Int) (x2 : List Cell) (x3 : Int) (x4 : Int) (h0_0 : List Cell) (h0_1 : Bool) : Tr (p71_0.T ⊕ (Int × List Cell × Bool ⊕ Int × List Cell × Bool)) :=
  let v1 : Int := ((↑h0_0.length : Int))
  Tr.ite (decide (x4 < x3))
    (Tr.ite (inB x4 x2.length)
      (Tr.ite (decide (ByteArray.size (rget celk x2 x4).fst ≤ (1048576 : Nat)))
        (Tr.ite (!U.cellR (rget celk x2 x4)) (Tr.ret (Sum.inr (Sum.inl (x0, h0_0, h0_1))))
          (Tr.ite (decide ((0 : Int) ≤ x4 ∧ x4 < v1 ∧ h0_0.length ≤ (1048576 : Nat)))
            (Tr.ite (!U.whole h0_0 x4.toNat) (Tr.ret (Sum.inr (Sum.inl (x0, h0_0, h0_1)))) (Tr.ret (Sum.inl ((x0, x2, x3, IntKind.i64.wrap (x4 + (1 : Int)), ()), (h0_0, h0_1, ()), ())))) Tr.fail))
        Tr.fail)
      Tr.fail)
    (Tr.ret (Sum.inr (Sum.inr (x0, h0_0, h0_1))))
def X71_0 : (Int × List Cell × Bool ⊕ Int × List Cell × Bool) → Ex × VS
  | (.inl r) => Prod.mk Ex.ret { n := 30, v := [Slot.av (AV.one (Leaf.dat (.int .i64) r.fst)), Slot.av (AV.one (Leaf.ptr ( 0) ( 0))), Slot.av (AV.one (Leaf.kb false))], h := [( 0, Blk.box [Leaf.dat celk.sl r.snd.fst, Leaf.dat Kd.bool r.snd.snd])] }
  | (.inr r) => Prod.mk (Ex.exit ( 0)) { n := 30, v := [Slot.av (AV.one (Leaf.dat (.int .i64) r.fst)), Slot.av (AV.one (Leaf.ptr ( 0) ( 0))), Slot.av (AV.one Leaf.undef)], h := [( 0, Blk.box [Leaf.dat celk.sl r.snd.fst, Leaf.dat Kd.bool r.snd.snd])] }
def b71_0 : p71_0.T → Tr (p71_0.T ⊕ (Int × List Cell × Bool ⊕ Int × List Cell × Bool)) := fun ⟨⟨x0, ⟨x2, ⟨x3, ⟨x4, _⟩⟩⟩⟩, ⟨⟨h0_0, ⟨h0_1, _⟩⟩, _⟩⟩ => B71_0 x0 x2 x3 x4 h0_0 h0_1
theorem h71_0 (ls : Nat → VS → Option (Tr (Ex × VS))) (x : p71_0.T) : (evC (evI 2) (lc Tryd.f71 0) (Env.lend (M71 ls) 0) (unV (live71 2) (p71_0.V x))).map (decL 0 (live71 2) (live71 1002)) = (b71_0 x).map (encR p71_0.V X71_0) := by
  obtain ⟨⟨x0, ⟨x2, ⟨x3, ⟨x4, _⟩⟩⟩⟩, ⟨⟨h0_0, ⟨h0_1, _⟩⟩, _⟩⟩ := x; kernel_rfl
theorem c71_0 (x : p71_0.T) : canV 0 (live71 2) (unV (live71 2) (p71_0.V x)) = p71_0.V x := by
  obtain ⟨⟨x0, ⟨x2, ⟨x3, ⟨x4, _⟩⟩⟩⟩, ⟨⟨h0_0, ⟨h0_1, _⟩⟩, _⟩⟩ := x; kernel_rfl
theorem l71_0 {T : p71_0.T → Tr (Int × List Cell × Bool ⊕ Int × List Cell × Bool)} {ls : Nat → VS → Option (Tr (Ex × VS))} (hls : ∀ x, (Env.lend (M71 ls) 0).ls 2 x = p71_0.ls (fun a => (T a).map X71_0) x) (hS : ∀ x r, (T x).val = some r → Rounds b71_0 x r) : LoopOK (evI 2) (Env.lend (M71 ls) 0) (lc Tryd.f71 0) :=
  loopA 2 (live71 2) (live71 1002) p71_0 b71_0 X71_0 T (by kernel_rfl) rfl rfl hls (h71_0 ls) c71_0 hS
def T71 (x : p71_0.T) : Tr (Int × List Cell × Bool ⊕ Int × List Cell × Bool) :=
  .ite (decide ((x.1.2.2.1 : Int) = (List.length (α := Cell) x.1.2.1 : Int) ∧ (x.1.2.2.2.1 : Int) = 0 ∧ List.length (α := Cell) x.1.2.1 ≤ List.length (α := Cell) x.2.1.1 ∧ List.length (α := Cell) x.2.1.1 ≤ 1048576) && U.okc x.1.2.1)
    (.ite (allN (fun i => U.cellR (List.getD (α := Cell) x.1.2.1 i U.dC) && U.whole x.2.1.1 i) (List.length (α := Cell) x.1.2.1) 0) (.ret (.inr (x.1.1, x.2.1.1, x.2.1.2.1))) (.ret (.inl (x.1.1, x.2.1.1, x.2.1.2.1)))) .fail
abbrev E71 : Env := M71 fun key x => bif Nat.beq key 2 then p71_0.ls (fun a => (T71 a).map X71_0) x else none
theorem L71 : LoopOK (evI 2) (E71.lend 0) (lc Tryd.f71 0) := by
  refine l71_0 (T := T71) (fun x => rfl) ?_
  rintro ⟨⟨c, l, n, i, z⟩, ⟨m, s, z1⟩, z2⟩ r h
  obtain ⟨h1, h2⟩ := pre_val h
  rw [Bool.and_eq_true] at h1
  obtain ⟨h1, hok⟩ := h1
  obtain ⟨e1, e2, e3, e4⟩ := of_decide_eq_true h1
  dsimp only at e1 e2 e3 e4 hok h2
  subst e1
  subst e2
  have := Rounds.all (B := b71_0) (N := l.length) (fun i => ((c, l, (l.length : Int), (i : Int), ()), (m, s, ()), ())) (fun i => U.cellR (l.getD i U.dC) && U.whole m i) (.inl (c, m, s)) (.inr (c, m, s)) (fun i hi => ?_) ?_
  · cases ha : allN (fun i => U.cellR (l.getD i U.dC) && U.whole m i) l.length 0 <;> simp only [ha, Tr.val, cond_true, cond_false] at h2 this <;> cases h2 <;> exact this
  · have h3 := U.okc_at hok hi
    simp only [b71_0, B71_0, Tr.val, inB_nat hi, rgetC, h3, Int.toNat_natCast, show ((i : Int) < (l.length : Int)) by omega, show ((0 : Int) ≤ (i : Int) ∧ (i : Int) < (m.length : Int) ∧ m.length ≤ 1048576) by omega, decide_true, cond_true, wrap64_nat (show i ≤ 1048576 by omega)]
    cases U.cellR (l.getD i U.dC) <;> cases U.whole m i <;> rfl
  · simp only [b71_0, B71_0, Tr.val, show ¬ ((l.length : Int) < (l.length : Int)) by omega, decide_false, cond_false]
def d71 (a1 : List Cell) (a2 : Bool) (b : Int) : Tr (Bool) :=
  let v1 : Int := ((↑a1.length : Int))
  let v2 : Int := ((↑a1.length : Int))
  Tr.ite (decide (v2 = v1 ∧ (0 : Int) = (0 : Int) ∧ a1.length ≤ a1.length ∧ a1.length ≤ (1048576 : Nat)) && U.okc a1)
    (Tr.ite (allN (fun (i : Nat) => U.cellR (a1.getD i U.dC) && U.whole a1 i) a1.length (0 : Nat)) (Tr.ret (decide (v2 = b))) (Tr.ret false)) Tr.fail
def e71 (r : Bool) : FRes := { rs := Slot.av (AV.one (Leaf.dat Kd.bool r)), upd := [], new := [] }
@[reducible] def a71 : List AK := [AK.d link, AK.d (.int .i64)]
@[reducible] def b71 : List BK := []
theorem t71 (a1 : List Cell) (a2 : Bool) (b : Int) : evFn (E71) Tryd.f71 [PM.data Kd.bool] (akAV a71 ((a1, a2, ()), b, ())) (bkBs b71 ()) = (d71 a1 a2 b).map e71 := by kernel_rfl
def s71 (C : akT a71 → Bool) (G : akT a71 → Bool) : FSpec := aspec a71 b71 e71 (fun x _ => C x) (fun x _ => G x)
def s71' (G : akT a71 → Bool) : FSpec := aspec0 a71 b71 e71 (fun x _ => G x)
theorem k71 {C : akT a71 → Bool} {G : akT a71 → Bool} (hd : ∀ (a1 : List Cell) (a2 : Bool) (b : Int), C ((a1, a2, ()), b, ()) = true → (d71 a1 a2 b).val = some (G ((a1, a2, ()), b, ()))) (IO : ItOK Tryd.prog (E71) := by exact itOK_none rfl) (L : ∀ c, Tryd.f71.body = some c → LsOK (evI 2) ((E71).lend 0) c := by exact fun c _ => LsOK_none rfl c) : SpecOK Tryd.prog E0 71 (s71 C G) :=
  aspec_ok (ak := a71) (bl := b71) (e := e71) (c := fun x _ => C x) (g := fun x _ => G x) (E0 := E0) (E := E71) tab AG71 rfl rfl hm Tryd.func71 (by kernel_rfl) [PM.data Kd.bool] (fun X Y H => by obtain ⟨⟨a1, ⟨a2, _⟩⟩, ⟨b, _⟩⟩ := X; exact val_of (t71 a1 a2 b) (hd a1 a2 b H)) IO L
theorem k71' {G : akT a71 → Bool} (hd : ∀ (a1 : List Cell) (a2 : Bool) (b : Int), (d71 a1 a2 b).val = some (G ((a1, a2, ()), b, ()))) (IO : ItOK Tryd.prog (E71) := by exact itOK_none rfl) (L : ∀ c, Tryd.f71.body = some c → LsOK (evI 2) ((E71).lend 0) c := by exact fun c _ => LsOK_none rfl c) : SpecOK Tryd.prog E0 71 (s71' G) :=
  aspec0_ok (ak := a71) (bl := b71) (e := e71) (g := fun x _ => G x) (E0 := E0) (E := E71) tab AG71 rfl rfl hm Tryd.func71 (by kernel_rfl) [PM.data Kd.bool] (fun X Y => by obtain ⟨⟨a1, ⟨a2, _⟩⟩, ⟨b, _⟩⟩ := X; exact val_of (t71 a1 a2 b) (hd a1 a2 b)) IO L
abbrev w71 : FSpec := s71 (fun x => U.okc x.1.1) fun x => U.fitC x.1.1 && decide ((List.length (α := Cell) x.1.1 : Int) = (x.2.1 : Int))
theorem wk71 : SpecOK Tryd.prog E0 71 w71 := by
  refine k71 (fun l s n H => ?_) (L := ls_ok (lcs := [lc Tryd.f71 0]) (rgs := []) (by kernel_rfl) (by kernel_rfl) L71 trivial)
  have H : U.okc l = true := H
  have hl := U.okc_len H
  show _ = some (U.fitC l && decide ((l.length : Int) = n))
  unfold U.fitC
  simp only [d71, Tr.val, H, hl, Nat.le_refl, and_self, decide_true, Bool.and_self, cond_true]
  cases allN (fun i => U.cellR (l.getD i U.dC) && U.whole l i) l.length 0 <;> simp
def live24 (key : Nat) : Lv :=
  bif Nat.beq key 2 then { ls := [5, 6, 7] } else bif Nat.beq key 1002 then { ls := [2] } else
  { ls := [] }
abbrev M24 (ls : Nat → VS → Option (Tr (Ex × VS))) : Env := (E0.withFns [(71, w71)]).loops live24 ls
@[reducible] def p24_0 : LP := { n := 30, sl := [.d (link.sl), .d (.int .i64), .d (.int .i64)], bl := [] }
def B24_0 (x0 : List Line) (x1 : Int) (x2 : Int) : Tr (p24_0.T ⊕ (Unit ⊕ Unit)) :=
  let v1 : Int := ((↑(List.length (rget link x0 x2).fst) : Int))
  let v2 : Int := ((↑(List.length (rget link x0 x2).fst) : Int))
  Tr.ite (decide (x2 < x1))
    (Tr.ite (inB x2 x0.length)
      (Tr.ite (decide (v2 < (1 : Int))) (Tr.ret (Sum.inr (Sum.inl ())))
        (Tr.ite (decide ((80 : Int) < v2)) (Tr.ret (Sum.inr (Sum.inl ())))
          (Tr.ite (U.okc (rget link x0 x2).fst)
            (Tr.ite (!(U.fitC (rget link x0 x2).fst && decide (v1 = v2))) (Tr.ret (Sum.inr (Sum.inl ()))) (Tr.ret (Sum.inl ((x0, x1, IntKind.i64.wrap (x2 + (1 : Int)), ()), ())))) Tr.fail)))
      Tr.fail)
    (Tr.ret (Sum.inr (Sum.inr ())))
def X24_0 : (Unit ⊕ Unit) → Ex × VS
  | (.inl r) => Prod.mk Ex.ret { n := 30, v := [Slot.av (AV.one (Leaf.kb false))], h := [] }
  | (.inr r) => Prod.mk (Ex.exit ( 0)) { n := 30, v := [Slot.av (AV.one Leaf.undef)], h := [] }
def b24_0 : p24_0.T → Tr (p24_0.T ⊕ (Unit ⊕ Unit)) := fun ⟨⟨x0, ⟨x1, ⟨x2, _⟩⟩⟩, _⟩ => B24_0 x0 x1 x2
theorem h24_0 (ls : Nat → VS → Option (Tr (Ex × VS))) (x : p24_0.T) : (evC (evI 2) (lc Tryd.f24 0) (Env.lend (M24 ls) 0) (unV (live24 2) (p24_0.V x))).map (decL 0 (live24 2) (live24 1002)) = (b24_0 x).map (encR p24_0.V X24_0) := by
  obtain ⟨⟨x0, ⟨x1, ⟨x2, _⟩⟩⟩, _⟩ := x; kernel_rfl
theorem c24_0 (x : p24_0.T) : canV 0 (live24 2) (unV (live24 2) (p24_0.V x)) = p24_0.V x := by
  obtain ⟨⟨x0, ⟨x1, ⟨x2, _⟩⟩⟩, _⟩ := x; kernel_rfl
theorem l24_0 {T : p24_0.T → Tr (Unit ⊕ Unit)} {ls : Nat → VS → Option (Tr (Ex × VS))} (hls : ∀ x, (Env.lend (M24 ls) 0).ls 2 x = p24_0.ls (fun a => (T a).map X24_0) x) (hS : ∀ x r, (T x).val = some r → Rounds b24_0 x r) : LoopOK (evI 2) (Env.lend (M24 ls) 0) (lc Tryd.f24 0) :=
  loopA 2 (live24 2) (live24 1002) p24_0 b24_0 X24_0 T (by kernel_rfl) rfl rfl hls (h24_0 ls) c24_0 hS
def T26 (x : p26_0.T) : Tr (Unit ⊕ Unit) :=
  .ite (decide ((x.1.2.2.1 : Int) = (List.length (α := Line) x.1.1 : Int) ∧ (x.1.2.2.2.1 : Int) = 0 ∧ List.length (α := Line) x.1.1 = List.length (α := Line) x.1.2.1) && (decide (List.length (α := Line) x.1.1 ≤ 1048576) && List.all (α := Line) x.1.1 fun y => decide (y.1.length ≤ 1048576)))
    (.ite (U.eqLs x.1.1 x.1.2.1) (.ret (.inr ())) (.ret (.inl ()))) .fail
abbrev E26 : Env := M26 fun key x => bif Nat.beq key 4 then p26_0.ls (fun a => (T26 a).map X26_0) x else none
theorem L26 : LoopOK (evI 2) (E26.lend 0) (lc Tryd.f26 0) := by
  refine l26_0 (T := T26) (fun x => rfl) ?_
  rintro ⟨⟨l, m, n, i, z⟩, z3⟩ r h
  obtain ⟨g1, g2⟩ := pre_val h
  rw [Bool.and_eq_true, Bool.and_eq_true] at g1
  obtain ⟨g1, g3, g4⟩ := g1
  obtain ⟨e1, e2, e3⟩ := of_decide_eq_true g1
  have g3 : List.length (α := Line) l ≤ 1048576 := of_decide_eq_true g3
  dsimp only at e1 e2 e3 g2
  subst e1; subst e2
  have := Rounds.all (B := b26_0) (N := List.length (α := Line) l) (fun i => ((l, m, (List.length (α := Line) l : Int), (i : Int), ()), ())) (fun i => U.eqL (List.getD (α := Line) l i U.dL) (List.getD (α := Line) m i U.dL)) (.inl ()) (.inr ()) (fun i hi => ?_) ?_
  · have e : allN (fun i => U.eqL (List.getD (α := Line) l i U.dL) (List.getD (α := Line) m i U.dL)) (List.length (α := Line) l) 0 = U.eqLs l m := by
      unfold U.eqLs
      rw [decide_eq_true e3, Bool.true_and]
    rw [e] at this
    cases hd : U.eqLs l m <;> simp only [hd, Tr.val, cond_true, cond_false] at g2 this <;> cases g2 <;> exact this
  · have i2 : inB (i : Int) (List.length (α := Line) m) = true := inB_nat (by omega)
    have i3 : (List.getD (α := Line) l i U.dL).1.length ≤ 1048576 := by
      rw [getD_el hi]
      exact of_decide_eq_true (List.all_eq_true.1 g4 _ (List.getElem_mem hi))
    simp only [b26_0, B26_0, Tr.val, inB_nat hi, i2, i3, rgetL, show ((i : Int) < (List.length (α := Line) l : Int)) by omega, decide_true, cond_true, wrap64_nat (show i ≤ 1048576 by omega)]
    cases U.eqL (List.getD (α := Line) l i U.dL) (List.getD (α := Line) m i U.dL) <;> rfl
  · simp only [b26_0, B26_0, Tr.val, show ¬ ((List.length (α := Line) l : Int) < (List.length (α := Line) l : Int)) by omega, decide_false, cond_false]
def d26 (a : List Line) (b : List Line) : Tr (Bool) :=
  let v1 : Int := ((↑a.length : Int))
  let v2 : Int := ((↑a.length : Int))
  let v3 : Int := ((↑b.length : Int))
  Tr.ite (!decide (v2 = v3)) (Tr.ret false)
    (Tr.ite (decide (v2 = v1 ∧ (0 : Int) = (0 : Int) ∧ a.length = b.length) && (decide (a.length ≤ (1048576 : Nat)) && a.all fun (y : Line) => decide (y.fst.length ≤ (1048576 : Nat))))
      (Tr.ite (U.eqLs a b) (Tr.ret true) (Tr.ret false)) Tr.fail)
def e26 (r : Bool) : FRes := { rs := Slot.av (AV.one (Leaf.dat Kd.bool r)), upd := [], new := [] }
@[reducible] def a26 : List AK := [AK.d link.sl, AK.d link.sl]
@[reducible] def b26 : List BK := []
theorem t26 (a : List Line) (b : List Line) : evFn (E26) Tryd.f26 [PM.data Kd.bool] (akAV a26 (a, b, ())) (bkBs b26 ()) = (d26 a b).map e26 := by kernel_rfl
def s26 (C : akT a26 → Bool) (G : akT a26 → Bool) : FSpec := aspec a26 b26 e26 (fun x _ => C x) (fun x _ => G x)
def s26' (G : akT a26 → Bool) : FSpec := aspec0 a26 b26 e26 (fun x _ => G x)
theorem k26 {C : akT a26 → Bool} {G : akT a26 → Bool} (hd : ∀ (a : List Line) (b : List Line), C (a, b, ()) = true → (d26 a b).val = some (G (a, b, ()))) (IO : ItOK Tryd.prog (E26) := by exact itOK_none rfl) (L : ∀ c, Tryd.f26.body = some c → LsOK (evI 2) ((E26).lend 0) c := by exact fun c _ => LsOK_none rfl c) : SpecOK Tryd.prog E0 26 (s26 C G) :=
  aspec_ok (ak := a26) (bl := b26) (e := e26) (c := fun x _ => C x) (g := fun x _ => G x) (E0 := E0) (E := E26) tab (.cons wk25 .nil) rfl rfl hm Tryd.func26 (by kernel_rfl) [PM.data Kd.bool] (fun X Y H => by obtain ⟨a, ⟨b, _⟩⟩ := X; exact val_of (t26 a b) (hd a b H)) IO L
theorem k26' {G : akT a26 → Bool} (hd : ∀ (a : List Line) (b : List Line), (d26 a b).val = some (G (a, b, ()))) (IO : ItOK Tryd.prog (E26) := by exact itOK_none rfl) (L : ∀ c, Tryd.f26.body = some c → LsOK (evI 2) ((E26).lend 0) c := by exact fun c _ => LsOK_none rfl c) : SpecOK Tryd.prog E0 26 (s26' G) :=
  aspec0_ok (ak := a26) (bl := b26) (e := e26) (g := fun x _ => G x) (E0 := E0) (E := E26) tab (.cons wk25 .nil) rfl rfl hm Tryd.func26 (by kernel_rfl) [PM.data Kd.bool] (fun X Y => by obtain ⟨a, ⟨b, _⟩⟩ := X; exact val_of (t26 a b) (hd a b)) IO L
abbrev w26 : FSpec := s26 (fun x => decide (List.length (α := Line) x.1 ≤ 1048576) && List.all (α := Line) x.1 fun y => decide (y.1.length ≤ 1048576)) fun x => U.eqLs x.1 x.2.1
theorem wk26 : SpecOK Tryd.prog E0 26 w26 := by
  refine k26 (fun l m H => ?_) (L := ls_ok (lcs := [lc Tryd.f26 0]) (rgs := []) (by kernel_rfl) (by kernel_rfl) L26 trivial)
  have H : (decide (l.length ≤ 1048576) && l.all fun y => decide (y.1.length ≤ 1048576)) = true := H
  show _ = some (U.eqLs l m)
  by_cases h1 : l.length = m.length
  · have h2 : decide ((l.length : Int) = (m.length : Int)) = true := decide_eq_true (by omega)
    simp only [d26, Tr.val, h2, h1 ▸ H, h1, decide_true, Bool.not_true, Bool.and_self, cond_true, cond_false, and_self]
    cases U.eqLs l m <;> rfl
  · have h2 : decide ((l.length : Int) = (m.length : Int)) = false := decide_eq_false (by omega)
    simp only [d26, Tr.val, h2, Bool.not_false, cond_true, U.eqLs, decide_eq_false h1, Bool.false_and]
def T24 (x : p24_0.T) : Tr (Unit ⊕ Unit) :=
  .ite (decide ((x.1.2.1 : Int) = (List.length (α := Line) x.1.1 : Int) ∧ (x.1.2.2.1 : Int) = 0) && U.okl x.1.1)
    (.ite (List.any (α := Line) x.1.1 fun y => U.odd y.1) (.ret (.inl ())) (.ret (.inr ()))) .fail
abbrev E24 : Env := M24 fun key x => bif Nat.beq key 2 then p24_0.ls (fun a => (T24 a).map X24_0) x else none
theorem L24 : LoopOK (evI 2) (E24.lend 0) (lc Tryd.f24 0) := by
  refine l24_0 (T := T24) (fun x => rfl) ?_
  rintro ⟨⟨l, n, i, z⟩, z3⟩ r h
  obtain ⟨g1, g2⟩ := pre_val h
  rw [Bool.and_eq_true] at g1
  obtain ⟨g1, g3⟩ := g1
  obtain ⟨e1, e2⟩ := of_decide_eq_true g1
  dsimp only at e1 e2 g2 g3
  subst e1; subst e2
  have hl := U.okl_len g3
  have := Rounds.all (B := b24_0) (N := l.length) (fun i => ((l, (l.length : Int), (i : Int), ()), ())) (fun i => !U.odd (l.getD i U.dL).1) (.inl ()) (.inr ()) (fun i hi => ?_) ?_
  · have e : allN (fun i => !U.odd (l.getD i U.dL).1) l.length 0 = !(l.any fun y => U.odd y.1) := by
      rw [allN_list (q := fun y : Line => !U.odd y.1), List.not_any_eq_all_not]
    rw [e] at this
    cases hd : (List.any (α := Line) l fun y => U.odd y.1) <;> simp only [hd, Tr.val, Bool.not_true, Bool.not_false, cond_true, cond_false] at g2 this <;> cases g2 <;> exact this
  · have h3 := U.okl_at g3 hi
    simp only [b24_0, B24_0, Tr.val, inB_nat hi, rgetL, h3, show ((i : Int) < (l.length : Int)) by omega, decide_true, cond_true, wrap64_nat (show i ≤ 1048576 by omega), Bool.and_true]
    unfold U.odd
    by_cases h4 : ((l.getD i U.dL).1.length : Int) < 1
    · simp only [h4, show ¬ 1 ≤ (l.getD i U.dL).1.length by omega, decide_true, decide_false, cond_true, Bool.false_and, Bool.not_false, Bool.not_true, cond_false]
    · by_cases h5 : (80 : Int) < ((l.getD i U.dL).1.length : Int)
      · simp only [h4, h5, show ¬ (l.getD i U.dL).1.length ≤ 80 by omega, decide_true, decide_false, cond_true, cond_false, Bool.false_and, Bool.and_false, Bool.not_false, Bool.not_true]
      · simp only [h4, h5, show (l.getD i U.dL).1.length ≤ 80 by omega, show 1 ≤ (l.getD i U.dL).1.length by omega, decide_true, decide_false, cond_false, Bool.true_and, Bool.not_not]
        cases U.fitC (l.getD i U.dL).1 <;> rfl
  · simp only [b24_0, B24_0, Tr.val, show ¬ ((l.length : Int) < (l.length : Int)) by omega, decide_false, cond_false]
def d24 (a : List Line) : Tr (Bool) :=
  let v1 : Int := ((↑a.length : Int))
  let v2 : Int := ((↑a.length : Int))
  Tr.ite (decide (v2 = v1 ∧ (0 : Int) = (0 : Int)) && U.okl a) (Tr.ite (a.any fun (y : Line) => U.odd y.fst) (Tr.ret false) (Tr.ret true)) Tr.fail
def e24 (r : Bool) : FRes := { rs := Slot.av (AV.one (Leaf.dat Kd.bool r)), upd := [], new := [] }
@[reducible] def a24 : List AK := [AK.d link.sl]
@[reducible] def b24 : List BK := []
theorem t24 (a : List Line) : evFn (E24) Tryd.f24 [PM.data Kd.bool] (akAV a24 (a, ())) (bkBs b24 ()) = (d24 a).map e24 := by kernel_rfl
def s24 (C : akT a24 → Bool) (G : akT a24 → Bool) : FSpec := aspec a24 b24 e24 (fun x _ => C x) (fun x _ => G x)
def s24' (G : akT a24 → Bool) : FSpec := aspec0 a24 b24 e24 (fun x _ => G x)
theorem k24 {C : akT a24 → Bool} {G : akT a24 → Bool} (hd : ∀ (a : List Line), C (a, ()) = true → (d24 a).val = some (G (a, ()))) (IO : ItOK Tryd.prog (E24) := by exact itOK_none rfl) (L : ∀ c, Tryd.f24.body = some c → LsOK (evI 2) ((E24).lend 0) c := by exact fun c _ => LsOK_none rfl c) : SpecOK Tryd.prog E0 24 (s24 C G) :=
  aspec_ok (ak := a24) (bl := b24) (e := e24) (c := fun x _ => C x) (g := fun x _ => G x) (E0 := E0) (E := E24) tab (.cons wk71 .nil) rfl rfl hm Tryd.func24 (by kernel_rfl) [PM.data Kd.bool] (fun X Y H => by obtain ⟨a, _⟩ := X; exact val_of (t24 a) (hd a H)) IO L
theorem k24' {G : akT a24 → Bool} (hd : ∀ (a : List Line), (d24 a).val = some (G (a, ()))) (IO : ItOK Tryd.prog (E24) := by exact itOK_none rfl) (L : ∀ c, Tryd.f24.body = some c → LsOK (evI 2) ((E24).lend 0) c := by exact fun c _ => LsOK_none rfl c) : SpecOK Tryd.prog E0 24 (s24' G) :=
  aspec0_ok (ak := a24) (bl := b24) (e := e24) (g := fun x _ => G x) (E0 := E0) (E := E24) tab (.cons wk71 .nil) rfl rfl hm Tryd.func24 (by kernel_rfl) [PM.data Kd.bool] (fun X Y => by obtain ⟨a, _⟩ := X; exact val_of (t24 a) (hd a)) IO L
abbrev w24 : FSpec := s24 (fun x => U.okl x.1) fun x => !(List.any (α := Line) x.1 fun y => U.odd y.1)
theorem wk24 : SpecOK Tryd.prog E0 24 w24 := by
  refine k24 (fun l H => ?_) (L := ls_ok (lcs := [lc Tryd.f24 0]) (rgs := []) (by kernel_rfl) (by kernel_rfl) L24 trivial)
  have H : U.okl l = true := H
  show _ = some (!(l.any fun y => U.odd y.1))
  simp only [d24, Tr.val, H, decide_true, and_self, Bool.and_self, cond_true]
  cases l.any fun y => U.odd y.1 <;> rfl
def d21 (a1 : Int) (a2 : List Line) : Tr (Bool) :=
  let v1 : Int := ((↑a2.length : Int))
  Tr.ite (decide ((0 : Int) ≤ a1))
    (Tr.ite (decide (a1 ≤ (40 : Int))) (Tr.ite (decide (v1 ≤ a1)) (Tr.ite (U.okl a2) (Tr.ret !a2.any fun (y : Line) => U.odd y.fst) Tr.fail) (Tr.ret false)) (Tr.ret false)) (Tr.ret false)
def e21 (r : Bool) : FRes := { rs := Slot.av (AV.one (Leaf.dat Kd.bool r)), upd := [], new := [] }
@[reducible] def a21 : List AK := [AK.d bakk]
@[reducible] def b21 : List BK := []
theorem t21 (a1 : Int) (a2 : List Line) : evFn (E0.withFns [((24 : Nat), w24)]) Tryd.f21 [PM.data Kd.bool] (akAV a21 ((a1, a2, ()), ())) (bkBs b21 ()) = (d21 a1 a2).map e21 := by kernel_rfl
def s21 (C : akT a21 → Bool) (G : akT a21 → Bool) : FSpec := aspec a21 b21 e21 (fun x _ => C x) (fun x _ => G x)
def s21' (G : akT a21 → Bool) : FSpec := aspec0 a21 b21 e21 (fun x _ => G x)
theorem k21 {C : akT a21 → Bool} {G : akT a21 → Bool} (hd : ∀ (a1 : Int) (a2 : List Line), C ((a1, a2, ()), ()) = true → (d21 a1 a2).val = some (G ((a1, a2, ()), ()))) (IO : ItOK Tryd.prog (E0.withFns [((24 : Nat), w24)]) := by exact itOK_none rfl) (L : ∀ c, Tryd.f21.body = some c → LsOK (evI 2) ((E0.withFns [((24 : Nat), w24)]).lend 0) c := by exact fun c _ => LsOK_none rfl c) : SpecOK Tryd.prog E0 21 (s21 C G) :=
  aspec_ok (ak := a21) (bl := b21) (e := e21) (c := fun x _ => C x) (g := fun x _ => G x) (E0 := E0) (E := E0.withFns [((24 : Nat), w24)]) tab (.cons wk24 .nil) rfl rfl hm Tryd.func21 (by kernel_rfl) [PM.data Kd.bool] (fun X Y H => by obtain ⟨⟨a1, ⟨a2, _⟩⟩, _⟩ := X; exact val_of (t21 a1 a2) (hd a1 a2 H)) IO L
theorem k21' {G : akT a21 → Bool} (hd : ∀ (a1 : Int) (a2 : List Line), (d21 a1 a2).val = some (G ((a1, a2, ()), ()))) (IO : ItOK Tryd.prog (E0.withFns [((24 : Nat), w24)]) := by exact itOK_none rfl) (L : ∀ c, Tryd.f21.body = some c → LsOK (evI 2) ((E0.withFns [((24 : Nat), w24)]).lend 0) c := by exact fun c _ => LsOK_none rfl c) : SpecOK Tryd.prog E0 21 (s21' G) :=
  aspec0_ok (ak := a21) (bl := b21) (e := e21) (g := fun x _ => G x) (E0 := E0) (E := E0.withFns [((24 : Nat), w24)]) tab (.cons wk24 .nil) rfl rfl hm Tryd.func21 (by kernel_rfl) [PM.data Kd.bool] (fun X Y => by obtain ⟨⟨a1, ⟨a2, _⟩⟩, _⟩ := X; exact val_of (t21 a1 a2) (hd a1 a2)) IO L
abbrev w21 : FSpec := s21 (fun x => U.okl x.1.2.1) fun x => keepB x.1
theorem wk21 : SpecOK Tryd.prog E0 21 w21 := by
  refine k21 fun n l H => ?_
  have H : U.okl l = true := H
  show _ = some (keepB (n, l, ()))
  unfold keepB
  by_cases h1 : 0 ≤ n <;> by_cases h2 : n ≤ 40 <;> by_cases h3 : (l.length : Int) ≤ n <;> simp [d21, Tr.val, H, h1, h2, h3]
def d23 (a1 : Int) (a2 : List Line) (b1 : Int) (b2 : List Line) : Tr (Bool) :=
  Tr.ite (decide (a1 = b1)) (Tr.ite (decide (a2.length ≤ (1048576 : Nat)) && a2.all fun (y : Line) => decide (y.fst.length ≤ (1048576 : Nat))) (Tr.ret (U.eqLs a2 b2)) Tr.fail) (Tr.ret false)
def e23 (r : Bool) : FRes := { rs := Slot.av (AV.one (Leaf.dat Kd.bool r)), upd := [], new := [] }
@[reducible] def a23 : List AK := [AK.d bakk, AK.d bakk]
@[reducible] def b23 : List BK := []
theorem t23 (a1 : Int) (a2 : List Line) (b1 : Int) (b2 : List Line) : evFn (E0.withFns [((26 : Nat), w26)]) Tryd.f23 [PM.data Kd.bool] (akAV a23 ((a1, a2, ()), (b1, b2, ()), ())) (bkBs b23 ()) = (d23 a1 a2 b1 b2).map e23 := by kernel_rfl
def s23 (C : akT a23 → Bool) (G : akT a23 → Bool) : FSpec := aspec a23 b23 e23 (fun x _ => C x) (fun x _ => G x)
def s23' (G : akT a23 → Bool) : FSpec := aspec0 a23 b23 e23 (fun x _ => G x)
theorem k23 {C : akT a23 → Bool} {G : akT a23 → Bool} (hd : ∀ (a1 : Int) (a2 : List Line) (b1 : Int) (b2 : List Line), C ((a1, a2, ()), (b1, b2, ()), ()) = true → (d23 a1 a2 b1 b2).val = some (G ((a1, a2, ()), (b1, b2, ()), ()))) (IO : ItOK Tryd.prog (E0.withFns [((26 : Nat), w26)]) := by exact itOK_none rfl) (L : ∀ c, Tryd.f23.body = some c → LsOK (evI 2) ((E0.withFns [((26 : Nat), w26)]).lend 0) c := by exact fun c _ => LsOK_none rfl c) : SpecOK Tryd.prog E0 23 (s23 C G) :=
  aspec_ok (ak := a23) (bl := b23) (e := e23) (c := fun x _ => C x) (g := fun x _ => G x) (E0 := E0) (E := E0.withFns [((26 : Nat), w26)]) tab (.cons wk26 .nil) rfl rfl hm Tryd.func23 (by kernel_rfl) [PM.data Kd.bool] (fun X Y H => by obtain ⟨⟨a1, ⟨a2, _⟩⟩, ⟨⟨b1, ⟨b2, _⟩⟩, _⟩⟩ := X; exact val_of (t23 a1 a2 b1 b2) (hd a1 a2 b1 b2 H)) IO L
theorem k23' {G : akT a23 → Bool} (hd : ∀ (a1 : Int) (a2 : List Line) (b1 : Int) (b2 : List Line), (d23 a1 a2 b1 b2).val = some (G ((a1, a2, ()), (b1, b2, ()), ()))) (IO : ItOK Tryd.prog (E0.withFns [((26 : Nat), w26)]) := by exact itOK_none rfl) (L : ∀ c, Tryd.f23.body = some c → LsOK (evI 2) ((E0.withFns [((26 : Nat), w26)]).lend 0) c := by exact fun c _ => LsOK_none rfl c) : SpecOK Tryd.prog E0 23 (s23' G) :=
  aspec0_ok (ak := a23) (bl := b23) (e := e23) (g := fun x _ => G x) (E0 := E0) (E := E0.withFns [((26 : Nat), w26)]) tab (.cons wk26 .nil) rfl rfl hm Tryd.func23 (by kernel_rfl) [PM.data Kd.bool] (fun X Y => by obtain ⟨⟨a1, ⟨a2, _⟩⟩, ⟨⟨b1, ⟨b2, _⟩⟩, _⟩⟩ := X; exact val_of (t23 a1 a2 b1 b2) (hd a1 a2 b1 b2)) IO L
def d82 (a : ByteArray) : Tr (List Cell × Bool) :=
  Tr.ret ([(a, (1 : Int), ((0 : Int), (0 : Int), (0 : Int), ()), ())], false)
def e82 (r : List Cell × Bool) : FRes := { rs := Slot.av (AV.agg [Leaf.dat celk.sl r.fst, Leaf.dat Kd.bool r.snd]), upd := [], new := [] }
@[reducible] def a82 : List AK := [AK.d Kd.str]
@[reducible] def b82 : List BK := []
theorem t82 (a : ByteArray) : evFn (E0) Tryd.f82 [PM.data link] (akAV a82 (a, ())) (bkBs b82 ()) = (d82 a).map e82 := by kernel_rfl
def s82 (C : akT a82 → Bool) (G : akT a82 → List Cell × Bool) : FSpec := aspec a82 b82 e82 (fun x _ => C x) (fun x _ => G x)
def s82' (G : akT a82 → List Cell × Bool) : FSpec := aspec0 a82 b82 e82 (fun x _ => G x)
theorem k82 {C : akT a82 → Bool} {G : akT a82 → List Cell × Bool} (hd : ∀ (a : ByteArray), C (a, ()) = true → (d82 a).val = some (G (a, ()))) (IO : ItOK Tryd.prog (E0) := by exact itOK_none rfl) (L : ∀ c, Tryd.f82.body = some c → LsOK (evI 2) ((E0).lend 0) c := by exact fun c _ => LsOK_none rfl c) : SpecOK Tryd.prog E0 82 (s82 C G) :=
  aspec_ok (ak := a82) (bl := b82) (e := e82) (c := fun x _ => C x) (g := fun x _ => G x) (E0 := E0) (E := E0) tab .nil rfl rfl hm Tryd.func82 (by kernel_rfl) [PM.data link] (fun X Y H => by obtain ⟨a, _⟩ := X; exact val_of (t82 a) (hd a H)) IO L
theorem k82' {G : akT a82 → List Cell × Bool} (hd : ∀ (a : ByteArray), (d82 a).val = some (G (a, ()))) (IO : ItOK Tryd.prog (E0) := by exact itOK_none rfl) (L : ∀ c, Tryd.f82.body = some c → LsOK (evI 2) ((E0).lend 0) c := by exact fun c _ => LsOK_none rfl c) : SpecOK Tryd.prog E0 82 (s82' G) :=
  aspec0_ok (ak := a82) (bl := b82) (e := e82) (g := fun x _ => G x) (E0 := E0) (E := E0) tab .nil rfl rfl hm Tryd.func82 (by kernel_rfl) [PM.data link] (fun X Y => by obtain ⟨a, _⟩ := X; exact val_of (t82 a) (hd a)) IO L
end Go.Proofs.YtmnbcnhpklejcaaDoor
