/- Part 4 of what the proof leans on: an evaluator of Go code over plain data, with its soundness; contracts of functions; laws of plain data. -/
import Derived.Laws.Externs
import Derived.Test.YtmnbcnhpklejcaaDoorZk3
section
set_option linter.unusedVariables false
set_option linter.unusedSimpArgs false
set_option maxRecDepth 20000
open Go Go.Ev
namespace U
open Go.Proofs.YtmnbcnhpklejcaaDoor
theorem bt_strOf {l : List Int} (h : ∀ x ∈ l, 0 ≤ x ∧ x ≤ 255) {i : Nat} (hi : i < l.length) : bt (strOf l) (i : Int) = l.getD i 0 := by
  rw [bt_eq (by omega)]
  have e : bl (strOf l) = l.map fun n => UInt8.ofNat n.toNat := by unfold strOf; rw [bl_mk]
  obtain ⟨h0, h1⟩ := h l[i] (List.getElem_mem hi)
  rw [e, Int.toNat_natCast, getD_el (by simpa using hi), List.getElem_map, getD_el hi]
  show ((UInt8.ofNat l[i].toNat).toNat : Int) = l[i]
  rw [UInt8.toNat_ofNat']
  have : l[i].toNat % 2 ^ 8 = l[i].toNat := Nat.mod_eq_of_lt (by omega)
  rw [this]
  omega
theorem bytesL_at {s : ByteArray} {i : Nat} (hi : i < s.size) : (bytesL s).getD i 0 = bt s (i : Int) := by
  have h2 : i < s.data.toList.length := by
    have := bl_len s
    unfold bl at this
    omega
  rw [bt_eq (by omega), Int.toNat_natCast]
  unfold bytesL bl
  rw [List.getD_eq_getElem?_getD, List.getD_eq_getElem?_getD, List.getElem?_map, List.getElem?_eq_getElem h2]
  rfl
theorem bytesL_in {s : ByteArray} : ∀ x ∈ bytesL s, 0 ≤ x ∧ x ≤ 255 := by
  intro x hx
  unfold bytesL at hx
  obtain ⟨b, _, rfl⟩ := List.mem_map.1 hx
  have := UInt8.toNat_lt b
  omega
theorem fill_at {s : ByteArray} {n : Nat} {c : Int} (hc : 0 ≤ c ∧ c ≤ 255) (hs : s.size ≤ n) {i : Nat} (hi : i < n) : bt (strOf (fillTo (bytesL s) n c)) (i : Int) = if i < s.size then bt s (i : Int) else c := by
  have hl : (bytesL s).length = s.size := Ev.bytesL_len
  rw [bt_strOf (fun x hx => ?_) (by rw [fillTo_len (by omega)]; exact hi)]
  · unfold fillTo
    by_cases h : i < s.size
    · rw [if_pos h, ← bytesL_at h, List.getD_eq_getElem?_getD, List.getD_eq_getElem?_getD, List.getElem?_append_left (by omega)]
    · rw [if_neg h, List.getD_eq_getElem?_getD, List.getElem?_append_right (by omega), List.getElem?_replicate, if_pos (by omega)]
      rfl
  · rcases List.mem_append.1 hx with hx | hx
    · exact bytesL_in x hx
    · rw [List.eq_of_mem_replicate hx]; exact hc
theorem fill_size {s : ByteArray} {n : Nat} {c : Int} (hs : s.size ≤ n) : (strOf (fillTo (bytesL s) n c)).size = n := by
  rw [strOf_size, fillTo_len (by rw [Ev.bytesL_len]; exact hs)]
theorem rv2 {s : ByteArray} (h : s.size = 2) : rv s = if cont (bt s (1 : Nat)) = true then 64 * (bt s 0 - 192) + bt s (1 : Nat) - 128 else -1 := by
  unfold rv vL
  rw [h, if_neg (by omega)]
  simp only [vl, head, List.getD, show (2 : Nat) - 1 = 0 + 1 from rfl]
  by_cases h1 : cont (bt s (1 : Nat)) = true <;> simp_all
theorem rv3 {s : ByteArray} (h : s.size = 3) : rv s = if cont (bt s (1 : Nat)) = true ∧ cont (bt s (2 : Nat)) = true then 64 * (64 * (bt s 0 - 224) + bt s (1 : Nat) - 128) + bt s (2 : Nat) - 128 else -1 := by
  unfold rv vL
  rw [h, if_neg (by omega)]
  simp only [vl, head, List.getD, show (3 : Nat) - 1 = 0 + 1 + 1 from rfl]
  by_cases h1 : cont (bt s (1 : Nat)) = true <;> by_cases h2 : cont (bt s (2 : Nat)) = true <;> simp_all
theorem rv4 {s : ByteArray} (h : s.size = 4) : rv s = if cont (bt s (1 : Nat)) = true ∧ cont (bt s (2 : Nat)) = true ∧ cont (bt s (3 : Nat)) = true then 64 * (64 * (64 * (bt s 0 - 240) + bt s (1 : Nat) - 128) + bt s (2 : Nat) - 128) + bt s (3 : Nat) - 128 else -1 := by
  unfold rv vL
  rw [h, if_neg (by omega)]
  simp only [vl, head, List.getD, show (4 : Nat) - 1 = 0 + 1 + 1 + 1 from rfl]
  by_cases h1 : cont (bt s (1 : Nat)) = true <;> by_cases h2 : cont (bt s (2 : Nat)) = true <;> by_cases h3 : cont (bt s (3 : Nat)) = true <;> simp_all
theorem cont_iff {c : Int} : cont c = true ↔ 128 ≤ c ∧ c ≤ 191 := by simp [cont]
theorem beg2 {s : ByteArray} {n : Nat} (hn : need (bt s 0) = n) (h2 : 2 ≤ n) (hs : 2 ≤ s.size) : beg (s.extract 0 2) n = ok1 s := by
  have hz : (s.extract 0 2).size = 2 := size_pre hs
  have t0 : bt (s.extract 0 2) 0 = bt s 0 := bt_pre (i := 0) (by omega) hs
  have t1 : bt (s.extract 0 2) (1 : Nat) = bt s (1 : Nat) := bt_pre (i := 1) (by omega) hs
  have F : ∀ (c : Int), 0 ≤ c ∧ c ≤ 255 → ∀ i, i < n → bt (strOf (fillTo (bytesL (s.extract 0 2)) n c)) (i : Nat) = if i < 2 then bt (s.extract 0 2) (i : Nat) else c := fun c hc i hi => by
    rw [fill_at hc (by omega) hi, hz]
  have Z : ∀ c, (strOf (fillTo (bytesL (s.extract 0 2)) n c)).size = n := fun c => fill_size (by omega)
  have b1 := bt_ge s (1 : Nat)
  have b2 := bt_lt s (1 : Nat)
  have hN := need_cases (bt s 0)
  have e1 : bt s 1 = bt s (1 : Nat) := rfl
  unfold beg ok1
  rw [hz, e1]
  have ha : allN (fun i => cont (bt (s.extract 0 2) ((i + 1 : Nat) : Int))) (2 - 1) 0 = cont (bt s (1 : Nat)) := by
    show (cont (bt (s.extract 0 2) ((0 + 1 : Nat) : Int)) && true) = _
    rw [Bool.and_true]
    exact congrArg cont t1
  rw [ha]
  have hc8 : cont 128 = true := by decide
  have hc9 : cont 191 = true := by decide
  have f0 : ∀ c, 0 ≤ c ∧ c ≤ 255 → bt (strOf (fillTo (bytesL (s.extract 0 2)) n c)) 0 = bt s 0 := fun c hc => (F c hc 0 (by omega)).trans (by rw [if_pos (by omega)]; exact t0)
  have f1 : ∀ c, 0 ≤ c ∧ c ≤ 255 → bt (strOf (fillTo (bytesL (s.extract 0 2)) n c)) (1 : Nat) = bt s (1 : Nat) := fun c hc => (F c hc 1 (by omega)).trans (by rw [if_pos (by omega)]; exact t1)
  have f2 : ∀ c, 0 ≤ c ∧ c ≤ 255 → 3 ≤ n → bt (strOf (fillTo (bytesL (s.extract 0 2)) n c)) (2 : Nat) = c := fun c hc h => (F c hc 2 (by omega)).trans (by rw [if_neg (by omega)])
  have f3 : ∀ c, 0 ≤ c ∧ c ≤ 255 → 4 ≤ n → bt (strOf (fillTo (bytesL (s.extract 0 2)) n c)) (3 : Nat) = c := fun c hc h => (F c hc 3 (by omega)).trans (by rw [if_neg (by omega)])
  cases hcb : cont (bt s (1 : Nat)) with
  | false =>
    have h1 := lo_ge (bt s 0)
    have h2 := hi_le (bt s 0)
    have : ¬ (128 ≤ bt s (1 : Nat) ∧ bt s (1 : Nat) ≤ 191) := fun h => by rw [cont_iff.2 h] at hcb; cases hcb
    rw [Bool.false_and, eq_comm, Bool.and_eq_false_iff, decide_eq_false_iff_not, decide_eq_false_iff_not]
    omega
  | true =>
    have h1 := cont_iff.1 hcb
    rw [Bool.true_and]
    have hn3 : n = 2 ∨ n = 3 ∨ n = 4 := by omega
    rcases hn3 with rfl | rfl | rfl
    · rw [rv2 (Z 128), rv2 (Z 191), f0 _ (by omega), f0 _ (by omega), f1 _ (by omega), f1 _ (by omega), if_pos hcb]
      rw [Bool.eq_iff_iff, show floor 2 = 128 from rfl]
      simp only [rng, lo, hi, Bool.and_eq_true, Bool.not_eq_true', Bool.or_eq_false_iff, decide_eq_false_iff_not, decide_eq_true_eq, Bool.or_eq_true]
      repeat' split
      all_goals simp only [decide_eq_true_eq]
      all_goals omega
    · rw [rv3 (Z 128), rv3 (Z 191), f0 _ (by omega), f0 _ (by omega), f1 _ (by omega), f1 _ (by omega), f2 _ (by omega) (by omega), f2 _ (by omega) (by omega), if_pos ⟨hcb, hc8⟩, if_pos ⟨hcb, hc9⟩]
      rw [Bool.eq_iff_iff, show floor 3 = 2048 from rfl]
      simp only [rng, lo, hi, Bool.and_eq_true, Bool.not_eq_true', Bool.or_eq_false_iff, decide_eq_false_iff_not, decide_eq_true_eq, Bool.or_eq_true]
      repeat' split
      all_goals simp only [decide_eq_true_eq]
      all_goals omega
    · rw [rv4 (Z 128), rv4 (Z 191), f0 _ (by omega), f0 _ (by omega), f1 _ (by omega), f1 _ (by omega), f2 _ (by omega) (by omega), f2 _ (by omega) (by omega), f3 _ (by omega) (by omega), f3 _ (by omega) (by omega), if_pos ⟨hcb, hc8, hc8⟩, if_pos ⟨hcb, hc9, hc9⟩]
      rw [Bool.eq_iff_iff, show floor 4 = 65536 from rfl]
      simp only [rng, lo, hi, Bool.and_eq_true, Bool.not_eq_true', Bool.or_eq_false_iff, decide_eq_false_iff_not, decide_eq_true_eq, Bool.or_eq_true]
      repeat' split
      all_goals simp only [decide_eq_true_eq]
      all_goals omega
theorem beg3 {s : ByteArray} {n : Nat} (hn : need (bt s 0) = n) (h2 : 3 ≤ n) (hs : 3 ≤ s.size) (ho : ok1 s = true) : beg (s.extract 0 3) n = cont (bt s (2 : Nat)) := by
  have hz : (s.extract 0 3).size = 3 := size_pre hs
  have t0 : bt (s.extract 0 3) 0 = bt s 0 := bt_pre (i := 0) (by omega) hs
  have t1 : bt (s.extract 0 3) (1 : Nat) = bt s (1 : Nat) := bt_pre (i := 1) (by omega) hs
  have t2 : bt (s.extract 0 3) (2 : Nat) = bt s (2 : Nat) := bt_pre (i := 2) (by omega) hs
  have F : ∀ (c : Int), 0 ≤ c ∧ c ≤ 255 → ∀ i, i < n → bt (strOf (fillTo (bytesL (s.extract 0 3)) n c)) (i : Nat) = if i < 3 then bt (s.extract 0 3) (i : Nat) else c := fun c hc i hi => by
    rw [fill_at hc (by omega) hi, hz]
  have Z : ∀ c, (strOf (fillTo (bytesL (s.extract 0 3)) n c)).size = n := fun c => fill_size (by omega)
  have hN := need_cases (bt s 0)
  have b3 := bt_ge s (2 : Nat)
  have hl := lo_ge (bt s 0)
  have hh := hi_le (bt s 0)
  unfold ok1 at ho
  simp only [Bool.and_eq_true, decide_eq_true_eq] at ho
  have e1 : bt s 1 = bt s (1 : Nat) := rfl
  rw [e1] at ho
  have hcb : cont (bt s (1 : Nat)) = true := cont_iff.2 (by omega)
  unfold beg
  rw [hz]
  have ha : allN (fun i => cont (bt (s.extract 0 3) ((i + 1 : Nat) : Int))) (3 - 1) 0 = cont (bt s (2 : Nat)) := by
    show (cont (bt (s.extract 0 3) ((0 + 1 : Nat) : Int)) && (cont (bt (s.extract 0 3) ((1 + 1 : Nat) : Int)) && true)) = _
    rw [Bool.and_true, show cont (bt (s.extract 0 3) ((0 + 1 : Nat) : Int)) = true from (congrArg cont t1).trans hcb, Bool.true_and]
    exact congrArg cont t2
  rw [ha]
  have hc8 : cont 128 = true := by decide
  have hc9 : cont 191 = true := by decide
  have f0 : ∀ c, 0 ≤ c ∧ c ≤ 255 → bt (strOf (fillTo (bytesL (s.extract 0 3)) n c)) 0 = bt s 0 := fun c hc => (F c hc 0 (by omega)).trans (by rw [if_pos (by omega)]; exact t0)
  have f1 : ∀ c, 0 ≤ c ∧ c ≤ 255 → bt (strOf (fillTo (bytesL (s.extract 0 3)) n c)) (1 : Nat) = bt s (1 : Nat) := fun c hc => (F c hc 1 (by omega)).trans (by rw [if_pos (by omega)]; exact t1)
  have f2 : ∀ c, 0 ≤ c ∧ c ≤ 255 → bt (strOf (fillTo (bytesL (s.extract 0 3)) n c)) (2 : Nat) = bt s (2 : Nat) := fun c hc => (F c hc 2 (by omega)).trans (by rw [if_pos (by omega)]; exact t2)
  have f3 : ∀ c, 0 ≤ c ∧ c ≤ 255 → 4 ≤ n → bt (strOf (fillTo (bytesL (s.extract 0 3)) n c)) (3 : Nat) = c := fun c hc h => (F c hc 3 (by omega)).trans (by rw [if_neg (by omega)])
  cases hcb2 : cont (bt s (2 : Nat)) with
  | false => rfl
  | true =>
    have h1 := cont_iff.1 hcb2
    rw [Bool.true_and]
    have hn3 : n = 3 ∨ n = 4 := by omega
    rcases hn3 with rfl | rfl
    · rw [rv3 (Z 128), rv3 (Z 191), f0 _ (by omega), f0 _ (by omega), f1 _ (by omega), f1 _ (by omega), f2 _ (by omega), f2 _ (by omega), if_pos ⟨hcb, hcb2⟩]
      simp only [rng, show floor 3 = 2048 from rfl, Bool.and_eq_true, Bool.not_eq_true', Bool.or_eq_false_iff, decide_eq_false_iff_not, decide_eq_true_eq, Bool.or_eq_true]
      unfold lo hi at ho
      repeat' split at ho
      all_goals omega
    · rw [rv4 (Z 128), rv4 (Z 191), f0 _ (by omega), f0 _ (by omega), f1 _ (by omega), f1 _ (by omega), f2 _ (by omega), f2 _ (by omega), f3 _ (by omega) (by omega), f3 _ (by omega) (by omega), if_pos ⟨hcb, hcb2, hc8⟩, if_pos ⟨hcb, hcb2, hc9⟩]
      simp only [rng, show floor 4 = 65536 from rfl, Bool.and_eq_true, Bool.not_eq_true', Bool.or_eq_false_iff, decide_eq_false_iff_not, decide_eq_true_eq, Bool.or_eq_true]
      unfold lo hi at ho
      repeat' split at ho
      all_goals omega
theorem beg4 {s : ByteArray} (hn : need (bt s 0) = 4) (hs : 4 ≤ s.size) (ho : ok1 s = true) (hc : cont (bt s (2 : Nat)) = true) : beg (s.extract 0 4) 4 = cont (bt s (3 : Nat)) := by
  have hz : (s.extract 0 4).size = 4 := size_pre hs
  have t0 : bt (s.extract 0 4) 0 = bt s 0 := bt_pre (i := 0) (by omega) hs
  have t1 : bt (s.extract 0 4) (1 : Nat) = bt s (1 : Nat) := bt_pre (i := 1) (by omega) hs
  have t2 : bt (s.extract 0 4) (2 : Nat) = bt s (2 : Nat) := bt_pre (i := 2) (by omega) hs
  have t3 : bt (s.extract 0 4) (3 : Nat) = bt s (3 : Nat) := bt_pre (i := 3) (by omega) hs
  have F : ∀ (c : Int), 0 ≤ c ∧ c ≤ 255 → ∀ i, i < 4 → bt (strOf (fillTo (bytesL (s.extract 0 4)) 4 c)) (i : Nat) = bt (s.extract 0 4) (i : Nat) := fun c hc i hi => by
    rw [fill_at hc (by omega) hi, hz, if_pos hi]
  have Z : ∀ c, (strOf (fillTo (bytesL (s.extract 0 4)) 4 c)).size = 4 := fun c => fill_size (by omega)
  have hN := need_cases (bt s 0)
  have hl := lo_ge (bt s 0)
  have hh := hi_le (bt s 0)
  unfold ok1 at ho
  simp only [Bool.and_eq_true, decide_eq_true_eq] at ho
  have e1 : bt s 1 = bt s (1 : Nat) := rfl
  rw [e1] at ho
  have hcb : cont (bt s (1 : Nat)) = true := cont_iff.2 (by omega)
  unfold beg
  rw [hz]
  have ha : allN (fun i => cont (bt (s.extract 0 4) ((i + 1 : Nat) : Int))) (4 - 1) 0 = cont (bt s (3 : Nat)) := by
    show (cont (bt (s.extract 0 4) ((0 + 1 : Nat) : Int)) && (cont (bt (s.extract 0 4) ((1 + 1 : Nat) : Int)) && (cont (bt (s.extract 0 4) ((2 + 1 : Nat) : Int)) && true))) = _
    rw [Bool.and_true, show cont (bt (s.extract 0 4) ((0 + 1 : Nat) : Int)) = true from (congrArg cont t1).trans hcb, show cont (bt (s.extract 0 4) ((1 + 1 : Nat) : Int)) = true from (congrArg cont t2).trans hc, Bool.true_and, Bool.true_and]
    exact congrArg cont t3
  rw [ha]
  have f0 : ∀ c, 0 ≤ c ∧ c ≤ 255 → bt (strOf (fillTo (bytesL (s.extract 0 4)) 4 c)) 0 = bt s 0 := fun c hc => (F c hc 0 (by omega)).trans t0
  have f1 : ∀ c, 0 ≤ c ∧ c ≤ 255 → bt (strOf (fillTo (bytesL (s.extract 0 4)) 4 c)) (1 : Nat) = bt s (1 : Nat) := fun c hc => (F c hc 1 (by omega)).trans t1
  have f2 : ∀ c, 0 ≤ c ∧ c ≤ 255 → bt (strOf (fillTo (bytesL (s.extract 0 4)) 4 c)) (2 : Nat) = bt s (2 : Nat) := fun c hc => (F c hc 2 (by omega)).trans t2
  have f3 : ∀ c, 0 ≤ c ∧ c ≤ 255 → bt (strOf (fillTo (bytesL (s.extract 0 4)) 4 c)) (3 : Nat) = bt s (3 : Nat) := fun c hc => (F c hc 3 (by omega)).trans t3
  cases hcb2 : cont (bt s (3 : Nat)) with
  | false => rfl
  | true =>
    have h1 := cont_iff.1 hcb2
    have h2 := cont_iff.1 hc
    rw [Bool.true_and, rv4 (Z 128), rv4 (Z 191), f0 _ (by omega), f0 _ (by omega), f1 _ (by omega), f1 _ (by omega), f2 _ (by omega), f2 _ (by omega), f3 _ (by omega), f3 _ (by omega), if_pos ⟨hcb, hc, hcb2⟩]
    simp only [rng, show floor 4 = 65536 from rfl, Bool.and_eq_true, Bool.not_eq_true', Bool.or_eq_false_iff, decide_eq_false_iff_not, decide_eq_true_eq, Bool.or_eq_true]
    unfold lo hi at ho
    repeat' split at ho
    all_goals omega
theorem rvx1 {s : ByteArray} (h : 1 ≤ s.size) : rv (s.extract 0 1) = bt s 0 := by
  have hz : (s.extract 0 1).size = 1 := size_pre h
  unfold rv vL
  rw [if_pos hz]
  exact bt_pre (i := 0) (by omega) h
theorem rvx2 {s : ByteArray} (h : 2 ≤ s.size) (h1 : cont (bt s (1 : Nat)) = true) : rv (s.extract 0 2) = val2 s := by
  rw [rv2 (size_pre h), show bt (s.extract 0 2) (1 : Nat) = bt s (1 : Nat) from bt_pre (i := 1) (by omega) h, show bt (s.extract 0 2) 0 = bt s 0 from bt_pre (i := 0) (by omega) h, if_pos h1]
  unfold val2
  show _ = (bt s 0 - 192) * 64 + (bt s (1 : Nat) - 128)
  omega
theorem rvx3 {s : ByteArray} (h : 3 ≤ s.size) (h1 : cont (bt s (1 : Nat)) = true) (h2 : cont (bt s (2 : Nat)) = true) : rv (s.extract 0 3) = val3 s := by
  rw [rv3 (size_pre h), show bt (s.extract 0 3) (1 : Nat) = bt s (1 : Nat) from bt_pre (i := 1) (by omega) h, show bt (s.extract 0 3) (2 : Nat) = bt s (2 : Nat) from bt_pre (i := 2) (by omega) h, show bt (s.extract 0 3) 0 = bt s 0 from bt_pre (i := 0) (by omega) h, if_pos ⟨h1, h2⟩]
  unfold val3
  show _ = (bt s 0 - 224) * 4096 + (bt s (1 : Nat) - 128) * 64 + (bt s (2 : Nat) - 128)
  omega
theorem rvx4 {s : ByteArray} (h : 4 ≤ s.size) (h1 : cont (bt s (1 : Nat)) = true) (h2 : cont (bt s (2 : Nat)) = true) (h3 : cont (bt s (3 : Nat)) = true) : rv (s.extract 0 4) = val4 s := by
  rw [rv4 (size_pre h), show bt (s.extract 0 4) (1 : Nat) = bt s (1 : Nat) from bt_pre (i := 1) (by omega) h, show bt (s.extract 0 4) (2 : Nat) = bt s (2 : Nat) from bt_pre (i := 2) (by omega) h, show bt (s.extract 0 4) (3 : Nat) = bt s (3 : Nat) from bt_pre (i := 3) (by omega) h,
    show bt (s.extract 0 4) 0 = bt s 0 from bt_pre (i := 0) (by omega) h, if_pos ⟨h1, h2, h3⟩]
  unfold val4
  show _ = (bt s 0 - 240) * 262144 + (bt s (1 : Nat) - 128) * 4096 + (bt s (2 : Nat) - 128) * 64 + (bt s (3 : Nat) - 128)
  omega
theorem ok1_cont {s : ByteArray} (ho : ok1 s = true) : cont (bt s (1 : Nat)) = true := by
  have hl := lo_ge (bt s 0)
  have hh := hi_le (bt s 0)
  unfold ok1 at ho
  simp only [Bool.and_eq_true, decide_eq_true_eq] at ho
  exact cont_iff.2 ⟨by have := ho.1; show 128 ≤ bt s 1; omega, by have := ho.2; show bt s 1 ≤ 191; omega⟩
theorem firstR_eq (s : ByteArray) : firstR s = first s := by
  have c2 : bt s 2 = bt s (2 : Nat) := rfl
  have c3 : bt s 3 = bt s (3 : Nat) := rfl
  unfold firstR first
  by_cases h0 : s.size = 0
  · have : full s = false := by unfold full; rw [decide_eq_true h0]; rfl
    rw [if_pos h0, this]; rfl
  rw [if_neg h0]
  have d0 : decide (s.size = 0) = false := decide_eq_false h0
  rcases need_cases (bt s 0) with ⟨hn, hb⟩ | hn | ⟨hn, hb⟩ | ⟨hn, hb⟩ | ⟨hn, hb⟩
  · have f : full s = true := by unfold full; rw [d0, hn, decide_eq_true (show (1 : Int) ≤ (s.size : Int) by omega)]; rfl
    have d : dec s = (bt s 0, 1) := by unfold dec; rw [d0, hn]; rfl
    have l : isL s = true := by unfold isL; rw [d, decide_eq_false (show ¬ (bt s 0, (1 : Int)).1 = 65533 by show ¬ bt s 0 = 65533; omega)]; rfl
    rw [if_neg (by omega), f, l, d, hn]
    show (if pref s 1 0 1 = 1 then (rv (s.extract 0 1), (1 : Int), (0 : Int)) else if pref s 1 0 1 = s.size then (0, 0, 2) else (0, ((pref s 1 0 1 : Nat) : Int), (4 : Int))) = _
    rw [if_pos (show pref s 1 0 1 = 1 from rfl), rvx1 (by omega)]
    rfl
  · have f : full s = true := by unfold full; rw [d0, hn, decide_eq_true (show (0 : Int) ≤ (s.size : Int) by omega)]; rfl
    have d : dec s = (65533, 1) := by unfold dec; rw [d0, hn]; rfl
    have l : isL s = false := by unfold isL; rw [d]; rfl
    have b : bad s = 1 := by unfold bad; rw [hn]; rfl
    rw [if_pos hn, f, l, b]; rfl
  · rw [if_neg (by omega), hn]
    show (if pref s 2 1 1 = 2 then (rv (s.extract 0 2), (2 : Int), (0 : Int)) else if pref s 2 1 1 = s.size then (0, 0, 2) else (0, ((pref s 2 1 1 : Nat) : Int), (4 : Int))) = _
    by_cases h1 : 1 < s.size
    · have f : full s = true := by unfold full; rw [d0, hn, decide_eq_true (show (2 : Int) ≤ (s.size : Int) by omega)]; rfl
      have dz : decide ((s.size : Int) < 2) = false := decide_eq_false (by omega)
      cases ho : ok1 s with
      | true =>
        have p : pref s 2 1 1 = 2 := by simp only [pref, decide_eq_true h1, beg2 (n := 2) hn (by omega) (by omega), ho, Bool.and_self, cond_true]
        have d : dec s = (val2 s, 2) := by unfold dec; rw [d0, hn, dz, ho]; rfl
        have l : isL s = true := by unfold isL; rw [d, decide_eq_true (show (1 : Int) < ((val2 s, (2 : Int)) : Int × Int).2 from (by decide : (1 : Int) < 2)), Bool.or_true]
        rw [p, if_pos rfl, rvx2 (by omega) (ok1_cont ho), f, l, d]
        rfl
      | false =>
        have p : pref s 2 1 1 = 1 := by simp only [pref, decide_eq_true h1, beg2 (n := 2) hn (by omega) (by omega), ho, Bool.and_false, cond_false]
        have d : dec s = (65533, 1) := by unfold dec; rw [d0, hn, dz, ho]; rfl
        have l : isL s = false := by unfold isL; rw [d]; rfl
        have b : bad s = 1 := by unfold bad; rw [hn, ho]; rfl
        rw [p, if_neg (by omega), if_neg (by omega), f, l, b]; rfl
    · have p : pref s 2 1 1 = 1 := by simp only [pref, decide_eq_false h1, Bool.false_and, cond_false]
      have f : full s = false := by unfold full; rw [d0, hn, decide_eq_false (show ¬ (2 : Int) ≤ (s.size : Int) by omega), decide_eq_false h1, decide_eq_false (show ¬ 2 < s.size by omega)]; rfl
      rw [p, if_neg (by omega), if_pos (by omega), f]; rfl
  · rw [if_neg (by omega), hn]
    show (if pref s 3 2 1 = 3 then (rv (s.extract 0 3), (3 : Int), (0 : Int)) else if pref s 3 2 1 = s.size then (0, 0, 2) else (0, ((pref s 3 2 1 : Nat) : Int), (4 : Int))) = _
    by_cases h1 : 1 < s.size
    · cases ho : ok1 s with
      | true =>
        by_cases h2 : 2 < s.size
        · have f : full s = true := by unfold full; rw [d0, hn, decide_eq_true (show (3 : Int) ≤ (s.size : Int) by omega)]; rfl
          have dz : decide ((s.size : Int) < 3) = false := decide_eq_false (by omega)
          cases hc : cont (bt s (2 : Nat)) with
          | true =>
            have p : pref s 3 2 1 = 3 := by simp only [pref, decide_eq_true h1, decide_eq_true h2, beg2 (n := 3) hn (by omega) (by omega), beg3 (n := 3) hn (by omega) (by omega) ho, ho, hc, Bool.and_self, cond_true]
            have d : dec s = (val3 s, 3) := by unfold dec; rw [d0, hn, dz, ho, c2, hc]; rfl
            have l : isL s = true := by unfold isL; rw [d, decide_eq_true (show (1 : Int) < ((val3 s, (3 : Int)) : Int × Int).2 from (by decide : (1 : Int) < 3)), Bool.or_true]
            rw [p, if_pos rfl, rvx3 (by omega) (ok1_cont ho) hc, f, l, d]
            rfl
          | false =>
            have p : pref s 3 2 1 = 2 := by simp only [pref, decide_eq_true h1, decide_eq_true h2, beg2 (n := 3) hn (by omega) (by omega), beg3 (n := 3) hn (by omega) (by omega) ho, ho, hc, Bool.and_self, Bool.and_false, cond_true, cond_false]
            have d : dec s = (65533, 1) := by unfold dec; rw [d0, hn, dz, ho, c2, hc]; rfl
            have l : isL s = false := by unfold isL; rw [d]; rfl
            have b : bad s = 2 := by unfold bad; rw [hn, ho, c2, hc]; rfl
            rw [p, if_neg (by omega), if_neg (by omega), f, l, b]; rfl
        · have p : pref s 3 2 1 = 2 := by simp only [pref, decide_eq_true h1, decide_eq_false h2, beg2 (n := 3) hn (by omega) (by omega), ho, Bool.and_self, Bool.false_and, cond_true, cond_false]
          have f : full s = false := by unfold full; rw [d0, hn, decide_eq_false (show ¬ (3 : Int) ≤ (s.size : Int) by omega), decide_eq_true h1, decide_eq_false h2, ho]; rfl
          rw [p, if_neg (by omega), if_pos (by omega), f]; rfl
      | false =>
        have p : pref s 3 2 1 = 1 := by simp only [pref, decide_eq_true h1, beg2 (n := 3) hn (by omega) (by omega), ho, Bool.and_false, cond_false]
        have f : full s = true := by
          unfold full
          rw [d0, decide_eq_true h1, ho]
          cases decide (need (bt s 0) ≤ (s.size : Int)) <;> rfl
        have d : dec s = (65533, 1) := by
          unfold dec
          rw [d0, hn, ho]
          cases decide ((s.size : Int) < 3) <;> rfl
        have l : isL s = false := by unfold isL; rw [d]; rfl
        have b : bad s = 1 := by unfold bad; rw [hn, ho]; rfl
        rw [p, if_neg (by omega), if_neg (by omega), f, l, b]; rfl
    · have p : pref s 3 2 1 = 1 := by simp only [pref, decide_eq_false h1, Bool.false_and, cond_false]
      have f : full s = false := by unfold full; rw [d0, hn, decide_eq_false (show ¬ (3 : Int) ≤ (s.size : Int) by omega), decide_eq_false h1, decide_eq_false (show ¬ 2 < s.size by omega)]; rfl
      rw [p, if_neg (by omega), if_pos (by omega), f]; rfl
  · rw [if_neg (by omega), hn]
    show (if pref s 4 3 1 = 4 then (rv (s.extract 0 4), (4 : Int), (0 : Int)) else if pref s 4 3 1 = s.size then (0, 0, 2) else (0, ((pref s 4 3 1 : Nat) : Int), (4 : Int))) = _
    by_cases h1 : 1 < s.size
    · cases ho : ok1 s with
      | true =>
        by_cases h2 : 2 < s.size
        · cases hc : cont (bt s (2 : Nat)) with
          | true =>
            by_cases h3 : 3 < s.size
            · have f : full s = true := by unfold full; rw [d0, hn, decide_eq_true (show (4 : Int) ≤ (s.size : Int) by omega)]; rfl
              have dz : decide ((s.size : Int) < 4) = false := decide_eq_false (by omega)
              cases hd : cont (bt s (3 : Nat)) with
              | true =>
                have p : pref s 4 3 1 = 4 := by simp only [pref, decide_eq_true h1, decide_eq_true h2, decide_eq_true h3, beg2 (n := 4) hn (by omega) (by omega), beg3 (n := 4) hn (by omega) (by omega) ho, beg4 hn (by omega) ho hc, ho, hc, hd, Bool.and_self, cond_true]
                have d : dec s = (val4 s, 4) := by unfold dec; rw [d0, hn, dz, ho, c2, hc, c3, hd]; rfl
                have l : isL s = true := by unfold isL; rw [d, decide_eq_true (show (1 : Int) < ((val4 s, (4 : Int)) : Int × Int).2 from (by decide : (1 : Int) < 4)), Bool.or_true]
                rw [p, if_pos rfl, rvx4 (by omega) (ok1_cont ho) hc hd, f, l, d]
                rfl
              | false =>
                have p : pref s 4 3 1 = 3 := by simp only [pref, decide_eq_true h1, decide_eq_true h2, decide_eq_true h3, beg2 (n := 4) hn (by omega) (by omega), beg3 (n := 4) hn (by omega) (by omega) ho, beg4 hn (by omega) ho hc, ho, hc, hd, Bool.and_self, Bool.and_false, cond_true, cond_false]
                have d : dec s = (65533, 1) := by unfold dec; rw [d0, hn, dz, ho, c2, hc, c3, hd]; rfl
                have l : isL s = false := by unfold isL; rw [d]; rfl
                have b : bad s = 3 := by unfold bad; rw [hn, ho, c2, hc]; rfl
                rw [p, if_neg (by omega), if_neg (by omega), f, l, b]; rfl
            · have p : pref s 4 3 1 = 3 := by simp only [pref, decide_eq_true h1, decide_eq_true h2, decide_eq_false h3, beg2 (n := 4) hn (by omega) (by omega), beg3 (n := 4) hn (by omega) (by omega) ho, ho, hc, Bool.and_self, Bool.false_and, cond_true, cond_false]
              have f : full s = false := by unfold full; rw [d0, hn, decide_eq_false (show ¬ (4 : Int) ≤ (s.size : Int) by omega), decide_eq_true h1, decide_eq_true h2, ho, c2, hc]; rfl
              rw [p, if_neg (by omega), if_pos (by omega), f]; rfl
          | false =>
            have p : pref s 4 3 1 = 2 := by simp only [pref, decide_eq_true h1, decide_eq_true h2, beg2 (n := 4) hn (by omega) (by omega), beg3 (n := 4) hn (by omega) (by omega) ho, ho, hc, Bool.and_self, Bool.and_false, cond_true, cond_false]
            have f : full s = true := by
              unfold full
              rw [d0, decide_eq_true h1, decide_eq_true h2, ho, c2, hc]
              cases decide (need (bt s 0) ≤ (s.size : Int)) <;> rfl
            have d : dec s = (65533, 1) := by
              unfold dec
              rw [d0, hn, ho, c2, hc]
              cases decide ((s.size : Int) < 4) <;> rfl
            have l : isL s = false := by unfold isL; rw [d]; rfl
            have b : bad s = 2 := by unfold bad; rw [hn, ho, c2, hc]; rfl
            rw [p, if_neg (by omega), if_neg (by omega), f, l, b]; rfl
        · have p : pref s 4 3 1 = 2 := by simp only [pref, decide_eq_true h1, decide_eq_false h2, beg2 (n := 4) hn (by omega) (by omega), ho, Bool.and_self, Bool.false_and, cond_true, cond_false]
          have f : full s = false := by unfold full; rw [d0, hn, decide_eq_false (show ¬ (4 : Int) ≤ (s.size : Int) by omega), decide_eq_true h1, decide_eq_false h2, ho]; rfl
          rw [p, if_neg (by omega), if_pos (by omega), f]; rfl
      | false =>
        have p : pref s 4 3 1 = 1 := by simp only [pref, decide_eq_true h1, beg2 (n := 4) hn (by omega) (by omega), ho, Bool.and_false, cond_false]
        have f : full s = true := by
          unfold full
          rw [d0, decide_eq_true h1, ho]
          cases decide (need (bt s 0) ≤ (s.size : Int)) <;> rfl
        have d : dec s = (65533, 1) := by
          unfold dec
          rw [d0, hn, ho]
          cases decide ((s.size : Int) < 4) <;> rfl
        have l : isL s = false := by unfold isL; rw [d]; rfl
        have b : bad s = 1 := by unfold bad; rw [hn, ho]; rfl
        rw [p, if_neg (by omega), if_neg (by omega), f, l, b]; rfl
    · have p : pref s 4 3 1 = 1 := by simp only [pref, decide_eq_false h1, Bool.false_and, cond_false]
      have f : full s = false := by unfold full; rw [d0, hn, decide_eq_false (show ¬ (4 : Int) ≤ (s.size : Int) by omega), decide_eq_false h1, decide_eq_false (show ¬ 2 < s.size by omega)]; rfl
      rw [p, if_neg (by omega), if_pos (by omega), f]; rfl
end U
namespace Go.Proofs.YtmnbcnhpklejcaaDoor
open Go Go.Ev Go.RowKit
abbrev w83' : FSpec := s83 (fun x => decide (ByteArray.size x.1 ≤ 1048576)) fun x => U.first x.1
theorem wk83' : SpecOK Tryd.prog E0 83 w83' := by
  have e : w83' = w83 := by unfold w83' w83 s83; congr 1; funext x y; exact (U.firstR_eq x.1).symm
  rw [e]
  exact wk83
def d123 (a : List Cell) (b : Int) : Tr (Bool) :=
  let v1 : Int := ((↑a.length : Int))
  let v2 : Int := (b - (1 : Int))
  let v3 : Int := (b + (1 : Int))
  Tr.ite (inB b a.length)
    (Tr.ite (decide ((rget celk a b).snd.fst = (2 : Int)))
      (Tr.ite (decide (IntKind.i64.wrap v3 = v1)) (Tr.ret true) (Tr.ite (inB (IntKind.i64.wrap v3) a.length) (Tr.ret !decide ((rget celk a (IntKind.i64.wrap v3)).snd.fst = (0 : Int))) Tr.fail))
      (Tr.ite (inB b a.length)
        (Tr.ite (decide ((rget celk a b).snd.fst = (0 : Int)))
          (Tr.ite (decide (b = (0 : Int))) (Tr.ret true) (Tr.ite (inB (IntKind.i64.wrap v2) a.length) (Tr.ret !decide ((rget celk a (IntKind.i64.wrap v2)).snd.fst = (2 : Int))) Tr.fail)) (Tr.ret false))
        Tr.fail))
    Tr.fail
def e123 (r : Bool) : FRes := { rs := Slot.av (AV.one (Leaf.dat Kd.bool r)), upd := [], new := [] }
@[reducible] def a123 : List AK := [AK.d celk.sl, AK.d (.int .i64)]
@[reducible] def b123 : List BK := []
theorem t123 (a : List Cell) (b : Int) : evFn (E0) Tryd.f123 [PM.data Kd.bool] (akAV a123 (a, b, ())) (bkBs b123 ()) = (d123 a b).map e123 := by kernel_rfl
def s123 (C : akT a123 → Bool) (G : akT a123 → Bool) : FSpec := aspec a123 b123 e123 (fun x _ => C x) (fun x _ => G x)
theorem k123 {C : akT a123 → Bool} {G : akT a123 → Bool} (hd : ∀ (a : List Cell) (b : Int), C (a, b, ()) = true → (d123 a b).val = some (G (a, b, ()))) (IO : ItOK Tryd.prog (E0) := by exact itOK_none rfl) (L : ∀ c, Tryd.f123.body = some c → LsOK (evI 2) ((E0).lend 0) c := by exact fun c _ => LsOK_none rfl c) : SpecOK Tryd.prog E0 123 (s123 C G) :=
  aspec_ok (ak := a123) (bl := b123) (e := e123) (c := fun x _ => C x) (g := fun x _ => G x) (E0 := E0) (E := E0) tab .nil rfl rfl hm Tryd.func123 (by kernel_rfl) [PM.data Kd.bool] (fun X Y H => by obtain ⟨a, ⟨b, _⟩⟩ := X; exact val_of (t123 a b) (hd a b H)) IO L
abbrev G28 : List (Nat × FSpec) := [(37, w37), (83, w83'), (84, w84)]
theorem AG28 : AllFn Tryd.prog E0 G28 := .cons wk37 (.cons wk83' (.cons wk84 .nil))
def live28 (key : Nat) : Lv :=
  bif Nat.beq key 10 then { ls := [4, 5] } else bif Nat.beq key 1010 then { ls := [2, 5] } else
  { ls := [] }
abbrev M28 (ls : Nat → VS → Option (Tr (Ex × VS))) : Env := (E0.withFns G28).loops live28 ls
@[reducible] def p28_0 : LP := { n := 73, sl := [.d (Kd.str), .d (.int .i64)], bl := [] }
def B28_0 (x0 : ByteArray) (x1 : Int) : Tr (p28_0.T ⊕ (Int ⊕ Int)) :=
  let v1 : Int := ((U.first x0).fst)
  let v2 : Int := ((U.first x0).snd.snd)
  let v3 : Int := ((U.first x0).snd.fst)
  Tr.ite (decide ((0 : Int) < (↑x0.size : Int)))
    (Tr.ite (decide (x0.size ≤ (1048576 : Nat)))
      (Tr.ite (!decide (v2 = (0 : Int))) (Tr.ret (Sum.inr (Sum.inl x1)))
        (Tr.ite (!decide (U.width v1 = (0 : Int))) (Tr.ret (Sum.inr (Sum.inl x1)))
          (Tr.ite (decide ((0 : Int) ≤ v3 ∧ v3 ≤ (↑x0.size : Int))) (Tr.ret (Sum.inl ((x0.extract v3.toNat x0.size, IntKind.i64.wrap (x1 + (1 : Int)), ()), ()))) Tr.fail)))
      Tr.fail)
    (Tr.ret (Sum.inr (Sum.inr x1)))
def X28_0 : (Int ⊕ Int) → Ex × VS
  | (.inl r) => Prod.mk Ex.ret { n := 73, v := [Slot.av (AV.one (Leaf.kb false)), Slot.av (AV.one (Leaf.dat (.int .i64) r))], h := [] }
  | (.inr r) => Prod.mk (Ex.exit ( 0)) { n := 73, v := [Slot.av (AV.one Leaf.undef), Slot.av (AV.one (Leaf.dat (.int .i64) r))], h := [] }
def b28_0 : p28_0.T → Tr (p28_0.T ⊕ (Int ⊕ Int)) := fun ⟨⟨x0, ⟨x1, _⟩⟩, _⟩ => B28_0 x0 x1
theorem h28_0 (ls : Nat → VS → Option (Tr (Ex × VS))) (x : p28_0.T) : (evC (evI 2) (lc Tryd.f28 0) (Env.lend (M28 ls) 0) (unV (live28 10) (p28_0.V x))).map (decL 0 (live28 10) (live28 1010)) = (b28_0 x).map (encR p28_0.V X28_0) := by
  obtain ⟨⟨x0, ⟨x1, _⟩⟩, _⟩ := x; kernel_rfl
theorem c28_0 (x : p28_0.T) : canV 0 (live28 10) (unV (live28 10) (p28_0.V x)) = p28_0.V x := by
  obtain ⟨⟨x0, ⟨x1, _⟩⟩, _⟩ := x; kernel_rfl
theorem l28_0 {T : p28_0.T → Tr (Int ⊕ Int)} {ls : Nat → VS → Option (Tr (Ex × VS))} (hls : ∀ x, (Env.lend (M28 ls) 0).ls 10 x = p28_0.ls (fun a => (T a).map X28_0) x) (hS : ∀ x r, (T x).val = some r → Rounds b28_0 x r) : LoopOK (evI 2) (Env.lend (M28 ls) 0) (lc Tryd.f28 0) :=
  loopA 10 (live28 10) (live28 1010) p28_0 b28_0 X28_0 T (by kernel_rfl) rfl rfl hls (h28_0 ls) c28_0 hS
end Go.Proofs.YtmnbcnhpklejcaaDoor
namespace U
def mL (s : ByteArray) (k : Nat) (n : Int) : Int ⊕ Int := match marksL k s n with
  | .inl p => .inl p.2
  | .inr n => .inr n
theorem marksL_bad : ∀ (k : Nat) (s : ByteArray) (n : Int) (p : Int × Int), marksL k s n = .inl p → p.1 = -1
  | 0, s, n, p, h => by cases h
  | k + 1, s, n, p, h => by
    simp only [marksL] at h
    split at h
    · cases h
    · split at h
      · exact marksL_bad k _ _ p h
      · cases h; rfl
theorem marksL_ge : ∀ (k : Nat) (s : ByteArray) (n m : Int), marksL k s n = .inr m → n ≤ m
  | 0, s, n, m, h => by cases h; omega
  | k + 1, s, n, m, h => by
    simp only [marksL] at h
    split at h
    · cases h; omega
    · split at h
      · have := marksL_ge k _ _ m h; omega
      · cases h
end U
namespace Go.Proofs.YtmnbcnhpklejcaaDoor
def T28 (x : p28_0.T) : Tr (Int ⊕ Int) := .ite (decide (ByteArray.size x.1.1 ≤ 1048576 ∧ x.1.2.1 = 0)) (.spl (U.mL x.1.1 (ByteArray.size x.1.1) 0) 0 0) .fail
abbrev E28 : Env := M28 fun key x => bif Nat.beq key 10 then p28_0.ls (fun a => (T28 a).map X28_0) x else none
theorem r28 : ∀ (k : Nat) (s : ByteArray) (n : Nat), s.size ≤ k → n + k ≤ 1048576 → Rounds b28_0 ((s, (n : Int), ()), ()) (U.mL s k n)
  | 0, s, n, h1, h2 => by
    refine .exit ?_
    simp only [b28_0, B28_0, Tr.val, show ¬ ((0 : Int) < (s.size : Int)) by omega, decide_false, cond_false]
    rfl
  | k + 1, s, n, h1, h2 => by
    by_cases h0 : s.size = 0
    · refine .exit ?_
      simp only [b28_0, B28_0, Tr.val, show ¬ ((0 : Int) < (s.size : Int)) by omega, decide_false, cond_false]
      unfold U.mL U.marksL
      rw [if_pos h0]
    · have hp : (0 : Int) < (s.size : Int) := by omega
      have hsz : s.size ≤ 1048576 := by omega
      unfold U.mL U.marksL
      rw [if_neg h0]
      by_cases h3 : (U.first s).2.2 = 0
      · by_cases h4 : U.width (U.first s).1 = 0
        · obtain ⟨a, b⟩ := U.first_ok h3
          rw [if_pos ⟨h3, h4⟩]
          refine .step (y := ((s.extract (U.first s).2.1.toNat s.size, ((n + 1 : Nat) : Int), ()), ())) ?_ ?_
          · have hb : (0 : Int) ≤ (U.first s).2.1 ∧ (U.first s).2.1 ≤ (s.size : Int) := ⟨by omega, b⟩
            simp only [b28_0, B28_0, Tr.val, h3, h4, hp, hsz, hb, decide_true, decide_false, Bool.not_false, Bool.not_true, cond_true, cond_false, wrap64_nat (show n ≤ 1048576 by omega), and_self]
          · refine r28 k _ (n + 1) ?_ (by omega)
            rw [← bl_len, bl_ext, List.length_drop, List.length_take, bl_len]
            omega
        · rw [if_neg (fun h => h4 h.2)]
          refine .exit ?_
          simp only [b28_0, B28_0, Tr.val, h3, h4, hp, hsz, decide_true, decide_false, Bool.not_false, Bool.not_true, cond_true, cond_false]
      · rw [if_neg (fun h => h3 h.1)]
        refine .exit ?_
        simp only [b28_0, B28_0, Tr.val, h3, hp, hsz, decide_true, decide_false, Bool.not_false, Bool.not_true, cond_true, cond_false]
theorem L28 : LoopOK (evI 2) (E28.lend 0) (lc Tryd.f28 0) := by
  refine l28_0 (T := T28) (fun x => rfl) ?_
  rintro ⟨⟨s, n, z⟩, z'⟩ r h
  obtain ⟨h1, h2⟩ := pre_val h
  rw [Tr.val_spl] at h2
  cases h2
  have h1 := of_decide_eq_true h1
  have h3 : n = (0 : Int) := h1.2
  subst h3
  exact r28 _ s 0 (Nat.le_refl _) (by have := h1.1; dsimp at this; omega)
def d28 (a1 : ByteArray) (a2 : Int) (a31 : Int) (a32 : Int) (a33 : Int) : Tr (Bool) :=
  let v1 : Int := ((U.first a1).fst)
  let v2 : Int := ((U.first a1).snd.snd)
  let v3 : Int := ((U.first a1).snd.fst)
  let v4 : ByteArray := (a1.extract v3.toNat a1.size)
  let v5 : Int := ((U.mL v4 v4.size (0 : Int)).getRight?.getD (0 : Int))
  Tr.ite (!U.look (a31, a32, a33, ())) (Tr.ret false)
    (Tr.ite (decide (a2 < (0 : Int))) (Tr.ret false)
      (Tr.ite (decide ((2 : Int) < a2)) (Tr.ret false)
        (Tr.ite (decide (a1 = { data := #[] })) (Tr.ret (decide (a2 < (2 : Int))))
          (Tr.ite (decide (a1.size ≤ (1048576 : Nat)))
            (Tr.ite (!decide (v2 = (0 : Int))) (Tr.ret false)
              (Tr.ite (decide (a2 = (0 : Int))) (Tr.ret false)
                (Tr.ite (!decide (U.width v1 = a2)) (Tr.ret false)
                  (Tr.ite (decide ((0 : Int) ≤ v3 ∧ v3 ≤ (↑a1.size : Int)))
                    (Tr.ite (decide (v4.size ≤ (1048576 : Nat) ∧ (0 : Int) = (0 : Int))) (Tr.ite (U.mL v4 v4.size (0 : Int)).isLeft (Tr.ret false) (Tr.ret (decide (v5 ≤ (2 : Int))))) Tr.fail)
                    Tr.fail))))
            Tr.fail))))
def e28 (r : Bool) : FRes := { rs := Slot.av (AV.one (Leaf.dat Kd.bool r)), upd := [], new := [] }
@[reducible] def a28 : List AK := [AK.d celk]
@[reducible] def b28 : List BK := []
theorem t28 (a1 : ByteArray) (a2 : Int) (a31 : Int) (a32 : Int) (a33 : Int) : evFn (E28) Tryd.f28 [PM.data Kd.bool] (akAV a28 ((a1, a2, (a31, a32, a33, ()), ()), ())) (bkBs b28 ()) = (d28 a1 a2 a31 a32 a33).map e28 := by kernel_rfl
def s28 (C : akT a28 → Bool) (G : akT a28 → Bool) : FSpec := aspec a28 b28 e28 (fun x _ => C x) (fun x _ => G x)
theorem k28 {C : akT a28 → Bool} {G : akT a28 → Bool} (hd : ∀ (a1 : ByteArray) (a2 : Int) (a31 : Int) (a32 : Int) (a33 : Int), C ((a1, a2, (a31, a32, a33, ()), ()), ()) = true → (d28 a1 a2 a31 a32 a33).val = some (G ((a1, a2, (a31, a32, a33, ()), ()), ()))) (IO : ItOK Tryd.prog (E28) := by exact itOK_none rfl) (L : ∀ c, Tryd.f28.body = some c → LsOK (evI 2) ((E28).lend 0) c := by exact fun c _ => LsOK_none rfl c) : SpecOK Tryd.prog E0 28 (s28 C G) :=
  aspec_ok (ak := a28) (bl := b28) (e := e28) (c := fun x _ => C x) (g := fun x _ => G x) (E0 := E0) (E := E28) tab AG28 rfl rfl hm Tryd.func28 (by kernel_rfl) [PM.data Kd.bool] (fun X Y H => by obtain ⟨⟨a1, ⟨a2, ⟨⟨a31, ⟨a32, ⟨a33, _⟩⟩⟩, _⟩⟩⟩, _⟩ := X; exact val_of (t28 a1 a2 a31 a32 a33) (hd a1 a2 a31 a32 a33 H)) IO L
abbrev w28 : FSpec := s28 (fun x => decide (ByteArray.size x.1.1 ≤ 1048576)) fun x => U.cellR x.1
theorem wk28 : SpecOK Tryd.prog E0 28 w28 := by
  refine k28 (fun s w f g h H => ?_) (L := ls_ok (lcs := [lc Tryd.f28 0]) (rgs := []) (by kernel_rfl) (by kernel_rfl) L28 trivial)
  have H' : s.size ≤ 1048576 := of_decide_eq_true H
  show _ = some (U.cellR (s, w, (f, g, h, ()), ()))
  unfold U.cellR
  cases h5 : U.look (f, g, h, ()) with
  | false =>
    by_cases h0 : s.size = 0
    · simp only [d28, Tr.val, h5, Bool.not_false, cond_true, if_pos h0, Bool.false_and]
    · simp only [d28, Tr.val, h5, Bool.not_false, cond_true, if_neg h0, Bool.false_and, ite_self]
  | true =>
    by_cases h0 : s.size = 0
    · have := ba_nil h0
      subst this
      simp only [d28, Tr.val, h5, Bool.not_true, cond_false, if_pos h0, Bool.true_and, decide_true, cond_true, U.inn]
      by_cases w0 : w < 0
      · simp [w0, show ¬ 0 ≤ w by omega]
      · by_cases w2 : 2 < w
        · simp [w0, w2, show ¬ w ≤ 1 by omega]
        · by_cases w3 : w < 2
          · simp [w0, w2, w3, show 0 ≤ w by omega, show w ≤ 1 by omega]
          · simp [w0, w2, w3, show ¬ w ≤ 1 by omega]
    · have h1 := ba_ne h0
      by_cases h2 : (U.first s).2.2 = 0
      · obtain ⟨a, b⟩ := U.first_ok h2
        have hb : (0 : Int) ≤ (U.first s).2.1 ∧ (U.first s).2.1 ≤ (s.size : Int) := ⟨by omega, b⟩
        have hs : (s.extract (U.first s).2.1.toNat s.size).size ≤ 1048576 := by
          rw [← bl_len, bl_ext, List.length_drop, List.length_take, bl_len]
          omega
        by_cases w0 : w < 0
        · simp [d28, Tr.val, h5, w0, h0, U.inn, show ¬ 1 ≤ w by omega]
        by_cases w2 : 2 < w
        · simp [d28, Tr.val, h5, w0, w2, h0, U.inn, show ¬ w ≤ 2 by omega]
        by_cases w1 : w = 0
        · subst w1
          simp [d28, Tr.val, h5, h0, h1, h2, H', U.inn]
        have hw : U.inn w 1 2 = true := by unfold U.inn; rw [decide_eq_true (show 1 ≤ w by omega), decide_eq_true (show w ≤ 2 by omega)]; rfl
        by_cases h4 : U.width (U.first s).1 = w
        · simp only [d28, Tr.val, h5, h0, h1, h2, h4, w0, w1, w2, hw, hb, hs, H', decide_true, decide_false, cond_true, cond_false, Bool.not_true, Bool.not_false, if_true, if_false, and_self, Bool.true_and]
          unfold U.mL U.marks
          cases hm : U.marksL (s.extract (U.first s).2.1.toNat s.size).size (s.extract (U.first s).2.1.toNat s.size) 0 with
          | inl p =>
            have := U.marksL_bad _ _ _ _ hm
            simp [this, U.inn]
          | inr m =>
            have := U.marksL_ge _ _ _ _ hm
            simp [U.inn, this]
            try rfl
        · simp only [d28, Tr.val, h5, h0, h1, h2, h4, w0, w1, w2, hw, H', decide_true, decide_false, cond_true, cond_false, Bool.not_true, Bool.not_false, if_false, and_false]
      · by_cases w0 : w < 0
        · simp only [d28, Tr.val, h5, w0, h2, if_neg h0, decide_true, cond_true, cond_false, Bool.not_true, false_and, if_false]
        by_cases w2 : 2 < w
        · simp only [d28, Tr.val, h5, w0, w2, h2, if_neg h0, decide_true, decide_false, cond_true, cond_false, Bool.not_true, false_and, if_false]
        simp only [d28, Tr.val, h5, h1, h2, w0, w2, H', if_neg h0, decide_true, decide_false, cond_true, cond_false, Bool.not_true, Bool.not_false, if_false, false_and]
abbrev w123 : FSpec := s123 (fun x => decide (0 ≤ (x.2.1 : Int) ∧ (x.2.1 : Int) < (List.length (α := Cell) x.1 : Int) ∧ List.length (α := Cell) x.1 ≤ 1048576)) fun x => !U.whole x.1 x.2.1.toNat
theorem wk123 : SpecOK Tryd.prog E0 123 w123 := by
  refine k123 fun l i H => ?_
  obtain ⟨h0, h1, h2⟩ := of_decide_eq_true H
  dsimp only at h0 h1 h2
  obtain ⟨n, rfl⟩ := Int.eq_ofNat_of_zero_le h0
  show _ = some (!U.whole l n)
  have hn : n < l.length := Int.ofNat_lt.1 h1
  have w1 : IntKind.i64.wrap ((n : Int) + 1) = ((n + 1 : Nat) : Int) := wrap64_nat (by omega)
  unfold U.whole d123
  simp only [Tr.val, inB_nat hn, cond_true, w1, cw_eq]
  by_cases a : U.cw l n = 2
  · by_cases b : n + 1 < l.length
    · have i1 : inB ((n + 1 : Nat) : Int) l.length = true := inB_nat b
      have i2 : decide (((n + 1 : Nat) : Int) = (l.length : Int)) = false := decide_eq_false (by omega)
      simp only [a, b, i1, i2, cw_eq, decide_true, cond_true, cond_false, if_true, Bool.true_and]
    · have i2 : decide (((n + 1 : Nat) : Int) = (l.length : Int)) = true := decide_eq_true (by omega)
      simp only [a, b, i2, decide_true, decide_false, cond_true, if_true, Bool.false_and, Bool.not_false]
  · by_cases b : U.cw l n = 0
    · by_cases c : 0 < n
      · have w2 : IntKind.i64.wrap ((n : Int) - 1) = ((n - 1 : Nat) : Int) := by
          rw [wrap64_id (by omega) (by omega)]
          omega
        have i1 : inB ((n - 1 : Nat) : Int) l.length = true := inB_nat (by omega)
        have i2 : decide ((n : Int) = 0) = false := decide_eq_false (by omega)
        have a0 : ¬ (0 : Int) = 2 := by decide
        simp only [b, c, w2, i1, i2, cw_eq, a0, decide_true, decide_false, cond_true, cond_false, if_true, if_false, Bool.true_and]
      · have : n = 0 := by omega
        subst this
        simp [a, b]
    · simp [a, b]
abbrev G71 : List (Nat × FSpec) := [(28, w28), (123, w123)]
theorem AG71 : AllFn Tryd.prog E0 G71 := .cons wk28 (.cons wk123 .nil)
def live71 (key : Nat) : Lv :=
  bif Nat.beq key 2 then { ls := [1, 2, 8, 9, 10] } else bif Nat.beq key 1002 then { ls := [1, 2, 4] } else
  { ls := [] }
abbrev M71 (ls : Nat → VS → Option (Tr (Ex × VS))) : Env := (E0.withFns G71).loops live71 ls
@[reducible] def p71_0 : LP := { n := 30, sl := [.d (.int .i64), .c (Leaf.ptr ( 0) ( 0)), .d (celk.sl), .d (.int .i64), .d (.int .i64)], bl := [(0, .box [.d (celk.sl), .d (Kd.bool)])] }
def B71_0 (x0 : Int) (x2 : List Cell) (x3 : Int) (x4 : Int) (h0_0 : List Cell) (h0_1 : Bool) : Tr (p71_0.T ⊕ (Int × List Cell × Bool ⊕ Int × List Cell × Bool)) :=
  let v1 : Int := ((↑h0_0.length : Int))
  Tr.ite (decide (x4 < x3))
    (Tr.ite (inB x4 x2.length)
      (Tr.ite (decide (ByteArray.size (rget celk x2 x4).fst ≤ (1048576 : Nat)))
        (Tr.ite (!U.cellR (rget celk x2 x4)) (Tr.ret (Sum.inr (Sum.inl (x0, h0_0, h0_1))))
          (Tr.ite (decide ((0 : Int) ≤ x4 ∧ x4 < v1 ∧ h0_0.length ≤ (1048576 : Nat)))
            (Tr.ite (!U.whole h0_0 x4.toNat) (Tr.ret (Sum.inr (Sum.inl (x0, h0_0, h0_1)))) (Tr.ret (Sum.inl ((x0, x2, x3, IntKind.i64.wrap (x4 + (1 : Int)), ()), (h0_0, h0_1, ()), ())))) Tr.fail))
        Tr.fail)
      Tr.fail)
    (Tr.ret (Sum.inr (Sum.inr (x0, h0_0, h0_1))))
def X71_0 : (Int × List Cell × Bool ⊕ Int × List Cell × Bool) → Ex × VS
  | (.inl r) => Prod.mk Ex.ret { n := 30, v := [Slot.av (AV.one (Leaf.dat (.int .i64) r.fst)), Slot.av (AV.one (Leaf.ptr ( 0) ( 0))), Slot.av (AV.one (Leaf.kb false))], h := [( 0, Blk.box [Leaf.dat celk.sl r.snd.fst, Leaf.dat Kd.bool r.snd.snd])] }
  | (.inr r) => Prod.mk (Ex.exit ( 0)) { n := 30, v := [Slot.av (AV.one (Leaf.dat (.int .i64) r.fst)), Slot.av (AV.one (Leaf.ptr ( 0) ( 0))), Slot.av (AV.one Leaf.undef)], h := [( 0, Blk.box [Leaf.dat celk.sl r.snd.fst, Leaf.dat Kd.bool r.snd.snd])] }
def b71_0 : p71_0.T → Tr (p71_0.T ⊕ (Int × List Cell × Bool ⊕ Int × List Cell × Bool)) := fun ⟨⟨x0, ⟨x2, ⟨x3, ⟨x4, _⟩⟩⟩⟩, ⟨⟨h0_0, ⟨h0_1, _⟩⟩, _⟩⟩ => B71_0 x0 x2 x3 x4 h0_0 h0_1
theorem h71_0 (ls : Nat → VS → Option (Tr (Ex × VS))) (x : p71_0.T) : (evC (evI 2) (lc Tryd.f71 0) (Env.lend (M71 ls) 0) (unV (live71 2) (p71_0.V x))).map (decL 0 (live71 2) (live71 1002)) = (b71_0 x).map (encR p71_0.V X71_0) := by
  obtain ⟨⟨x0, ⟨x2, ⟨x3, ⟨x4, _⟩⟩⟩⟩, ⟨⟨h0_0, ⟨h0_1, _⟩⟩, _⟩⟩ := x; kernel_rfl
theorem c71_0 (x : p71_0.T) : canV 0 (live71 2) (unV (live71 2) (p71_0.V x)) = p71_0.V x := by
  obtain ⟨⟨x0, ⟨x2, ⟨x3, ⟨x4, _⟩⟩⟩⟩, ⟨⟨h0_0, ⟨h0_1, _⟩⟩, _⟩⟩ := x; kernel_rfl
theorem l71_0 {T : p71_0.T → Tr (Int × List Cell × Bool ⊕ Int × List Cell × Bool)} {ls : Nat → VS → Option (Tr (Ex × VS))} (hls : ∀ x, (Env.lend (M71 ls) 0).ls 2 x = p71_0.ls (fun a => (T a).map X71_0) x) (hS : ∀ x r, (T x).val = some r → Rounds b71_0 x r) : LoopOK (evI 2) (Env.lend (M71 ls) 0) (lc Tryd.f71 0) :=
  loopA 2 (live71 2) (live71 1002) p71_0 b71_0 X71_0 T (by kernel_rfl) rfl rfl hls (h71_0 ls) c71_0 hS
def T71 (x : p71_0.T) : Tr (Int × List Cell × Bool ⊕ Int × List Cell × Bool) :=
  .ite (decide ((x.1.2.2.1 : Int) = (List.length (α := Cell) x.1.2.1 : Int) ∧ (x.1.2.2.2.1 : Int) = 0 ∧ List.length (α := Cell) x.1.2.1 ≤ List.length (α := Cell) x.2.1.1 ∧ List.length (α := Cell) x.2.1.1 ≤ 1048576) && U.okc x.1.2.1)
    (.ite (allN (fun i => U.cellR (List.getD (α := Cell) x.1.2.1 i U.dC) && U.whole x.2.1.1 i) (List.length (α := Cell) x.1.2.1) 0) (.ret (.inr (x.1.1, x.2.1.1, x.2.1.2.1))) (.ret (.inl (x.1.1, x.2.1.1, x.2.1.2.1)))) .fail
abbrev E71 : Env := M71 fun key x => bif Nat.beq key 2 then p71_0.ls (fun a => (T71 a).map X71_0) x else none
theorem L71 : LoopOK (evI 2) (E71.lend 0) (lc Tryd.f71 0) := by
  refine l71_0 (T := T71) (fun x => rfl) ?_
  rintro ⟨⟨c, l, n, i, z⟩, ⟨m, s, z1⟩, z2⟩ r h
  obtain ⟨h1, h2⟩ := pre_val h
  rw [Bool.and_eq_true] at h1
  obtain ⟨h1, hok⟩ := h1
  obtain ⟨e1, e2, e3, e4⟩ := of_decide_eq_true h1
  dsimp only at e1 e2 e3 e4 hok h2
  subst e1
  subst e2
  have := Rounds.all (B := b71_0) (N := l.length) (fun i => ((c, l, (l.length : Int), (i : Int), ()), (m, s, ()), ())) (fun i => U.cellR (l.getD i U.dC) && U.whole m i) (.inl (c, m, s)) (.inr (c, m, s)) (fun i hi => ?_) ?_
  · cases ha : allN (fun i => U.cellR (l.getD i U.dC) && U.whole m i) l.length 0 <;> simp only [ha, Tr.val, cond_true, cond_false] at h2 this <;> cases h2 <;> exact this
  · have h3 := U.okc_at hok hi
    simp only [b71_0, B71_0, Tr.val, inB_nat hi, rgetC, h3, Int.toNat_natCast, show ((i : Int) < (l.length : Int)) by omega, show ((0 : Int) ≤ (i : Int) ∧ (i : Int) < (m.length : Int) ∧ m.length ≤ 1048576) by omega, decide_true, cond_true, wrap64_nat (show i ≤ 1048576 by omega)]
    cases U.cellR (l.getD i U.dC) <;> cases U.whole m i <;> rfl
  · simp only [b71_0, B71_0, Tr.val, show ¬ ((l.length : Int) < (l.length : Int)) by omega, decide_false, cond_false]
def d71 (a1 : List Cell) (a2 : Bool) (b : Int) : Tr (Bool) :=
  let v1 : Int := ((↑a1.length : Int))
  let v2 : Int := ((↑a1.length : Int))
  Tr.ite (decide (v2 = v1 ∧ (0 : Int) = (0 : Int) ∧ a1.length ≤ a1.length ∧ a1.length ≤ (1048576 : Nat)) && U.okc a1)
    (Tr.ite (allN (fun (i : Nat) => U.cellR (a1.getD i U.dC) && U.whole a1 i) a1.length (0 : Nat)) (Tr.ret (decide (v2 = b))) (Tr.ret false)) Tr.fail
def e71 (r : Bool) : FRes := { rs := Slot.av (AV.one (Leaf.dat Kd.bool r)), upd := [], new := [] }
@[reducible] def a71 : List AK := [AK.d link, AK.d (.int .i64)]
@[reducible] def b71 : List BK := []
theorem t71 (a1 : List Cell) (a2 : Bool) (b : Int) : evFn (E71) Tryd.f71 [PM.data Kd.bool] (akAV a71 ((a1, a2, ()), b, ())) (bkBs b71 ()) = (d71 a1 a2 b).map e71 := by kernel_rfl
def s71 (C : akT a71 → Bool) (G : akT a71 → Bool) : FSpec := aspec a71 b71 e71 (fun x _ => C x) (fun x _ => G x)
theorem k71 {C : akT a71 → Bool} {G : akT a71 → Bool} (hd : ∀ (a1 : List Cell) (a2 : Bool) (b : Int), C ((a1, a2, ()), b, ()) = true → (d71 a1 a2 b).val = some (G ((a1, a2, ()), b, ()))) (IO : ItOK Tryd.prog (E71) := by exact itOK_none rfl) (L : ∀ c, Tryd.f71.body = some c → LsOK (evI 2) ((E71).lend 0) c := by exact fun c _ => LsOK_none rfl c) : SpecOK Tryd.prog E0 71 (s71 C G) :=
  aspec_ok (ak := a71) (bl := b71) (e := e71) (c := fun x _ => C x) (g := fun x _ => G x) (E0 := E0) (E := E71) tab AG71 rfl rfl hm Tryd.func71 (by kernel_rfl) [PM.data Kd.bool] (fun X Y H => by obtain ⟨⟨a1, ⟨a2, _⟩⟩, ⟨b, _⟩⟩ := X; exact val_of (t71 a1 a2 b) (hd a1 a2 b H)) IO L
abbrev w71 : FSpec := s71 (fun x => U.okc x.1.1) fun x => U.fitC x.1.1 && decide ((List.length (α := Cell) x.1.1 : Int) = (x.2.1 : Int))
theorem wk71 : SpecOK Tryd.prog E0 71 w71 := by
  refine k71 (fun l s n H => ?_) (L := ls_ok (lcs := [lc Tryd.f71 0]) (rgs := []) (by kernel_rfl) (by kernel_rfl) L71 trivial)
  have H : U.okc l = true := H
  have hl := U.okc_len H
  show _ = some (U.fitC l && decide ((l.length : Int) = n))
  unfold U.fitC
  simp only [d71, Tr.val, H, hl, Nat.le_refl, and_self, decide_true, Bool.and_self, cond_true]
  cases allN (fun i => U.cellR (l.getD i U.dC) && U.whole l i) l.length 0 <;> simp
def live24 (key : Nat) : Lv :=
  bif Nat.beq key 2 then { ls := [5, 6, 7] } else bif Nat.beq key 1002 then { ls := [2] } else
  { ls := [] }
abbrev M24 (ls : Nat → VS → Option (Tr (Ex × VS))) : Env := (E0.withFns [(71, w71)]).loops live24 ls
@[reducible] def p24_0 : LP := { n := 30, sl := [.d (link.sl), .d (.int .i64), .d (.int .i64)], bl := [] }
def B24_0 (x0 : List Line) (x1 : Int) (x2 : Int) : Tr (p24_0.T ⊕ (Unit ⊕ Unit)) :=
  let v1 : Int := ((↑(List.length (rget link x0 x2).fst) : Int))
  let v2 : Int := ((↑(List.length (rget link x0 x2).fst) : Int))
  Tr.ite (decide (x2 < x1))
    (Tr.ite (inB x2 x0.length)
      (Tr.ite (decide (v2 < (1 : Int))) (Tr.ret (Sum.inr (Sum.inl ())))
        (Tr.ite (decide ((80 : Int) < v2)) (Tr.ret (Sum.inr (Sum.inl ())))
          (Tr.ite (U.okc (rget link x0 x2).fst)
            (Tr.ite (!(U.fitC (rget link x0 x2).fst && decide (v1 = v2))) (Tr.ret (Sum.inr (Sum.inl ()))) (Tr.ret (Sum.inl ((x0, x1, IntKind.i64.wrap (x2 + (1 : Int)), ()), ())))) Tr.fail)))
      Tr.fail)
    (Tr.ret (Sum.inr (Sum.inr ())))
def X24_0 : (Unit ⊕ Unit) → Ex × VS
  | (.inl r) => Prod.mk Ex.ret { n := 30, v := [Slot.av (AV.one (Leaf.kb false))], h := [] }
  | (.inr r) => Prod.mk (Ex.exit ( 0)) { n := 30, v := [Slot.av (AV.one Leaf.undef)], h := [] }
def b24_0 : p24_0.T → Tr (p24_0.T ⊕ (Unit ⊕ Unit)) := fun ⟨⟨x0, ⟨x1, ⟨x2, _⟩⟩⟩, _⟩ => B24_0 x0 x1 x2
theorem h24_0 (ls : Nat → VS → Option (Tr (Ex × VS))) (x : p24_0.T) : (evC (evI 2) (lc Tryd.f24 0) (Env.lend (M24 ls) 0) (unV (live24 2) (p24_0.V x))).map (decL 0 (live24 2) (live24 1002)) = (b24_0 x).map (encR p24_0.V X24_0) := by
  obtain ⟨⟨x0, ⟨x1, ⟨x2, _⟩⟩⟩, _⟩ := x; kernel_rfl
theorem c24_0 (x : p24_0.T) : canV 0 (live24 2) (unV (live24 2) (p24_0.V x)) = p24_0.V x := by
  obtain ⟨⟨x0, ⟨x1, ⟨x2, _⟩⟩⟩, _⟩ := x; kernel_rfl
theorem l24_0 {T : p24_0.T → Tr (Unit ⊕ Unit)} {ls : Nat → VS → Option (Tr (Ex × VS))} (hls : ∀ x, (Env.lend (M24 ls) 0).ls 2 x = p24_0.ls (fun a => (T a).map X24_0) x) (hS : ∀ x r, (T x).val = some r → Rounds b24_0 x r) : LoopOK (evI 2) (Env.lend (M24 ls) 0) (lc Tryd.f24 0) :=
  loopA 2 (live24 2) (live24 1002) p24_0 b24_0 X24_0 T (by kernel_rfl) rfl rfl hls (h24_0 ls) c24_0 hS
def T26 (x : p26_0.T) : Tr (Unit ⊕ Unit) :=
  .ite (decide ((x.1.2.2.1 : Int) = (List.length (α := Line) x.1.1 : Int) ∧ (x.1.2.2.2.1 : Int) = 0 ∧ List.length (α := Line) x.1.1 = List.length (α := Line) x.1.2.1) && (decide (List.length (α := Line) x.1.1 ≤ 1048576) && List.all (α := Line) x.1.1 fun y => decide (y.1.length ≤ 1048576)))
    (.ite (U.eqLs x.1.1 x.1.2.1) (.ret (.inr ())) (.ret (.inl ()))) .fail
abbrev E26 : Env := M26 fun key x => bif Nat.beq key 4 then p26_0.ls (fun a => (T26 a).map X26_0) x else none
theorem L26 : LoopOK (evI 2) (E26.lend 0) (lc Tryd.f26 0) := by
  refine l26_0 (T := T26) (fun x => rfl) ?_
  rintro ⟨⟨l, m, n, i, z⟩, z3⟩ r h
  obtain ⟨g1, g2⟩ := pre_val h
  rw [Bool.and_eq_true, Bool.and_eq_true] at g1
  obtain ⟨g1, g3, g4⟩ := g1
  obtain ⟨e1, e2, e3⟩ := of_decide_eq_true g1
  have g3 : List.length (α := Line) l ≤ 1048576 := of_decide_eq_true g3
  dsimp only at e1 e2 e3 g2
  subst e1; subst e2
  have := Rounds.all (B := b26_0) (N := List.length (α := Line) l) (fun i => ((l, m, (List.length (α := Line) l : Int), (i : Int), ()), ())) (fun i => U.eqL (List.getD (α := Line) l i U.dL) (List.getD (α := Line) m i U.dL)) (.inl ()) (.inr ()) (fun i hi => ?_) ?_
  · have e : allN (fun i => U.eqL (List.getD (α := Line) l i U.dL) (List.getD (α := Line) m i U.dL)) (List.length (α := Line) l) 0 = U.eqLs l m := by
      unfold U.eqLs
      rw [decide_eq_true e3, Bool.true_and]
    rw [e] at this
    cases hd : U.eqLs l m <;> simp only [hd, Tr.val, cond_true, cond_false] at g2 this <;> cases g2 <;> exact this
  · have i2 : inB (i : Int) (List.length (α := Line) m) = true := inB_nat (by omega)
    have i3 : (List.getD (α := Line) l i U.dL).1.length ≤ 1048576 := by
      rw [getD_el hi]
      exact of_decide_eq_true (List.all_eq_true.1 g4 _ (List.getElem_mem hi))
    simp only [b26_0, B26_0, Tr.val, inB_nat hi, i2, i3, rgetL, show ((i : Int) < (List.length (α := Line) l : Int)) by omega, decide_true, cond_true, wrap64_nat (show i ≤ 1048576 by omega)]
    cases U.eqL (List.getD (α := Line) l i U.dL) (List.getD (α := Line) m i U.dL) <;> rfl
  · simp only [b26_0, B26_0, Tr.val, show ¬ ((List.length (α := Line) l : Int) < (List.length (α := Line) l : Int)) by omega, decide_false, cond_false]
def d26 (a : List Line) (b : List Line) : Tr (Bool) :=
  let v1 : Int := ((↑a.length : Int))
  let v2 : Int := ((↑a.length : Int))
  let v3 : Int := ((↑b.length : Int))
  Tr.ite (!decide (v2 = v3)) (Tr.ret false)
    (Tr.ite (decide (v2 = v1 ∧ (0 : Int) = (0 : Int) ∧ a.length = b.length) && (decide (a.length ≤ (1048576 : Nat)) && a.all fun (y : Line) => decide (y.fst.length ≤ (1048576 : Nat))))
      (Tr.ite (U.eqLs a b) (Tr.ret true) (Tr.ret false)) Tr.fail)
def e26 (r : Bool) : FRes := { rs := Slot.av (AV.one (Leaf.dat Kd.bool r)), upd := [], new := [] }
@[reducible] def a26 : List AK := [AK.d link.sl, AK.d link.sl]
@[reducible] def b26 : List BK := []
theorem t26 (a : List Line) (b : List Line) : evFn (E26) Tryd.f26 [PM.data Kd.bool] (akAV a26 (a, b, ())) (bkBs b26 ()) = (d26 a b).map e26 := by kernel_rfl
def s26 (C : akT a26 → Bool) (G : akT a26 → Bool) : FSpec := aspec a26 b26 e26 (fun x _ => C x) (fun x _ => G x)
theorem k26 {C : akT a26 → Bool} {G : akT a26 → Bool} (hd : ∀ (a : List Line) (b : List Line), C (a, b, ()) = true → (d26 a b).val = some (G (a, b, ()))) (IO : ItOK Tryd.prog (E26) := by exact itOK_none rfl) (L : ∀ c, Tryd.f26.body = some c → LsOK (evI 2) ((E26).lend 0) c := by exact fun c _ => LsOK_none rfl c) : SpecOK Tryd.prog E0 26 (s26 C G) :=
  aspec_ok (ak := a26) (bl := b26) (e := e26) (c := fun x _ => C x) (g := fun x _ => G x) (E0 := E0) (E := E26) tab (.cons wk25 .nil) rfl rfl hm Tryd.func26 (by kernel_rfl) [PM.data Kd.bool] (fun X Y H => by obtain ⟨a, ⟨b, _⟩⟩ := X; exact val_of (t26 a b) (hd a b H)) IO L
abbrev w26 : FSpec := s26 (fun x => decide (List.length (α := Line) x.1 ≤ 1048576) && List.all (α := Line) x.1 fun y => decide (y.1.length ≤ 1048576)) fun x => U.eqLs x.1 x.2.1
theorem wk26 : SpecOK Tryd.prog E0 26 w26 := by
  refine k26 (fun l m H => ?_) (L := ls_ok (lcs := [lc Tryd.f26 0]) (rgs := []) (by kernel_rfl) (by kernel_rfl) L26 trivial)
  have H : (decide (l.length ≤ 1048576) && l.all fun y => decide (y.1.length ≤ 1048576)) = true := H
  show _ = some (U.eqLs l m)
  by_cases h1 : l.length = m.length
  · have h2 : decide ((l.length : Int) = (m.length : Int)) = true := decide_eq_true (by omega)
    simp only [d26, Tr.val, h2, h1 ▸ H, h1, decide_true, Bool.not_true, Bool.and_self, cond_true, cond_false, and_self]
    cases U.eqLs l m <;> rfl
  · have h2 : decide ((l.length : Int) = (m.length : Int)) = false := decide_eq_false (by omega)
    simp only [d26, Tr.val, h2, Bool.not_false, cond_true, U.eqLs, decide_eq_false h1, Bool.false_and]
def T24 (x : p24_0.T) : Tr (Unit ⊕ Unit) :=
  .ite (decide ((x.1.2.1 : Int) = (List.length (α := Line) x.1.1 : Int) ∧ (x.1.2.2.1 : Int) = 0) && U.okl x.1.1)
    (.ite (List.any (α := Line) x.1.1 fun y => U.odd y.1) (.ret (.inl ())) (.ret (.inr ()))) .fail
abbrev E24 : Env := M24 fun key x => bif Nat.beq key 2 then p24_0.ls (fun a => (T24 a).map X24_0) x else none
theorem L24 : LoopOK (evI 2) (E24.lend 0) (lc Tryd.f24 0) := by
  refine l24_0 (T := T24) (fun x => rfl) ?_
  rintro ⟨⟨l, n, i, z⟩, z3⟩ r h
  obtain ⟨g1, g2⟩ := pre_val h
  rw [Bool.and_eq_true] at g1
  obtain ⟨g1, g3⟩ := g1
  obtain ⟨e1, e2⟩ := of_decide_eq_true g1
  dsimp only at e1 e2 g2 g3
  subst e1; subst e2
  have hl := U.okl_len g3
  have := Rounds.all (B := b24_0) (N := l.length) (fun i => ((l, (l.length : Int), (i : Int), ()), ())) (fun i => !U.odd (l.getD i U.dL).1) (.inl ()) (.inr ()) (fun i hi => ?_) ?_
  · have e : allN (fun i => !U.odd (l.getD i U.dL).1) l.length 0 = !(l.any fun y => U.odd y.1) := by
      rw [allN_list (q := fun y : Line => !U.odd y.1), List.not_any_eq_all_not]
    rw [e] at this
    cases hd : (List.any (α := Line) l fun y => U.odd y.1) <;> simp only [hd, Tr.val, Bool.not_true, Bool.not_false, cond_true, cond_false] at g2 this <;> cases g2 <;> exact this
  · have h3 := U.okl_at g3 hi
    simp only [b24_0, B24_0, Tr.val, inB_nat hi, rgetL, h3, show ((i : Int) < (l.length : Int)) by omega, decide_true, cond_true, wrap64_nat (show i ≤ 1048576 by omega), Bool.and_true]
    unfold U.odd
    by_cases h4 : ((l.getD i U.dL).1.length : Int) < 1
    · simp only [h4, show ¬ 1 ≤ (l.getD i U.dL).1.length by omega, decide_true, decide_false, cond_true, Bool.false_and, Bool.not_false, Bool.not_true, cond_false]
    · by_cases h5 : (80 : Int) < ((l.getD i U.dL).1.length : Int)
      · simp only [h4, h5, show ¬ (l.getD i U.dL).1.length ≤ 80 by omega, decide_true, decide_false, cond_true, cond_false, Bool.false_and, Bool.and_false, Bool.not_false, Bool.not_true]
      · simp only [h4, h5, show (l.getD i U.dL).1.length ≤ 80 by omega, show 1 ≤ (l.getD i U.dL).1.length by omega, decide_true, decide_false, cond_false, Bool.true_and, Bool.not_not]
        cases U.fitC (l.getD i U.dL).1 <;> rfl
  · simp only [b24_0, B24_0, Tr.val, show ¬ ((l.length : Int) < (l.length : Int)) by omega, decide_false, cond_false]
def d24 (a : List Line) : Tr (Bool) :=
  let v1 : Int := ((↑a.length : Int))
  let v2 : Int := ((↑a.length : Int))
  Tr.ite (decide (v2 = v1 ∧ (0 : Int) = (0 : Int)) && U.okl a) (Tr.ite (a.any fun (y : Line) => U.odd y.fst) (Tr.ret false) (Tr.ret true)) Tr.fail
def e24 (r : Bool) : FRes := { rs := Slot.av (AV.one (Leaf.dat Kd.bool r)), upd := [], new := [] }
@[reducible] def a24 : List AK := [AK.d link.sl]
@[reducible] def b24 : List BK := []
theorem t24 (a : List Line) : evFn (E24) Tryd.f24 [PM.data Kd.bool] (akAV a24 (a, ())) (bkBs b24 ()) = (d24 a).map e24 := by kernel_rfl
def s24 (C : akT a24 → Bool) (G : akT a24 → Bool) : FSpec := aspec a24 b24 e24 (fun x _ => C x) (fun x _ => G x)
theorem k24 {C : akT a24 → Bool} {G : akT a24 → Bool} (hd : ∀ (a : List Line), C (a, ()) = true → (d24 a).val = some (G (a, ()))) (IO : ItOK Tryd.prog (E24) := by exact itOK_none rfl) (L : ∀ c, Tryd.f24.body = some c → LsOK (evI 2) ((E24).lend 0) c := by exact fun c _ => LsOK_none rfl c) : SpecOK Tryd.prog E0 24 (s24 C G) :=
  aspec_ok (ak := a24) (bl := b24) (e := e24) (c := fun x _ => C x) (g := fun x _ => G x) (E0 := E0) (E := E24) tab (.cons wk71 .nil) rfl rfl hm Tryd.func24 (by kernel_rfl) [PM.data Kd.bool] (fun X Y H => by obtain ⟨a, _⟩ := X; exact val_of (t24 a) (hd a H)) IO L
abbrev w24 : FSpec := s24 (fun x => U.okl x.1) fun x => !(List.any (α := Line) x.1 fun y => U.odd y.1)
theorem wk24 : SpecOK Tryd.prog E0 24 w24 := by
  refine k24 (fun l H => ?_) (L := ls_ok (lcs := [lc Tryd.f24 0]) (rgs := []) (by kernel_rfl) (by kernel_rfl) L24 trivial)
  have H : U.okl l = true := H
  show _ = some (!(l.any fun y => U.odd y.1))
  simp only [d24, Tr.val, H, decide_true, and_self, Bool.and_self, cond_true]
  cases l.any fun y => U.odd y.1 <;> rfl
def d21 (a1 : Int) (a2 : List Line) : Tr (Bool) :=
  let v1 : Int := ((↑a2.length : Int))
  Tr.ite (decide ((0 : Int) ≤ a1))
    (Tr.ite (decide (a1 ≤ (40 : Int))) (Tr.ite (decide (v1 ≤ a1)) (Tr.ite (U.okl a2) (Tr.ret !a2.any fun (y : Line) => U.odd y.fst) Tr.fail) (Tr.ret false)) (Tr.ret false)) (Tr.ret false)
def e21 (r : Bool) : FRes := { rs := Slot.av (AV.one (Leaf.dat Kd.bool r)), upd := [], new := [] }
@[reducible] def a21 : List AK := [AK.d bakk]
@[reducible] def b21 : List BK := []
theorem t21 (a1 : Int) (a2 : List Line) : evFn (E0.withFns [((24 : Nat), w24)]) Tryd.f21 [PM.data Kd.bool] (akAV a21 ((a1, a2, ()), ())) (bkBs b21 ()) = (d21 a1 a2).map e21 := by kernel_rfl
def s21 (C : akT a21 → Bool) (G : akT a21 → Bool) : FSpec := aspec a21 b21 e21 (fun x _ => C x) (fun x _ => G x)
theorem k21 {C : akT a21 → Bool} {G : akT a21 → Bool} (hd : ∀ (a1 : Int) (a2 : List Line), C ((a1, a2, ()), ()) = true → (d21 a1 a2).val = some (G ((a1, a2, ()), ()))) (IO : ItOK Tryd.prog (E0.withFns [((24 : Nat), w24)]) := by exact itOK_none rfl) (L : ∀ c, Tryd.f21.body = some c → LsOK (evI 2) ((E0.withFns [((24 : Nat), w24)]).lend 0) c := by exact fun c _ => LsOK_none rfl c) : SpecOK Tryd.prog E0 21 (s21 C G) :=
  aspec_ok (ak := a21) (bl := b21) (e := e21) (c := fun x _ => C x) (g := fun x _ => G x) (E0 := E0) (E := E0.withFns [((24 : Nat), w24)]) tab (.cons wk24 .nil) rfl rfl hm Tryd.func21 (by kernel_rfl) [PM.data Kd.bool] (fun X Y H => by obtain ⟨⟨a1, ⟨a2, _⟩⟩, _⟩ := X; exact val_of (t21 a1 a2) (hd a1 a2 H)) IO L
abbrev w21 : FSpec := s21 (fun x => U.okl x.1.2.1) fun x => keepB x.1
theorem wk21 : SpecOK Tryd.prog E0 21 w21 := by
  refine k21 fun n l H => ?_
  have H : U.okl l = true := H
  show _ = some (keepB (n, l, ()))
  unfold keepB
  by_cases h1 : 0 ≤ n <;> by_cases h2 : n ≤ 40 <;> by_cases h3 : (l.length : Int) ≤ n <;> simp [d21, Tr.val, H, h1, h2, h3]
def d23 (a1 : Int) (a2 : List Line) (b1 : Int) (b2 : List Line) : Tr (Bool) :=
  Tr.ite (decide (a1 = b1)) (Tr.ite (decide (a2.length ≤ (1048576 : Nat)) && a2.all fun (y : Line) => decide (y.fst.length ≤ (1048576 : Nat))) (Tr.ret (U.eqLs a2 b2)) Tr.fail) (Tr.ret false)
def e23 (r : Bool) : FRes := { rs := Slot.av (AV.one (Leaf.dat Kd.bool r)), upd := [], new := [] }
@[reducible] def a23 : List AK := [AK.d bakk, AK.d bakk]
@[reducible] def b23 : List BK := []
theorem t23 (a1 : Int) (a2 : List Line) (b1 : Int) (b2 : List Line) : evFn (E0.withFns [((26 : Nat), w26)]) Tryd.f23 [PM.data Kd.bool] (akAV a23 ((a1, a2, ()), (b1, b2, ()), ())) (bkBs b23 ()) = (d23 a1 a2 b1 b2).map e23 := by kernel_rfl
def s23 (C : akT a23 → Bool) (G : akT a23 → Bool) : FSpec := aspec a23 b23 e23 (fun x _ => C x) (fun x _ => G x)
theorem k23 {C : akT a23 → Bool} {G : akT a23 → Bool} (hd : ∀ (a1 : Int) (a2 : List Line) (b1 : Int) (b2 : List Line), C ((a1, a2, ()), (b1, b2, ()), ()) = true → (d23 a1 a2 b1 b2).val = some (G ((a1, a2, ()), (b1, b2, ()), ()))) (IO : ItOK Tryd.prog (E0.withFns [((26 : Nat), w26)]) := by exact itOK_none rfl) (L : ∀ c, Tryd.f23.body = some c → LsOK (evI 2) ((E0.withFns [((26 : Nat), w26)]).lend 0) c := by exact fun c _ => LsOK_none rfl c) : SpecOK Tryd.prog E0 23 (s23 C G) :=
  aspec_ok (ak := a23) (bl := b23) (e := e23) (c := fun x _ => C x) (g := fun x _ => G x) (E0 := E0) (E := E0.withFns [((26 : Nat), w26)]) tab (.cons wk26 .nil) rfl rfl hm Tryd.func23 (by kernel_rfl) [PM.data Kd.bool] (fun X Y H => by obtain ⟨⟨a1, ⟨a2, _⟩⟩, ⟨⟨b1, ⟨b2, _⟩⟩, _⟩⟩ := X; exact val_of (t23 a1 a2 b1 b2) (hd a1 a2 b1 b2 H)) IO L
def d82 (a : ByteArray) : Tr (List Cell × Bool) :=
  Tr.ret ([(a, (1 : Int), ((0 : Int), (0 : Int), (0 : Int), ()), ())], false)
def e82 (r : List Cell × Bool) : FRes := { rs := Slot.av (AV.agg [Leaf.dat celk.sl r.fst, Leaf.dat Kd.bool r.snd]), upd := [], new := [] }
@[reducible] def a82 : List AK := [AK.d Kd.str]
@[reducible] def b82 : List BK := []
theorem t82 (a : ByteArray) : evFn (E0) Tryd.f82 [PM.data link] (akAV a82 (a, ())) (bkBs b82 ()) = (d82 a).map e82 := by kernel_rfl
def s82' (G : akT a82 → List Cell × Bool) : FSpec := aspec0 a82 b82 e82 (fun x _ => G x)
theorem k82' {G : akT a82 → List Cell × Bool} (hd : ∀ (a : ByteArray), (d82 a).val = some (G (a, ()))) (IO : ItOK Tryd.prog (E0) := by exact itOK_none rfl) (L : ∀ c, Tryd.f82.body = some c → LsOK (evI 2) ((E0).lend 0) c := by exact fun c _ => LsOK_none rfl c) : SpecOK Tryd.prog E0 82 (s82' G) :=
  aspec0_ok (ak := a82) (bl := b82) (e := e82) (g := fun x _ => G x) (E0 := E0) (E := E0) tab .nil rfl rfl hm Tryd.func82 (by kernel_rfl) [PM.data link] (fun X Y => by obtain ⟨a, _⟩ := X; exact val_of (t82 a) (hd a)) IO L
end Go.Proofs.YtmnbcnhpklejcaaDoor

end
section
set_option linter.unusedVariables false
set_option linter.unusedSimpArgs false
set_option maxRecDepth 20000
open Go Go.Ev
namespace Go.Proofs.YtmnbcnhpklejcaaDoor
open Go.RowKit
abbrev okls (l : List Line) : Bool := decide (List.length (α := Line) l ≤ 1048576) && List.all (α := Line) l fun y => decide (y.1.length ≤ 1048576)
abbrev w23 : FSpec := s23 (fun x => okls x.1.2.1) fun x => decide ((x.1.1 : Int) = x.2.1.1) && U.eqLs x.1.2.1 x.2.1.2.1
theorem wk23 : SpecOK Tryd.prog E0 23 w23 := by
  refine k23 fun n l m k H => ?_
  have H : okls l = true := H
  show _ = some (decide (n = m) && U.eqLs l k)
  unfold okls at H
  by_cases h : n = m <;> simp only [d23, Tr.val, H, h, decide_true, decide_false, cond_true, cond_false, Bool.true_and, Bool.false_and]
abbrev w82 : FSpec := s82' fun x => ([(x.1, (1 : Int), ((0 : Int), (0 : Int), (0 : Int), ()), ())], false)
theorem wk82 : SpecOK Tryd.prog E0 82 w82 := by
  refine k82' fun a => ?_
  rfl
abbrev G22 : List (Nat × FSpec) := [(17, w17), (19, w19), (82, w82)]
theorem AG22 : AllFn Tryd.prog E0 G22 := .cons wk17 (.cons wk19 (.cons wk82 .nil))
def d22 : Tr (Bool) :=
  Tr.ite true (Tr.ite true (Tr.ite true (Tr.ite true (Tr.ite true (Tr.ite true (Tr.ite true (Tr.ret true) Tr.fail) (Tr.ret false)) (Tr.ret false)) (Tr.ret false)) (Tr.ret false)) Tr.fail) Tr.fail
def e22 (r : Bool) : FRes := { rs := Slot.av (AV.one (Leaf.dat Kd.bool r)), upd := [], new := [] }
@[reducible] def a22 : List AK := []
@[reducible] def b22 : List BK := []
theorem t22 : evFn (E0.withFns G22) Tryd.f22 [PM.data Kd.bool] (akAV a22 ()) (bkBs b22 ()) = (d22).map e22 := by kernel_rfl
def s22' (G : akT a22 → Bool) : FSpec := aspec0 a22 b22 e22 (fun x _ => G x)
theorem k22' {G : akT a22 → Bool} (hd : (d22).val = some (G ())) (IO : ItOK Tryd.prog (E0.withFns G22) := by exact itOK_none rfl) (L : ∀ c, Tryd.f22.body = some c → LsOK (evI 2) ((E0.withFns G22).lend 0) c := by exact fun c _ => LsOK_none rfl c) : SpecOK Tryd.prog E0 22 (s22' G) :=
  aspec0_ok (ak := a22) (bl := b22) (e := e22) (g := fun x _ => G x) (E0 := E0) (E := E0.withFns G22) tab AG22 rfl rfl hm Tryd.func22 (by kernel_rfl) [PM.data Kd.bool] (fun X Y => by exact val_of (t22) (hd)) IO L
abbrev w22 : FSpec := s22' fun _ => true
theorem wk22 : SpecOK Tryd.prog E0 22 w22 := by
  refine k22' ?_
  rfl
abbrev G3L : List (Nat × FSpec) := [(15, w15), (16, w16), (17, w17), (18, w18), (19, w19), (20, w20), (21, w21), (22, w22), (23, w23), (24, w24), (25, w25), (26, w26)]
theorem AG3L : AllFn Tryd.prog E0 G3L := .cons wk15 (.cons wk16 (.cons wk17 (.cons wk18 (.cons wk19 (.cons wk20 (.cons wk21 (.cons wk22 (.cons wk23 (.cons wk24 (.cons wk25 (.cons wk26 .nil)))))))))))
def d3 (a1 : Int) (a2 : List Line) (b : List Line) (c : Int) : Tr (Bool) :=
  let v1 : List U.Ln := (U.few b (50 : Nat))
  let v2 : List U.Ln := (U.few a2 (42 : Nat))
  let v3 : Int := ((↑v2.length : Int))
  let v4 : Int := (v3 - minI c v3)
  let v5 : List Line := (sub v2 (IntKind.i64.wrap v4).toNat v2.length)
  let v6 : Int := (v3 - (1 : Int))
  let v7 : Int := (IntKind.i64.wrap v6 - c)
  let v8 : List Line := (sub v2 (0 : Nat) (IntKind.i64.wrap v4).toNat)
  let v9 : Int := ((U.rawPush (a1, v2, ()) v1).fst)
  let v10 : List Cell := ((U.rawAt (a1, v2, ()) c).fst)
  let v11 : Int := ((↑v10.length : Int))
  let v12 : Int := ((U.rawTake (a1, v2, ()) c).fst)
  let v13 : Int := ((U.rawAt (a1, v2, ()) c).snd.snd)
  let v14 : Int := ((U.rawPush (a1, v2, ()) v1).snd.snd)
  let v15 : List Line := ((U.rawPush (a1, v2, ()) v1).snd.fst)
  let v16 : List Line := ((U.rawTake (a1, v2, ()) c).snd.fst)
  let v17 : Int := ((U.rawTake (a1, v2, ()) c).snd.snd.snd)
  let v18 : List Line := ((U.rawTake (a1, v2, ()) c).snd.snd.fst)
  let v19 : Int := ((↑v18.length : Int))
  let v20 : Int := ((↑(List.length (v2 ++ v1)) : Int))
  let v21 : Int := (v20 - a1)
  Tr.ite true
    (Tr.ite (U.okl v2 && U.okl v1 && decide (v2.length + v1.length ≤ (1048576 : Nat)))
      (Tr.ite (U.okl v2)
        (Tr.ite (U.okl v2)
          (Tr.ite (U.okl v2)
            (Tr.ite (U.okl v2)
              (Tr.ite (!keepB (a1, v2, ()) == keepB (a1, v2, ())) (Tr.ret false)
                (Tr.ite false (Tr.ret false)
                  (Tr.ite (U.okl v2)
                    (Tr.ite (!keepB (a1, v2, ()))
                      (Tr.ite (decide (v14 = (1 : Int)))
                        (Tr.ite (decide (v17 = (1 : Int)))
                          (Tr.ite (decide (v13 = (1 : Int)))
                            (Tr.ite (okls v15)
                              (Tr.ite (decide (v9 = (0 : Int)) && U.eqLs v15 [])
                                (Tr.ite (okls v16)
                                  (Tr.ite (decide (v12 = (0 : Int)) && U.eqLs v16 []) (Tr.ite (decide (v19 = (0 : Int))) (Tr.ret (decide (v11 = (0 : Int)))) (Tr.ret false)) (Tr.ret false)) Tr.fail)
                                (Tr.ret false))
                              Tr.fail)
                            (Tr.ret false))
                          (Tr.ret false))
                        (Tr.ret false))
                      (Tr.ite (U.okl v1)
                        (Tr.ite (!!v1.any fun (y : Line) => U.odd y.fst)
                          (Tr.ite (!decide (v14 = (1 : Int))) (Tr.ret false)
                            (Tr.ite (okls v15)
                              (Tr.ite (!(decide (v9 = (0 : Int)) && U.eqLs v15 [])) (Tr.ret false)
                                (Tr.ite (decide (c < (0 : Int)))
                                  (Tr.ite (!decide (v13 = (5 : Int))) (Tr.ret false)
                                    (Tr.ite (!decide (v11 = (0 : Int))) (Tr.ret false)
                                      (Tr.ite (decide (c < (0 : Int)))
                                        (Tr.ite (decide (v17 = (1 : Int)))
                                          (Tr.ite (okls v16) (Tr.ite (decide (v12 = (0 : Int)) && U.eqLs v16 []) (Tr.ret (decide (v19 = (0 : Int)))) (Tr.ret false)) Tr.fail) (Tr.ret false))
                                        (Tr.ite (decide (v17 = (0 : Int)))
                                          (Tr.ite (decide ((0 : Int) ≤ IntKind.i64.wrap v4 ∧ IntKind.i64.wrap v4 ≤ v3))
                                            (Tr.ite (okls v16)
                                              (Tr.ite (decide (v12 = a1) && U.eqLs v16 v8)
                                                (Tr.ite (decide ((0 : Int) ≤ IntKind.i64.wrap v4 ∧ IntKind.i64.wrap v4 ≤ v3))
                                                  (Tr.ite (decide (v18.length ≤ (1048576 : Nat)) && v18.all fun (y : Line) => decide (y.fst.length ≤ (1048576 : Nat))) (Tr.ret (U.eqLs v18 v5)) Tr.fail)
                                                  Tr.fail)
                                                (Tr.ret false))
                                              Tr.fail)
                                            Tr.fail)
                                          (Tr.ret false)))))
                                  (Tr.ite (decide (v3 ≤ c))
                                    (Tr.ite (!decide (v13 = (5 : Int))) (Tr.ret false)
                                      (Tr.ite (!decide (v11 = (0 : Int))) (Tr.ret false)
                                        (Tr.ite (decide (c < (0 : Int)))
                                          (Tr.ite (decide (v17 = (1 : Int)))
                                            (Tr.ite (okls v16) (Tr.ite (decide (v12 = (0 : Int)) && U.eqLs v16 []) (Tr.ret (decide (v19 = (0 : Int)))) (Tr.ret false)) Tr.fail) (Tr.ret false))
                                          (Tr.ite (decide (v17 = (0 : Int)))
                                            (Tr.ite (decide ((0 : Int) ≤ IntKind.i64.wrap v4 ∧ IntKind.i64.wrap v4 ≤ v3))
                                              (Tr.ite (okls v16)
                                                (Tr.ite (decide (v12 = a1) && U.eqLs v16 v8)
                                                  (Tr.ite (decide ((0 : Int) ≤ IntKind.i64.wrap v4 ∧ IntKind.i64.wrap v4 ≤ v3))
                                                    (Tr.ite (decide (v18.length ≤ (1048576 : Nat)) && v18.all fun (y : Line) => decide (y.fst.length ≤ (1048576 : Nat))) (Tr.ret (U.eqLs v18 v5)) Tr.fail)
                                                    Tr.fail)
                                                  (Tr.ret false))
                                                Tr.fail)
                                              Tr.fail)
                                            (Tr.ret false)))))
                                    (Tr.ite (!decide (v13 = (0 : Int))) (Tr.ret false)
                                      (Tr.ite (inB (IntKind.i64.wrap v7) v2.length)
                                        (Tr.ite (decide (v10.length ≤ (1048576 : Nat)))
                                          (Tr.ite (!U.eqL (v10, (U.rawAt (a1, v2, ()) c).snd.fst, ()) (rget link v2 (IntKind.i64.wrap v7))) (Tr.ret false)
                                            (Tr.ite (decide (c < (0 : Int)))
                                              (Tr.ite (decide (v17 = (1 : Int)))
                                                (Tr.ite (okls v16) (Tr.ite (decide (v12 = (0 : Int)) && U.eqLs v16 []) (Tr.ret (decide (v19 = (0 : Int)))) (Tr.ret false)) Tr.fail) (Tr.ret false))
                                              (Tr.ite (decide (v17 = (0 : Int)))
                                                (Tr.ite (decide ((0 : Int) ≤ IntKind.i64.wrap v4 ∧ IntKind.i64.wrap v4 ≤ v3))
                                                  (Tr.ite (okls v16)
                                                    (Tr.ite (decide (v12 = a1) && U.eqLs v16 v8)
                                                      (Tr.ite (decide ((0 : Int) ≤ IntKind.i64.wrap v4 ∧ IntKind.i64.wrap v4 ≤ v3))
                                                        (Tr.ite (decide (v18.length ≤ (1048576 : Nat)) && v18.all fun (y : Line) => decide (y.fst.length ≤ (1048576 : Nat))) (Tr.ret (U.eqLs v18 v5))
                                                          Tr.fail)
                                                        Tr.fail)
                                                      (Tr.ret false))
                                                    Tr.fail)
                                                  Tr.fail)
                                                (Tr.ret false))))
                                          Tr.fail)
                                        Tr.fail)))))
                              Tr.fail))
                          (Tr.ite (decide (((0 : Nat) + v2.length) * (32 : Nat) ≤ (140737488355328 : Nat)))
                            (Tr.ite (decide ((v2.length + v1.length) * (32 : Nat) ≤ (140737488355328 : Nat)))
                              (Tr.ite (decide (a1 < v20))
                                (Tr.ite (decide ((0 : Int) ≤ IntKind.i64.wrap v21 ∧ IntKind.i64.wrap v21 ≤ v20))
                                  (Tr.ite (!decide (v14 = (0 : Int))) (Tr.ret false)
                                    (Tr.ite (okls v15)
                                      (Tr.ite (!(decide (v9 = a1) && U.eqLs v15 (sub (v2 ++ v1) (IntKind.i64.wrap v21).toNat (List.length (v2 ++ v1))))) (Tr.ret false)
                                        (Tr.ite (decide (c < (0 : Int)))
                                          (Tr.ite (!decide (v13 = (5 : Int))) (Tr.ret false)
                                            (Tr.ite (!decide (v11 = (0 : Int))) (Tr.ret false)
                                              (Tr.ite (decide (c < (0 : Int)))
                                                (Tr.ite (decide (v17 = (1 : Int)))
                                                  (Tr.ite (okls v16) (Tr.ite (decide (v12 = (0 : Int)) && U.eqLs v16 []) (Tr.ret (decide (v19 = (0 : Int)))) (Tr.ret false)) Tr.fail) (Tr.ret false))
                                                (Tr.ite (decide (v17 = (0 : Int)))
                                                  (Tr.ite (decide ((0 : Int) ≤ IntKind.i64.wrap v4 ∧ IntKind.i64.wrap v4 ≤ v3))
                                                    (Tr.ite (okls v16)
                                                      (Tr.ite (decide (v12 = a1) && U.eqLs v16 v8)
                                                        (Tr.ite (decide ((0 : Int) ≤ IntKind.i64.wrap v4 ∧ IntKind.i64.wrap v4 ≤ v3))
                                                          (Tr.ite (decide (v18.length ≤ (1048576 : Nat)) && v18.all fun (y : Line) => decide (y.fst.length ≤ (1048576 : Nat))) (Tr.ret (U.eqLs v18 v5))
                                                            Tr.fail)
                                                          Tr.fail)
                                                        (Tr.ret false))
                                                      Tr.fail)
                                                    Tr.fail)
                                                  (Tr.ret false)))))
                                          (Tr.ite (decide (v3 ≤ c))
                                            (Tr.ite (!decide (v13 = (5 : Int))) (Tr.ret false)
                                              (Tr.ite (!decide (v11 = (0 : Int))) (Tr.ret false)
                                                (Tr.ite (decide (c < (0 : Int)))
                                                  (Tr.ite (decide (v17 = (1 : Int)))
                                                    (Tr.ite (okls v16) (Tr.ite (decide (v12 = (0 : Int)) && U.eqLs v16 []) (Tr.ret (decide (v19 = (0 : Int)))) (Tr.ret false)) Tr.fail) (Tr.ret false))
                                                  (Tr.ite (decide (v17 = (0 : Int)))
                                                    (Tr.ite (decide ((0 : Int) ≤ IntKind.i64.wrap v4 ∧ IntKind.i64.wrap v4 ≤ v3))
                                                      (Tr.ite (okls v16)
                                                        (Tr.ite (decide (v12 = a1) && U.eqLs v16 v8)
                                                          (Tr.ite (decide ((0 : Int) ≤ IntKind.i64.wrap v4 ∧ IntKind.i64.wrap v4 ≤ v3))
                                                            (Tr.ite (decide (v18.length ≤ (1048576 : Nat)) && v18.all fun (y : Line) => decide (y.fst.length ≤ (1048576 : Nat))) (Tr.ret (U.eqLs v18 v5))
                                                              Tr.fail)
                                                            Tr.fail)
                                                          (Tr.ret false))
                                                        Tr.fail)
                                                      Tr.fail)
                                                    (Tr.ret false)))))
                                            (Tr.ite (!decide (v13 = (0 : Int))) (Tr.ret false)
                                              (Tr.ite (inB (IntKind.i64.wrap v7) v2.length)
                                                (Tr.ite (decide (v10.length ≤ (1048576 : Nat)))
                                                  (Tr.ite (!U.eqL (v10, (U.rawAt (a1, v2, ()) c).snd.fst, ()) (rget link v2 (IntKind.i64.wrap v7))) (Tr.ret false)
                                                    (Tr.ite (decide (c < (0 : Int)))
                                                      (Tr.ite (decide (v17 = (1 : Int)))
                                                        (Tr.ite (okls v16) (Tr.ite (decide (v12 = (0 : Int)) && U.eqLs v16 []) (Tr.ret (decide (v19 = (0 : Int)))) (Tr.ret false)) Tr.fail)
                                                        (Tr.ret false))
                                                      (Tr.ite (decide (v17 = (0 : Int)))
                                                        (Tr.ite (decide ((0 : Int) ≤ IntKind.i64.wrap v4 ∧ IntKind.i64.wrap v4 ≤ v3))
                                                          (Tr.ite (okls v16)
                                                            (Tr.ite (decide (v12 = a1) && U.eqLs v16 v8)
                                                              (Tr.ite (decide ((0 : Int) ≤ IntKind.i64.wrap v4 ∧ IntKind.i64.wrap v4 ≤ v3))
                                                                (Tr.ite (decide (v18.length ≤ (1048576 : Nat)) && v18.all fun (y : Line) => decide (y.fst.length ≤ (1048576 : Nat)))
                                                                  (Tr.ret (U.eqLs v18 v5)) Tr.fail)
                                                                Tr.fail)
                                                              (Tr.ret false))
                                                            Tr.fail)
                                                          Tr.fail)
                                                        (Tr.ret false))))
                                                  Tr.fail)
                                                Tr.fail)))))
                                      Tr.fail))
                                  Tr.fail)
                                (Tr.ite (!decide (v14 = (0 : Int))) (Tr.ret false)
                                  (Tr.ite (okls v15)
                                    (Tr.ite (!(decide (v9 = a1) && U.eqLs v15 (v2 ++ v1))) (Tr.ret false)
                                      (Tr.ite (decide (c < (0 : Int)))
                                        (Tr.ite (!decide (v13 = (5 : Int))) (Tr.ret false)
                                          (Tr.ite (!decide (v11 = (0 : Int))) (Tr.ret false)
                                            (Tr.ite (decide (c < (0 : Int)))
                                              (Tr.ite (decide (v17 = (1 : Int)))
                                                (Tr.ite (okls v16) (Tr.ite (decide (v12 = (0 : Int)) && U.eqLs v16 []) (Tr.ret (decide (v19 = (0 : Int)))) (Tr.ret false)) Tr.fail) (Tr.ret false))
                                              (Tr.ite (decide (v17 = (0 : Int)))
                                                (Tr.ite (decide ((0 : Int) ≤ IntKind.i64.wrap v4 ∧ IntKind.i64.wrap v4 ≤ v3))
                                                  (Tr.ite (okls v16)
                                                    (Tr.ite (decide (v12 = a1) && U.eqLs v16 v8)
                                                      (Tr.ite (decide ((0 : Int) ≤ IntKind.i64.wrap v4 ∧ IntKind.i64.wrap v4 ≤ v3))
                                                        (Tr.ite (decide (v18.length ≤ (1048576 : Nat)) && v18.all fun (y : Line) => decide (y.fst.length ≤ (1048576 : Nat))) (Tr.ret (U.eqLs v18 v5))
                                                          Tr.fail)
                                                        Tr.fail)
                                                      (Tr.ret false))
                                                    Tr.fail)
                                                  Tr.fail)
                                                (Tr.ret false)))))
                                        (Tr.ite (decide (v3 ≤ c))
                                          (Tr.ite (!decide (v13 = (5 : Int))) (Tr.ret false)
                                            (Tr.ite (!decide (v11 = (0 : Int))) (Tr.ret false)
                                              (Tr.ite (decide (c < (0 : Int)))
                                                (Tr.ite (decide (v17 = (1 : Int)))
                                                  (Tr.ite (okls v16) (Tr.ite (decide (v12 = (0 : Int)) && U.eqLs v16 []) (Tr.ret (decide (v19 = (0 : Int)))) (Tr.ret false)) Tr.fail) (Tr.ret false))
                                                (Tr.ite (decide (v17 = (0 : Int)))
                                                  (Tr.ite (decide ((0 : Int) ≤ IntKind.i64.wrap v4 ∧ IntKind.i64.wrap v4 ≤ v3))
                                                    (Tr.ite (okls v16)
                                                      (Tr.ite (decide (v12 = a1) && U.eqLs v16 v8)
                                                        (Tr.ite (decide ((0 : Int) ≤ IntKind.i64.wrap v4 ∧ IntKind.i64.wrap v4 ≤ v3))
                                                          (Tr.ite (decide (v18.length ≤ (1048576 : Nat)) && v18.all fun (y : Line) => decide (y.fst.length ≤ (1048576 : Nat))) (Tr.ret (U.eqLs v18 v5))
                                                            Tr.fail)
                                                          Tr.fail)
                                                        (Tr.ret false))
                                                      Tr.fail)
                                                    Tr.fail)
                                                  (Tr.ret false)))))
                                          (Tr.ite (!decide (v13 = (0 : Int))) (Tr.ret false)
                                            (Tr.ite (inB (IntKind.i64.wrap v7) v2.length)
                                              (Tr.ite (decide (v10.length ≤ (1048576 : Nat)))
                                                (Tr.ite (!U.eqL (v10, (U.rawAt (a1, v2, ()) c).snd.fst, ()) (rget link v2 (IntKind.i64.wrap v7))) (Tr.ret false)
                                                  (Tr.ite (decide (c < (0 : Int)))
                                                    (Tr.ite (decide (v17 = (1 : Int)))
                                                      (Tr.ite (okls v16) (Tr.ite (decide (v12 = (0 : Int)) && U.eqLs v16 []) (Tr.ret (decide (v19 = (0 : Int)))) (Tr.ret false)) Tr.fail) (Tr.ret false))
                                                    (Tr.ite (decide (v17 = (0 : Int)))
                                                      (Tr.ite (decide ((0 : Int) ≤ IntKind.i64.wrap v4 ∧ IntKind.i64.wrap v4 ≤ v3))
                                                        (Tr.ite (okls v16)
                                                          (Tr.ite (decide (v12 = a1) && U.eqLs v16 v8)
                                                            (Tr.ite (decide ((0 : Int) ≤ IntKind.i64.wrap v4 ∧ IntKind.i64.wrap v4 ≤ v3))
                                                              (Tr.ite (decide (v18.length ≤ (1048576 : Nat)) && v18.all fun (y : Line) => decide (y.fst.length ≤ (1048576 : Nat)))
                                                                (Tr.ret (U.eqLs v18 v5)) Tr.fail)
                                                              Tr.fail)
                                                            (Tr.ret false))
                                                          Tr.fail)
                                                        Tr.fail)
                                                      (Tr.ret false))))
                                                Tr.fail)
                                              Tr.fail)))))
                                    Tr.fail)))
                              Tr.fail)
                            Tr.fail))
                        Tr.fail))
                    Tr.fail)))
              Tr.fail)
            Tr.fail)
          Tr.fail)
        Tr.fail)
      Tr.fail)
    Tr.fail
def e3 (r : Bool) : FRes := { rs := Slot.av (AV.one (Leaf.dat Kd.bool r)), upd := [], new := [] }
@[reducible] def a3 : List AK := [AK.d bakk, AK.d link.sl, AK.d (.int .i64)]
@[reducible] def b3 : List BK := []
theorem t3 (a1 : Int) (a2 : List Line) (b : List Line) (c : Int) : evFn (E0.withFns G3L) Tryd.f3 [PM.data Kd.bool] (akAV a3 ((a1, a2, ()), b, c, ())) (bkBs b3 ()) = (d3 a1 a2 b c).map e3 := by kernel_rfl
def s3 (C : akT a3 → Bool) (G : akT a3 → Bool) : FSpec := aspec a3 b3 e3 (fun x _ => C x) (fun x _ => G x)
theorem k3 {C : akT a3 → Bool} {G : akT a3 → Bool} (hd : ∀ (a1 : Int) (a2 : List Line) (b : List Line) (c : Int), C ((a1, a2, ()), b, c, ()) = true → (d3 a1 a2 b c).val = some (G ((a1, a2, ()), b, c, ()))) (IO : ItOK Tryd.prog (E0.withFns G3L) := by exact itOK_none rfl) (L : ∀ c, Tryd.f3.body = some c → LsOK (evI 2) ((E0.withFns G3L).lend 0) c := by exact fun c _ => LsOK_none rfl c) : SpecOK Tryd.prog E0 3 (s3 C G) :=
  aspec_ok (ak := a3) (bl := b3) (e := e3) (c := fun x _ => C x) (g := fun x _ => G x) (E0 := E0) (E := E0.withFns G3L) tab AG3L rfl rfl hm Tryd.func3 (by kernel_rfl) [PM.data Kd.bool] (fun X Y H => by obtain ⟨⟨a1, ⟨a2, _⟩⟩, ⟨b, ⟨c, _⟩⟩⟩ := X; exact val_of (t3 a1 a2 b c) (hd a1 a2 b c H)) IO L
def d4 (a1 : Int) (a2 : List Line) (b : List Line) (c : Int) : Tr (Bool) :=
  let v1 : List U.Ln := (U.few b (50 : Nat))
  let v2 : Int := ((↑v1.length : Int))
  let v3 : List U.Ln := (U.few a2 (42 : Nat))
  let v4 : Int := (v2 + (1 : Int))
  let v5 : Int := (c.tmod (IntKind.i64.wrap v4) + v2)
  let v6 : Int := (IntKind.i64.wrap v5 + (1 : Int))
  let v7 : Int := ((IntKind.i64.wrap v6).tmod (IntKind.i64.wrap v4))
  let v8 : List Line := (sub v1 v7.toNat v1.length)
  let v9 : List Line := (sub v1 (0 : Nat) v7.toNat)
  let v10 : Int := ((U.rawPush (a1, v3, ()) v1).fst)
  let v11 : Int := ((U.rawPush (a1, v3, ()) v9).fst)
  let v12 : List Line := ((U.rawPush (a1, v3, ()) v1).snd.fst)
  let v13 : Int := ((↑v12.length : Int))
  let v14 : Int := ((U.rawPush (a1, v3, ()) v1).snd.snd)
  let v15 : List Line := ((U.rawPush (a1, v3, ()) v9).snd.fst)
  let v16 : Int := ((U.rawPush (v11, v15, ()) v8).fst)
  let v17 : Int := ((U.rawPush (v11, v15, ()) v8).snd.snd)
  let v18 : Int := ((U.rawPush (a1, v3, ()) v9).snd.snd)
  let v19 : List Line := ((U.rawTake (v10, v12, ()) v2).snd.fst)
  let v20 : Int := ((↑v19.length : Int))
  let v21 : List Line := ((U.rawTake (v10, v12, ()) v2).snd.snd.fst)
  let v22 : Int := ((↑v21.length : Int))
  let v23 : Int := (v2 - v22)
  let v24 : Int := (v13 - v22)
  let v25 : Int := ((U.rawTake (v10, v12, ()) v2).snd.snd.snd)
  Tr.ite true
    (Tr.ite (!decide (IntKind.i64.wrap v4 = (0 : Int)))
      (Tr.ite (!decide (IntKind.i64.wrap v4 = (0 : Int)))
        (Tr.ite (U.okl v3 && U.okl v1 && decide (v3.length + v1.length ≤ (1048576 : Nat)))
          (Tr.ite (!decide (v14 = (0 : Int))) (Tr.ite true (Tr.ite (okls v12) (Tr.ret (decide (v10 = (0 : Int)) && U.eqLs v12 [])) Tr.fail) (Tr.ret false))
            (Tr.ite (decide ((0 : Int) ≤ v7 ∧ v7 ≤ v2))
              (Tr.ite (U.okl v3 && U.okl v9 && decide (v3.length + v9.length ≤ (1048576 : Nat)))
                (Tr.ite (decide ((0 : Int) ≤ v7 ∧ v7 ≤ v2))
                  (Tr.ite (U.okl v15 && U.okl v8 && decide (v15.length + v8.length ≤ (1048576 : Nat)))
                    (Tr.ite (U.okl v12)
                      (Tr.ite (!decide (v18 = (0 : Int))) (Tr.ret false)
                        (Tr.ite (!decide (v17 = (0 : Int))) (Tr.ret false)
                          (Tr.ite (!decide (v25 = (0 : Int))) (Tr.ret false)
                            (Tr.ite (okls v12)
                              (Tr.ite (!(decide (v10 = v16) && U.eqLs v12 (U.rawPush (v11, v15, ()) v8).snd.fst)) (Tr.ret false)
                                (Tr.ite (decide (a1 < v13)) (Tr.ret false)
                                  (Tr.ite (!decide (v22 = minI v2 a1)) (Tr.ret false)
                                    (Tr.ite (U.okl v19)
                                      (Tr.ite (!keepB ((U.rawTake (v10, v12, ()) v2).fst, v19, ())) (Tr.ret false)
                                        (Tr.ite false (Tr.ret false)
                                          (Tr.ite (decide ((0 : Int) ≤ IntKind.i64.wrap v23 ∧ IntKind.i64.wrap v23 ≤ v2))
                                            (Tr.ite (decide (v21.length ≤ (1048576 : Nat)) && v21.all fun (y : Line) => decide (y.fst.length ≤ (1048576 : Nat)))
                                              (Tr.ite (U.eqLs v21 (sub v1 (IntKind.i64.wrap v23).toNat v1.length)) (Tr.ret (decide (v20 = IntKind.i64.wrap v24))) (Tr.ret false)) Tr.fail)
                                            Tr.fail)))
                                      Tr.fail))))
                              Tr.fail))))
                      Tr.fail)
                    Tr.fail)
                  Tr.fail)
                Tr.fail)
              Tr.fail))
          Tr.fail)
        Tr.fail)
      Tr.fail)
    Tr.fail
def e4 (r : Bool) : FRes := { rs := Slot.av (AV.one (Leaf.dat Kd.bool r)), upd := [], new := [] }
@[reducible] def a4 : List AK := [AK.d bakk, AK.d link.sl, AK.d (.int .i64)]
@[reducible] def b4 : List BK := []
theorem t4 (a1 : Int) (a2 : List Line) (b : List Line) (c : Int) : evFn (E0.withFns G3L) Tryd.f4 [PM.data Kd.bool] (akAV a4 ((a1, a2, ()), b, c, ())) (bkBs b4 ()) = (d4 a1 a2 b c).map e4 := by kernel_rfl
def s4 (C : akT a4 → Bool) (G : akT a4 → Bool) : FSpec := aspec a4 b4 e4 (fun x _ => C x) (fun x _ => G x)
theorem k4 {C : akT a4 → Bool} {G : akT a4 → Bool} (hd : ∀ (a1 : Int) (a2 : List Line) (b : List Line) (c : Int), C ((a1, a2, ()), b, c, ()) = true → (d4 a1 a2 b c).val = some (G ((a1, a2, ()), b, c, ()))) (IO : ItOK Tryd.prog (E0.withFns G3L) := by exact itOK_none rfl) (L : ∀ c, Tryd.f4.body = some c → LsOK (evI 2) ((E0.withFns G3L).lend 0) c := by exact fun c _ => LsOK_none rfl c) : SpecOK Tryd.prog E0 4 (s4 C G) :=
  aspec_ok (ak := a4) (bl := b4) (e := e4) (c := fun x _ => C x) (g := fun x _ => G x) (E0 := E0) (E := E0.withFns G3L) tab AG3L rfl rfl hm Tryd.func4 (by kernel_rfl) [PM.data Kd.bool] (fun X Y H => by obtain ⟨⟨a1, ⟨a2, _⟩⟩, ⟨b, ⟨c, _⟩⟩⟩ := X; exact val_of (t4 a1 a2 b c) (hd a1 a2 b c H)) IO L
end Go.Proofs.YtmnbcnhpklejcaaDoor
namespace U
open Go.Proofs.YtmnbcnhpklejcaaDoor
theorem cutC_size (c : Cl) : (cutC c).1.size ≤ 20 := by
  show (c.1.extract 0 (min c.1.size 20)).size ≤ 20
  rw [← bl_len, bl_ext, List.length_drop, List.length_take, bl_len]
  omega
theorem cutL_ok (l : List Cl) : okc (cutL l) = true := by
  unfold okc cutL
  rw [Bool.and_eq_true, decide_eq_true_eq, List.all_eq_true]
  refine ⟨by rw [List.length_map, List.length_take]; omega, fun x hx => ?_⟩
  obtain ⟨y, _, rfl⟩ := List.mem_map.1 hx
  exact decide_eq_true (by have := cutC_size y; omega)
theorem few_len (l : List Ln) (n : Nat) : (few l n).length ≤ n := by unfold few; rw [List.length_map, List.length_take]; omega
theorem few_ok (l : List Ln) {n : Nat} (hn : n ≤ 1000) : okl (few l n) = true := by
  have := few_len l n
  unfold okl
  rw [Bool.and_eq_true, decide_eq_true_eq, List.all_eq_true]
  refine ⟨by omega, fun x hx => ?_⟩
  unfold few at hx
  obtain ⟨y, _, rfl⟩ := List.mem_map.1 hx
  exact cutL_ok _
end U
namespace Go.Proofs.YtmnbcnhpklejcaaDoor
end Go.Proofs.YtmnbcnhpklejcaaDoor

end
section
set_option linter.unusedVariables false
set_option linter.unusedSimpArgs false
set_option maxRecDepth 20000
open Go Go.Ev
namespace Go.Proofs.YtmnbcnhpklejcaaDoor
open Go.RowKit
def d93 (a : Int) (b : Int) (c : Int) : Tr (Bool) :=
  Tr.ite (decide (b ≤ a)) (Tr.ret (decide (a ≤ c))) (Tr.ret false)
def e93 (r : Bool) : FRes := { rs := Slot.av (AV.one (Leaf.dat Kd.bool r)), upd := [], new := [] }
@[reducible] def a93 : List AK := [AK.d (.int .i64), AK.d (.int .i64), AK.d (.int .i64)]
@[reducible] def b93 : List BK := []
theorem t93 (a : Int) (b : Int) (c : Int) : evFn (E0) Tryd.f93 [PM.data Kd.bool] (akAV a93 (a, b, c, ())) (bkBs b93 ()) = (d93 a b c).map e93 := by kernel_rfl
def s93' (G : akT a93 → Bool) : FSpec := aspec0 a93 b93 e93 (fun x _ => G x)
theorem k93' {G : akT a93 → Bool} (hd : ∀ (a : Int) (b : Int) (c : Int), (d93 a b c).val = some (G (a, b, c, ()))) (IO : ItOK Tryd.prog (E0) := by exact itOK_none rfl) (L : ∀ c, Tryd.f93.body = some c → LsOK (evI 2) ((E0).lend 0) c := by exact fun c _ => LsOK_none rfl c) : SpecOK Tryd.prog E0 93 (s93' G) :=
  aspec0_ok (ak := a93) (bl := b93) (e := e93) (g := fun x _ => G x) (E0 := E0) (E := E0) tab .nil rfl rfl hm Tryd.func93 (by kernel_rfl) [PM.data Kd.bool] (fun X Y => by obtain ⟨a, ⟨b, ⟨c, _⟩⟩⟩ := X; exact val_of (t93 a b c) (hd a b c)) IO L
abbrev w93 : FSpec := s93' fun x => U.inn x.1 x.2.1 x.2.2.1
theorem wk93 : SpecOK Tryd.prog E0 93 w93 := by
  refine k93' fun a b c => ?_
  show _ = some (U.inn a b c)
  unfold U.inn
  by_cases h : b ≤ a <;> simp [d93, Tr.val, h]
def d88 (a1 : Int) (a2 : Int) (a3 : Int) : Tr (ByteArray × Int × Int × Int × Int) :=
  Tr.ret (ByteArray.empty, (1 : Int), (0 : Int), a2, (0 : Int))
def e88 (r : ByteArray × Int × Int × Int × Int) : FRes := { rs := Slot.av (AV.agg [Leaf.dat Kd.str r.fst, Leaf.dat (.int .i64) r.snd.fst, Leaf.dat (.int .i64) r.snd.snd.fst, Leaf.dat (.int .i64) r.snd.snd.snd.fst, Leaf.dat (.int .i64) r.snd.snd.snd.snd]), upd := [], new := [] }
@[reducible] def a88 : List AK := [AK.d attk]
@[reducible] def b88 : List BK := []
theorem t88 (a1 : Int) (a2 : Int) (a3 : Int) : evFn (E0) Tryd.f88 [PM.data celk] (akAV a88 ((a1, a2, a3, ()), ())) (bkBs b88 ()) = (d88 a1 a2 a3).map e88 := by kernel_rfl
def s88' (G : akT a88 → ByteArray × Int × Int × Int × Int) : FSpec := aspec0 a88 b88 e88 (fun x _ => G x)
theorem k88' {G : akT a88 → ByteArray × Int × Int × Int × Int} (hd : ∀ (a1 : Int) (a2 : Int) (a3 : Int), (d88 a1 a2 a3).val = some (G ((a1, a2, a3, ()), ()))) (IO : ItOK Tryd.prog (E0) := by exact itOK_none rfl) (L : ∀ c, Tryd.f88.body = some c → LsOK (evI 2) ((E0).lend 0) c := by exact fun c _ => LsOK_none rfl c) : SpecOK Tryd.prog E0 88 (s88' G) :=
  aspec0_ok (ak := a88) (bl := b88) (e := e88) (g := fun x _ => G x) (E0 := E0) (E := E0) tab .nil rfl rfl hm Tryd.func88 (by kernel_rfl) [PM.data celk] (fun X Y => by obtain ⟨⟨a1, ⟨a2, ⟨a3, _⟩⟩⟩, _⟩ := X; exact val_of (t88 a1 a2 a3) (hd a1 a2 a3)) IO L
abbrev w88 : FSpec := s88' fun x => (ByteArray.empty, (1 : Int), (0 : Int), x.1.2.1, (0 : Int))
theorem wk88 : SpecOK Tryd.prog E0 88 w88 := k88' fun a b c => rfl
def live86 (key : Nat) : Lv :=
  bif Nat.beq key 7777 then { ls := [], wd := [⟨2, none, .row 48 celk⟩] } else
  { ls := [] }
def live97 (key : Nat) : Lv :=
  bif Nat.beq key 7777 then { ls := [], wd := [⟨2, none, .row 34 link⟩] } else
  { ls := [] }
abbrev w86 : FSpec := bspec [.d (.sl celk)] [] fun x _ => { c := some (decide (List.length (α := Cell) x.1 ≤ 1048576)), rs := .av (.one (.row 0)), new := [.row 48 celk x.1] }
theorem wk86 : SpecOK Tryd.prog E0 86 w86 := by
  refine nspec_ok (k := celk) (E0 := E0) (E := E0.loops live86 fun _ _ => none) (g := fun (xs : List Cell) => { c := some (decide (List.length xs ≤ 1048576)), rs := .av (.one (.row 0)), new := [.row 48 celk xs] }) tab .nil rfl rfl hm Tryd.func86 (by kernel_rfl) [.raw] fun b xs hb hc => ?_
  have hl : xs.length ≤ 1048576 := by
    cases h : decide (xs.length ≤ 1048576) with
    | true => exact of_decide_eq_true h
    | false => exact absurd (by show some (decide (xs.length ≤ 1048576)) = some false; rw [h]) hc
  cases b with
  | true =>
    cases hb rfl
    show (evFn (E0.loops live86 fun _ _ => none) Tryd.f86 [.raw] [.one (.nn true celk [])] []).val = some ⟨.av (.one (.row 0)), [], [.row 48 celk []]⟩
    kernel_rfl
  | false =>
    have e : evFn (E0.loops live86 fun _ _ => none) Tryd.f86 [.raw] [.one (.nn false celk xs)] [] = .ite (decide ((0 + xs.length) * 48 ≤ capLimit)) (.ret ⟨.av (.one (.row 0)), [], [.row 48 celk xs]⟩) .fail := by kernel_rfl
    have h2 : (0 + xs.length) * 48 ≤ capLimit := by unfold capLimit; omega
    rw [e, decide_eq_true h2]
    rfl
abbrev w97 : FSpec := bspec [.d (.sl link)] [] fun x _ => { c := some (decide (List.length (α := Line) x.1 ≤ 1048576)), rs := .av (.one (.row 0)), new := [.row 34 link x.1] }
theorem wk97 : SpecOK Tryd.prog E0 97 w97 := by
  refine nspec_ok (k := link) (E0 := E0) (E := E0.loops live97 fun _ _ => none) (g := fun (xs : List Line) => { c := some (decide (List.length xs ≤ 1048576)), rs := .av (.one (.row 0)), new := [.row 34 link xs] }) tab .nil rfl rfl hm Tryd.func97 (by kernel_rfl) [.raw] fun b xs hb hc => ?_
  have hl : xs.length ≤ 1048576 := by
    cases h : decide (xs.length ≤ 1048576) with
    | true => exact of_decide_eq_true h
    | false => exact absurd (by show some (decide (xs.length ≤ 1048576)) = some false; rw [h]) hc
  cases b with
  | true =>
    cases hb rfl
    show (evFn (E0.loops live97 fun _ _ => none) Tryd.f97 [.raw] [.one (.nn true link [])] []).val = some ⟨.av (.one (.row 0)), [], [.row 34 link []]⟩
    kernel_rfl
  | false =>
    have e : evFn (E0.loops live97 fun _ _ => none) Tryd.f97 [.raw] [.one (.nn false link xs)] [] = .ite (decide ((0 + xs.length) * 32 ≤ capLimit)) (.ret ⟨.av (.one (.row 0)), [], [.row 34 link xs]⟩) .fail := by kernel_rfl
    have h2 : (0 + xs.length) * 32 ≤ capLimit := by unfold capLimit; omega
    rw [e, decide_eq_true h2]
    rfl
namespace R
def d87 (b : Int) (h0 : List Cell) : Tr (Bool × List Cell) :=
  let v1 : Int := ((↑h0.length : Int))
  let v2 : Int := (b + (1 : Int))
  let v3 : Int := (b - (1 : Int))
  Tr.ite (inB b h0.length)
    (Tr.ite (decide ((h0.getD b.toNat celk.dflt).snd.fst = (2 : Int)))
      (Tr.ite (decide (IntKind.i64.wrap v2 < v1)) (Tr.ite (inB (IntKind.i64.wrap v2) h0.length) (Tr.ret (decide ((h0.getD (IntKind.i64.wrap v2).toNat celk.dflt).snd.fst = (0 : Int)), h0)) Tr.fail)
        (Tr.ret (false, h0)))
      (Tr.ite (decide ((h0.getD b.toNat celk.dflt).snd.fst = (0 : Int)))
        (Tr.ite (decide ((0 : Int) < b)) (Tr.ite (inB (IntKind.i64.wrap v3) h0.length) (Tr.ret (decide ((h0.getD (IntKind.i64.wrap v3).toNat celk.dflt).snd.fst = (2 : Int)), h0)) Tr.fail)
          (Tr.ret (false, h0)))
        (Tr.ret (true, h0))))
    Tr.fail
def e87 (r : Bool × List Cell) : FRes := { rs := Slot.av (AV.one (Leaf.dat Kd.bool r.fst)), upd := [Blk.row ( 48) celk r.snd], new := [] }
@[reducible] def a87 : List AK := [AK.c (Leaf.row (0 : Nat)), AK.d (.int .i64)]
@[reducible] def b87 : List BK := [BK.row (48 : TypeId) celk]
theorem t87 (b : Int) (h0 : List Cell) : evFn (E0) Tryd.f87 [PM.data Kd.bool] (akAV a87 (b, ())) (bkBs b87 (h0, ())) = (d87 b h0).map e87 := by kernel_rfl
def s87 (C : akT a87 → bksT b87 → Bool) (G : akT a87 → bksT b87 → Bool × List Cell) : FSpec := aspec a87 b87 e87 (C) (G)
theorem k87 {C : akT a87 → bksT b87 → Bool} {G : akT a87 → bksT b87 → Bool × List Cell} (hd : ∀ (b : Int) (h0 : List Cell), C (b, ()) (h0, ()) = true → (d87 b h0).val = some (G (b, ()) (h0, ()))) (IO : ItOK Tryd.prog (E0) := by exact itOK_none rfl) (L : ∀ c, Tryd.f87.body = some c → LsOK (evI 2) ((E0).lend 1) c := by exact fun c _ => LsOK_none rfl c) : SpecOK Tryd.prog E0 87 (s87 C G) :=
  aspec_ok (ak := a87) (bl := b87) (e := e87) (c := C) (g := G) (E0 := E0) (E := E0) tab .nil rfl rfl hm Tryd.func87 (by kernel_rfl) [PM.data Kd.bool] (fun X Y H => by obtain ⟨b, _⟩ := X; obtain ⟨h0, _⟩ := Y; exact val_of (t87 b h0) (hd b h0 H)) IO L
theorem cwd (l : List Cell) (i : Nat) : (l.getD i celk.dflt).2.1 = U.cw l i := rfl
abbrev w87 : FSpec := s87 (fun x y => decide (0 ≤ (x.1 : Int) ∧ (x.1 : Int) < (List.length (α := Cell) y.1 : Int) ∧ List.length (α := Cell) y.1 ≤ 1048576)) fun x y => (U.whole y.1 x.1.toNat, y.1)
theorem wk87 : SpecOK Tryd.prog E0 87 w87 := by
  refine k87 fun i l H => ?_
  obtain ⟨h0, h1, h2⟩ := of_decide_eq_true H
  dsimp only at h0 h1 h2
  obtain ⟨n, rfl⟩ := Int.eq_ofNat_of_zero_le h0
  show _ = some (U.whole l n, l)
  have hn : n < l.length := Int.ofNat_lt.1 h1
  have w1 : IntKind.i64.wrap ((n : Int) + 1) = ((n + 1 : Nat) : Int) := wrap64_nat (by omega)
  unfold U.whole d87
  simp only [Tr.val, inB_nat hn, cond_true, w1, Int.toNat_natCast, cwd]
  by_cases a : U.cw l n = 2
  · by_cases b : n + 1 < l.length
    · simp [a, b, inB_nat b, show ((n : Int) + 1 < (l.length : Int)) by omega, show inB ((n : Int) + 1) l.length = true from by simpa using inB_nat b, ← cwd]
    · simp [a, b, show ¬ ((n : Int) + 1 < (l.length : Int)) by omega]
  · by_cases b : U.cw l n = 0
    · by_cases c : 0 < n
      · have w2 : IntKind.i64.wrap ((n : Int) - 1) = ((n - 1 : Nat) : Int) := by
          rw [wrap64_id (by omega) (by omega)]
          omega
        simp [a, b, c, w2, inB_nat (show n - 1 < l.length by omega), ← cwd]
      · have : n = 0 := by omega
        subst this
        simp [a, b]
    · simp [a, b]
end R
abbrev G30 : List (Nat × FSpec) := [(86, w86), (87, R.w87), (88, w88)]
theorem AG30 : AllFn Tryd.prog E0 G30 := .cons wk86 (.cons R.wk87 (.cons wk88 .nil))
def live30 (key : Nat) : Lv :=
  bif Nat.beq key 3 then { ls := [1, 2, 10, 11, 12] } else bif Nat.beq key 1003 then { ls := [1, 2] } else
  { ls := [] }
abbrev M30 (ls : Nat → VS → Option (Tr (Ex × VS))) : Env := (E0.withFns G30).loops live30 ls
@[reducible] def p30_0 : LP := { n := 31, sl := [.c (Leaf.ptr ( 0) ( 0)), .c (Leaf.ptr ( 1) ( 0)), .c (Leaf.row ( 2)), .d (.int .i64), .d (.int .i64)], bl := [(0, .box [.c (Leaf.row ( 2)), .d (Kd.bool)]), (1, .box [.c (Leaf.nils), .d (Kd.bool)]), (2, .row 48 (celk))] }
def B30_0 (x3 : Int) (x4 : Int) (h0_1 : Bool) (h1_1 : Bool) (h2 : List Cell) : Tr (p30_0.T ⊕ (Bool × Bool × List Cell)) :=
  let v1 : Int := ((↑h2.length : Int))
  let v2 : Int := (x4 + (1 : Int))
  Tr.ite (decide (x4 < x3))
    (Tr.ite (inB x4 h2.length)
      (Tr.ite (decide ((0 : Int) ≤ x4 ∧ x4 < v1 ∧ h2.length ≤ (1048576 : Nat)))
        (Tr.ite (!U.whole h2 x4.toNat)
          (Tr.ite (inB x4 h2.length)
            (Tr.ret
              (Sum.inl
                ((x3, IntKind.i64.wrap v2, ()), (h0_1, ()), (h1_1, ()), h2.set x4.toNat (ByteArray.empty, (1 : Int), ((0 : Int), (h2.getD x4.toNat celk.dflt).snd.snd.fst.snd.fst, (0 : Int), ()), ()),
                  ())))
            Tr.fail)
          (Tr.ret (Sum.inl ((x3, IntKind.i64.wrap v2, ()), (h0_1, ()), (h1_1, ()), h2, ()))))
        Tr.fail)
      Tr.fail)
    (Tr.ret (Sum.inr (h0_1, h1_1, h2)))
def X30_0 (r : (Bool × Bool × List Cell)) : Ex × VS := Prod.mk (Ex.exit ( 0)) { n := 31, v := [Slot.av (AV.one (Leaf.ptr ( 0) ( 0))), Slot.av (AV.one (Leaf.ptr ( 1) ( 0)))], h := [( 0, Blk.box [Leaf.row ( 2), Leaf.dat Kd.bool r.fst]), ( 1, Blk.box [Leaf.nils, Leaf.dat Kd.bool r.snd.fst]), ( 2, Blk.row ( 48) celk r.snd.snd)] }
def b30_0 : p30_0.T → Tr (p30_0.T ⊕ (Bool × Bool × List Cell)) := fun ⟨⟨x3, ⟨x4, _⟩⟩, ⟨⟨h0_1, _⟩, ⟨⟨h1_1, _⟩, ⟨h2, _⟩⟩⟩⟩ => B30_0 x3 x4 h0_1 h1_1 h2
theorem h30_0 (ls : Nat → VS → Option (Tr (Ex × VS))) (x : p30_0.T) : (evC (evI 2) (lc Tryd.f30 0) (Env.lend (M30 ls) 0) (unV (live30 3) (p30_0.V x))).map (decL 0 (live30 3) (live30 1003)) = (b30_0 x).map (encR p30_0.V X30_0) := by
  obtain ⟨⟨x3, ⟨x4, _⟩⟩, ⟨⟨h0_1, _⟩, ⟨⟨h1_1, _⟩, ⟨h2, _⟩⟩⟩⟩ := x; kernel_rfl
theorem c30_0 (x : p30_0.T) : canV 0 (live30 3) (unV (live30 3) (p30_0.V x)) = p30_0.V x := by
  obtain ⟨⟨x3, ⟨x4, _⟩⟩, ⟨⟨h0_1, _⟩, ⟨⟨h1_1, _⟩, ⟨h2, _⟩⟩⟩⟩ := x; kernel_rfl
theorem l30_0 {T : p30_0.T → Tr (Bool × Bool × List Cell)} {ls : Nat → VS → Option (Tr (Ex × VS))} (hls : ∀ x, (Env.lend (M30 ls) 0).ls 3 x = p30_0.ls (fun a => (T a).map X30_0) x) (hS : ∀ x r, (T x).val = some r → Rounds b30_0 x r) : LoopOK (evI 2) (Env.lend (M30 ls) 0) (lc Tryd.f30 0) :=
  loopA 3 (live30 3) (live30 1003) p30_0 b30_0 X30_0 T (by kernel_rfl) rfl rfl hls (h30_0 ls) c30_0 hS
end Go.Proofs.YtmnbcnhpklejcaaDoor
namespace U
def blank (a : Int × Int × Int × Unit) : Cl := (ByteArray.empty, 1, (0, a.2.1, 0, ()), ())
def mendAt (i : Nat) (l : List Cl) : List Cl := if whole l i then l else l.set i (blank (l.getD i dC).2.2.1)
def mend (l : List Cl) : List Cl := (List.range' 0 l.length).foldl (fun l i => mendAt i l) l
theorem mendAt_len (i : Nat) (l : List Cl) : (mendAt i l).length = l.length := by unfold mendAt; split <;> simp
end U
namespace Go.Proofs.YtmnbcnhpklejcaaDoor
def T30 (x : p30_0.T) : Tr (Bool × Bool × List Cell) :=
  .ite (decide ((x.1.1 : Int) = (List.length (α := Cell) x.2.2.2.1 : Int) ∧ (x.1.2.1 : Int) = 0 ∧ List.length (α := Cell) x.2.2.2.1 ≤ 1048576))
    (.ret (x.2.1.1, x.2.2.1.1, U.mend x.2.2.2.1)) .fail
abbrev E30 : Env := M30 fun key x => bif Nat.beq key 3 then p30_0.ls (fun a => (T30 a).map X30_0) x else none
theorem L30 : LoopOK (evI 2) (E30.lend 0) (lc Tryd.f30 0) := by
  refine l30_0 (T := T30) (fun x => rfl) ?_
  rintro ⟨⟨n, i, z⟩, ⟨s, z0⟩, ⟨t, z1⟩, l, z2⟩ r h
  obtain ⟨g1, g2⟩ := pre_val h
  obtain ⟨e1, e2, e3⟩ := of_decide_eq_true g1
  dsimp only at e1 e2 e3 g2
  subst e1; subst e2
  cases g2
  refine Rounds.uptoA (B := b30_0) (σ := List Cell) (N := l.length) (fun i m => (((l.length : Int), (i : Int), ()), (s, ()), (t, ()), m, ())) U.mendAt (fun m => (s, t, m)) (fun _ m => m.length = l.length) (fun i m hi hv => ?_) (fun m hv => ?_) l.length 0 l (by omega) rfl
  · refine ⟨?_, by rw [U.mendAt_len]; exact hv⟩
    have hi' : i < m.length := by omega
    have h1 : (0 : Int) ≤ (i : Int) ∧ (i : Int) < (m.length : Int) ∧ m.length ≤ 1048576 := by omega
    unfold U.mendAt
    cases hw : U.whole m i with
    | true => simp only [b30_0, B30_0, Tr.val, hw, h1, inB_nat hi', Int.toNat_natCast, show ((i : Int) < (l.length : Int)) by omega, decide_true, cond_true, cond_false, Bool.not_true, wrap64_nat (show i ≤ 1048576 by omega), if_true, and_self]
    | false =>
      simp only [b30_0, B30_0, Tr.val, hw, h1, inB_nat hi', Int.toNat_natCast, show ((i : Int) < (l.length : Int)) by omega, decide_true, cond_true, cond_false, Bool.not_false, wrap64_nat (show i ≤ 1048576 by omega), Bool.false_eq_true, if_false, and_self]
      rfl
  · simp only [b30_0, B30_0, Tr.val, show ¬ ((l.length : Int) < (l.length : Int)) by omega, decide_false, cond_false]
def d30 (a1 : List Cell) (a2 : Bool) : Tr (List U.Cl × Bool) :=
  let v1 : Int := ((↑a1.length : Int))
  let v2 : Int := ((↑a1.length : Int))
  Tr.ite (decide (a1.length ≤ (1048576 : Nat))) (Tr.ite (decide (v2 = v1 ∧ (0 : Int) = (0 : Int) ∧ a1.length ≤ (1048576 : Nat))) (Tr.ret (U.mend a1, a2)) Tr.fail) Tr.fail
def e30 (r : List U.Cl × Bool) : FRes := { rs := Slot.av (AV.agg [Leaf.dat celk.sl r.fst, Leaf.dat Kd.bool r.snd]), upd := [], new := [] }
@[reducible] def a30 : List AK := [AK.d link]
@[reducible] def b30 : List BK := []
theorem t30 (a1 : List Cell) (a2 : Bool) : evFn (E30) Tryd.f30 [PM.data link] (akAV a30 ((a1, a2, ()), ())) (bkBs b30 ()) = (d30 a1 a2).map e30 := by kernel_rfl
def s30 (C : akT a30 → Bool) (G : akT a30 → List U.Cl × Bool) : FSpec := aspec a30 b30 e30 (fun x _ => C x) (fun x _ => G x)
theorem k30 {C : akT a30 → Bool} {G : akT a30 → List U.Cl × Bool} (hd : ∀ (a1 : List Cell) (a2 : Bool), C ((a1, a2, ()), ()) = true → (d30 a1 a2).val = some (G ((a1, a2, ()), ()))) (IO : ItOK Tryd.prog (E30) := by exact itOK_none rfl) (L : ∀ c, Tryd.f30.body = some c → LsOK (evI 2) ((E30).lend 0) c := by exact fun c _ => LsOK_none rfl c) : SpecOK Tryd.prog E0 30 (s30 C G) :=
  aspec_ok (ak := a30) (bl := b30) (e := e30) (c := fun x _ => C x) (g := fun x _ => G x) (E0 := E0) (E := E30) tab AG30 rfl rfl hm Tryd.func30 (by kernel_rfl) [PM.data link] (fun X Y H => by obtain ⟨⟨a1, ⟨a2, _⟩⟩, _⟩ := X; exact val_of (t30 a1 a2) (hd a1 a2 H)) IO L
abbrev w30 : FSpec := s30 (fun x => decide (List.length (α := Cell) x.1.1 ≤ 1048576)) fun x => (U.mend x.1.1, x.1.2.1)
theorem wk30 : SpecOK Tryd.prog E0 30 w30 := by
  refine k30 (fun l s H => ?_) (L := ls_ok (lcs := [lc Tryd.f30 0]) (rgs := []) (by kernel_rfl) (by kernel_rfl) L30 trivial)
  have hl : l.length ≤ 1048576 := of_decide_eq_true H
  show _ = some (U.mend l, s)
  simp only [d30, Tr.val, hl, decide_true, and_self, cond_true]
def live27 (key : Nat) : Lv :=
  bif Nat.beq key 3 then { ls := [2, 3, 15, 16, 17], wd := [⟨3, some 0, .row 48 celk⟩] } else bif Nat.beq key 1003 then { ls := [2, 3] } else
  { ls := [] }
abbrev M27 (ls : Nat → VS → Option (Tr (Ex × VS))) : Env := (E0.withFns []).loops live27 ls
@[reducible] def p27_0 : LP := { n := 37, sl := [.c (Leaf.ptr ( 0) ( 0)), .c (Leaf.ptr ( 1) ( 0)), .d (celk.sl), .d (.int .i64), .d (.int .i64)], bl := [(0, .box [.c (Leaf.nils), .d (Kd.bool)]), (1, .box [.c (Leaf.row ( 2)), .d (Kd.bool)]), (2, .row 48 (celk))] }
def B27_0 (x2 : List Cell) (x3 : Int) (x4 : Int) (h0_1 : Bool) (h1_1 : Bool) (h2 : List Cell) : Tr (p27_0.T ⊕ (Bool × Bool × List Cell)) :=
  let v1 : Int := ((↑(ByteArray.size (rget celk x2 x4).fst) : Int))
  let v2 : Int := (minI v1 (20 : Int))
  Tr.ite (decide (x4 < x3))
    (Tr.ite (inB x4 x2.length)
      (Tr.ite (decide ((0 : Int) ≤ v2 ∧ v2 ≤ v1))
        (Tr.ite (decide ((h2.length + (1 : Nat)) * (48 : Nat) ≤ (140737488355328 : Nat)))
          (Tr.ret (Sum.inl ((x2, x3, IntKind.i64.wrap (x4 + (1 : Int)), ()), (h0_1, ()), (h1_1, ()), h2 ++ [(ByteArray.extract (rget celk x2 x4).fst (0 : Nat) v2.toNat, (rget celk x2 x4).snd)], ())))
          Tr.fail)
        Tr.fail)
      Tr.fail)
    (Tr.ret (Sum.inr (h0_1, h1_1, h2)))
def X27_0 (r : (Bool × Bool × List Cell)) : Ex × VS := Prod.mk (Ex.exit ( 0)) { n := 37, v := [Slot.av (AV.one (Leaf.ptr ( 0) ( 0))), Slot.av (AV.one (Leaf.ptr ( 1) ( 0)))], h := [( 0, Blk.box [Leaf.nils, Leaf.dat Kd.bool r.fst]), ( 1, Blk.box [Leaf.row ( 2), Leaf.dat Kd.bool r.snd.fst]), ( 2, Blk.row ( 48) celk r.snd.snd)] }
def b27_0 : p27_0.T → Tr (p27_0.T ⊕ (Bool × Bool × List Cell)) := fun ⟨⟨x2, ⟨x3, ⟨x4, _⟩⟩⟩, ⟨⟨h0_1, _⟩, ⟨⟨h1_1, _⟩, ⟨h2, _⟩⟩⟩⟩ => B27_0 x2 x3 x4 h0_1 h1_1 h2
theorem h27_0 (ls : Nat → VS → Option (Tr (Ex × VS))) (x : p27_0.T) : (evC (evI 2) (lc Tryd.f27 0) (Env.lend (M27 ls) 0) (unV (live27 3) (p27_0.V x))).map (decL 0 (live27 3) (live27 1003)) = (b27_0 x).map (encR p27_0.V X27_0) := by
  obtain ⟨⟨x2, ⟨x3, ⟨x4, _⟩⟩⟩, ⟨⟨h0_1, _⟩, ⟨⟨h1_1, _⟩, ⟨h2, _⟩⟩⟩⟩ := x; kernel_rfl
theorem c27_0 (x : p27_0.T) : canV 0 (live27 3) (unV (live27 3) (p27_0.V x)) = p27_0.V x := by
  obtain ⟨⟨x2, ⟨x3, ⟨x4, _⟩⟩⟩, ⟨⟨h0_1, _⟩, ⟨⟨h1_1, _⟩, ⟨h2, _⟩⟩⟩⟩ := x; kernel_rfl
theorem l27_0 {T : p27_0.T → Tr (Bool × Bool × List Cell)} {ls : Nat → VS → Option (Tr (Ex × VS))} (hls : ∀ x, (Env.lend (M27 ls) 0).ls 3 x = p27_0.ls (fun a => (T a).map X27_0) x) (hS : ∀ x r, (T x).val = some r → Rounds b27_0 x r) : LoopOK (evI 2) (Env.lend (M27 ls) 0) (lc Tryd.f27 0) :=
  loopA 3 (live27 3) (live27 1003) p27_0 b27_0 X27_0 T (by kernel_rfl) rfl rfl hls (h27_0 ls) c27_0 hS
def T27 (x : p27_0.T) : Tr (Bool × Bool × List Cell) :=
  .ite (decide ((x.1.2.1 : Int) = (List.length (α := Cell) x.1.1 : Int) ∧ (x.1.2.2.1 : Int) = 0 ∧ List.length (α := Cell) x.2.2.2.1 + List.length (α := Cell) x.1.1 ≤ 1048576))
    (.ret (x.2.1.1, x.2.2.1.1, x.2.2.2.1 ++ List.map (α := Cell) (β := Cell) U.cutC x.1.1)) .fail
abbrev E27 : Env := M27 fun key x => bif Nat.beq key 3 then p27_0.ls (fun a => (T27 a).map X27_0) x else none
theorem L27 : LoopOK (evI 2) (E27.lend 0) (lc Tryd.f27 0) := by
  refine l27_0 (T := T27) (fun x => rfl) ?_
  rintro ⟨⟨l, n, i, z⟩, ⟨h0, z0⟩, ⟨h1, z1⟩, h2, z2⟩ r h
  obtain ⟨g1, g2⟩ := pre_val h
  obtain ⟨e1, e2, e3⟩ := of_decide_eq_true g1
  dsimp only at e1 e2 e3 g2
  subst e1; subst e2
  cases g2
  have := Rounds.fold0 (B := b27_0) (σ := List Cell) l (fun i s => ((l, (l.length : Int), (i : Int), ()), (h0, ()), (h1, ()), s, ())) (fun s c => s ++ [U.cutC c]) (fun s => (h0, h1, s)) (fun i s => s.length + (l.length - i) ≤ 1048576) h2 (by omega) (fun i s hi hv => ?_) (fun s hv => ?_)
  · have e : ∀ (l : List Cell) (a : List Cell), l.foldl (fun s c => s ++ [U.cutC c]) a = a ++ l.map U.cutC := by
      intro l
      induction l with
      | nil => intro a; simp
      | cons x l ih => intro a; rw [List.foldl_cons, ih]; simp
    rw [e] at this
    exact this
  · have e : rget celk l (i : Int) = l[i] := by rw [rgetC]; exact getD_el hi
    have e6 : minI (l[i].1.size : Int) 20 = ((min l[i].1.size 20 : Nat) : Int) := minI_nat _ 20
    have e7 : (0 : Int) ≤ ((min l[i].1.size 20 : Nat) : Int) ∧ ((min l[i].1.size 20 : Nat) : Int) ≤ (l[i].1.size : Int) := by omega
    have e8 : (s.length + 1) * 48 ≤ 140737488355328 := by omega
    refine ⟨?_, by simp only [List.length_append, List.length_singleton]; omega⟩
    simp only [b27_0, B27_0, Tr.val, e, e6, e7, e8, inB_nat hi, Int.toNat_natCast, List.length_singleton, show ((i : Int) < (l.length : Int)) by omega, and_self, decide_true, cond_true, wrap64_nat (show i ≤ 1048576 by omega)]
    rfl
  · simp only [b27_0, B27_0, Tr.val, show ¬ ((l.length : Int) < (l.length : Int)) by omega, decide_false, cond_false]
def d27 (a1 : List Cell) (a2 : Bool) : Tr (List Cell × Bool) :=
  let v1 : Int := ((↑a1.length : Int))
  let v2 : Int := (minI v1 (82 : Int))
  let v3 : List Cell := (sub a1 (0 : Nat) v2.toNat)
  let v4 : Int := ((↑v3.length : Int))
  let v5 : Int := ((↑v3.length : Int))
  Tr.ite (decide ((0 : Int) ≤ v2 ∧ v2 ≤ v1)) (Tr.ite (decide (v5 = v4 ∧ (0 : Int) = (0 : Int) ∧ (0 : Nat) + v3.length ≤ (1048576 : Nat))) (Tr.ret (List.map U.cutC v3, a2)) Tr.fail) Tr.fail
def e27 (r : List Cell × Bool) : FRes := { rs := Slot.av (AV.agg [Leaf.dat celk.sl r.fst, Leaf.dat Kd.bool r.snd]), upd := [], new := [] }
@[reducible] def a27 : List AK := [AK.d link]
@[reducible] def b27 : List BK := []
theorem t27 (a1 : List Cell) (a2 : Bool) : evFn (E27) Tryd.f27 [PM.data link] (akAV a27 ((a1, a2, ()), ())) (bkBs b27 ()) = (d27 a1 a2).map e27 := by kernel_rfl
def s27' (G : akT a27 → List Cell × Bool) : FSpec := aspec0 a27 b27 e27 (fun x _ => G x)
theorem k27' {G : akT a27 → List Cell × Bool} (hd : ∀ (a1 : List Cell) (a2 : Bool), (d27 a1 a2).val = some (G ((a1, a2, ()), ()))) (IO : ItOK Tryd.prog (E27) := by exact itOK_none rfl) (L : ∀ c, Tryd.f27.body = some c → LsOK (evI 2) ((E27).lend 0) c := by exact fun c _ => LsOK_none rfl c) : SpecOK Tryd.prog E0 27 (s27' G) :=
  aspec0_ok (ak := a27) (bl := b27) (e := e27) (g := fun x _ => G x) (E0 := E0) (E := E27) tab .nil rfl rfl hm Tryd.func27 (by kernel_rfl) [PM.data link] (fun X Y => by obtain ⟨⟨a1, ⟨a2, _⟩⟩, _⟩ := X; exact val_of (t27 a1 a2) (hd a1 a2)) IO L
abbrev w27 : FSpec := s27' fun x => (U.cutL x.1.1, x.1.2.1)
theorem wk27 : SpecOK Tryd.prog E0 27 w27 := by
  refine k27' (fun l s => ?_) (L := ls_ok (lcs := [lc Tryd.f27 0]) (rgs := []) (by kernel_rfl) (by kernel_rfl) L27 trivial)
  show _ = some (U.cutL l, s)
  have e6 : minI (l.length : Int) 82 = ((min l.length 82 : Nat) : Int) := minI_nat _ 82
  have e7 : (0 : Int) ≤ ((min l.length 82 : Nat) : Int) ∧ ((min l.length 82 : Nat) : Int) ≤ (l.length : Int) := by omega
  have e9 : sub l 0 (min l.length 82) = l.take 82 := by
    unfold sub
    rw [List.drop_zero]
    rcases Nat.le_total l.length 82 with h | h
    · rw [Nat.min_eq_left h, List.take_length, List.take_of_length_le h]
    · rw [Nat.min_eq_right h]
  have e10 : 0 + (l.take 82).length ≤ 1048576 := by rw [List.length_take]; omega
  simp only [d27, Tr.val, e6, e7, e9, e10, Int.toNat_natCast, List.length_nil, and_self, decide_true, cond_true, List.nil_append]
  rfl
def d179 (a : Int) (b : Int) : Tr (Int × Int) :=
  let v1 : Int := (b.fdiv (4294967296 : Int))
  let v2 : Int := (a.fdiv (4294967296 : Int))
  let v3 : Int := ((↑(BitVec.ofInt (64 : Nat) a &&& BitVec.ofInt (64 : Nat) (4294967295 : Int)).toNat : Int))
  let v4 : Int := ((↑(BitVec.ofInt (64 : Nat) b &&& BitVec.ofInt (64 : Nat) (4294967295 : Int)).toNat : Int))
  let v5 : Int := (v2 * IntKind.u64.wrap v4)
  let v6 : Int := (IntKind.u64.wrap v3 * IntKind.u64.wrap v4)
  let v7 : Int := ((IntKind.u64.wrap v6).fdiv (4294967296 : Int))
  let v8 : Int := (IntKind.u64.wrap v5 + v7)
  Tr.ite true
    (Tr.ite true
      (Tr.ite true
        (Tr.ite true
          (Tr.ite true
            (Tr.ret
              (IntKind.u64.wrap
                  (IntKind.u64.wrap (IntKind.u64.wrap (v2 * v1) + (IntKind.u64.wrap v8).fdiv (4294967296 : Int)) +
                    (IntKind.u64.wrap
                          (IntKind.u64.wrap (↑(BitVec.ofInt (64 : Nat) (IntKind.u64.wrap v8) &&& BitVec.ofInt (64 : Nat) (4294967295 : Int)).toNat : Int) +
                            IntKind.u64.wrap (IntKind.u64.wrap v3 * v1))).fdiv
                      (4294967296 : Int)),
                IntKind.u64.wrap (a * b)))
            Tr.fail)
          Tr.fail)
        Tr.fail)
      Tr.fail)
    Tr.fail
def e179 (r : Int × Int) : FRes := { rs := Slot.tup [AV.one (Leaf.dat (Kd.int IntKind.u64) r.fst), AV.one (Leaf.dat (Kd.int IntKind.u64) r.snd)], upd := [], new := [] }
@[reducible] def a179 : List AK := [AK.d (Kd.int IntKind.u64), AK.d (Kd.int IntKind.u64)]
@[reducible] def b179 : List BK := []
theorem t179 (a : Int) (b : Int) : evFn (E0) Tryd.f179 [PM.data (Kd.int IntKind.u64), PM.data (Kd.int IntKind.u64)] (akAV a179 (a, b, ())) (bkBs b179 ()) = (d179 a b).map e179 := by kernel_rfl
def s179 (C : akT a179 → Bool) (G : akT a179 → Int × Int) : FSpec := aspec a179 b179 e179 (fun x _ => C x) (fun x _ => G x)
theorem k179 {C : akT a179 → Bool} {G : akT a179 → Int × Int} (hd : ∀ (a : Int) (b : Int), C (a, b, ()) = true → (d179 a b).val = some (G (a, b, ()))) (IO : ItOK Tryd.prog (E0) := by exact itOK_none rfl) (L : ∀ c, Tryd.f179.body = some c → LsOK (evI 2) ((E0).lend 0) c := by exact fun c _ => LsOK_none rfl c) : SpecOK Tryd.prog E0 179 (s179 C G) :=
  aspec_ok (ak := a179) (bl := b179) (e := e179) (c := fun x _ => C x) (g := fun x _ => G x) (E0 := E0) (E := E0) tab .nil rfl rfl hm Tryd.func179 (by kernel_rfl) [PM.data (Kd.int IntKind.u64), PM.data (Kd.int IntKind.u64)] (fun X Y H => by obtain ⟨a, ⟨b, _⟩⟩ := X; exact val_of (t179 a b) (hd a b H)) IO L
abbrev w179 : FSpec := s179 (fun x => decide ((x.1 : Int) = 1 ∧ 0 ≤ (x.2.1 : Int) ∧ (x.2.1 : Int) < 128)) fun x => ((0 : Int), x.2.1)
theorem wk179 : SpecOK Tryd.prog E0 179 w179 := by
  refine k179 fun a b H => ?_
  obtain ⟨h1, h2, h3⟩ := of_decide_eq_true H
  dsimp only at h1 h2 h3
  subst h1
  obtain ⟨n, rfl⟩ := Int.eq_ofNat_of_zero_le h2
  have hn : n < 128 := Int.ofNat_lt.1 h3
  have : ∀ m : Fin 128, (d179 1 (m.val : Int)).val = some ((0 : Int), (m.val : Int)) := by decide +kernel
  exact this ⟨n, hn⟩
def d172 (a : Int) (b : Int) : Tr (Int × Int) :=
  Tr.ite (decide (a = (1 : Int) ∧ (0 : Int) ≤ b ∧ b < (128 : Int))) (Tr.ret ((0 : Int), b)) Tr.fail
def e172 (r : Int × Int) : FRes := { rs := Slot.tup [AV.one (Leaf.dat (Kd.int IntKind.u64) r.fst), AV.one (Leaf.dat (Kd.int IntKind.u64) r.snd)], upd := [], new := [] }
@[reducible] def a172 : List AK := [AK.d (Kd.int IntKind.u64), AK.d (Kd.int IntKind.u64)]
@[reducible] def b172 : List BK := []
theorem t172 (a : Int) (b : Int) : evFn (E0.withFns [((179 : Nat), w179)]) Tryd.f172 [PM.data (Kd.int IntKind.u64), PM.data (Kd.int IntKind.u64)] (akAV a172 (a, b, ())) (bkBs b172 ()) = (d172 a b).map e172 := by kernel_rfl
def s172 (C : akT a172 → Bool) (G : akT a172 → Int × Int) : FSpec := aspec a172 b172 e172 (fun x _ => C x) (fun x _ => G x)
theorem k172 {C : akT a172 → Bool} {G : akT a172 → Int × Int} (hd : ∀ (a : Int) (b : Int), C (a, b, ()) = true → (d172 a b).val = some (G (a, b, ()))) (IO : ItOK Tryd.prog (E0.withFns [((179 : Nat), w179)]) := by exact itOK_none rfl) (L : ∀ c, Tryd.f172.body = some c → LsOK (evI 2) ((E0.withFns [((179 : Nat), w179)]).lend 0) c := by exact fun c _ => LsOK_none rfl c) : SpecOK Tryd.prog E0 172 (s172 C G) :=
  aspec_ok (ak := a172) (bl := b172) (e := e172) (c := fun x _ => C x) (g := fun x _ => G x) (E0 := E0) (E := E0.withFns [((179 : Nat), w179)]) tab (.cons wk179 .nil) rfl rfl hm Tryd.func172 (by kernel_rfl) [PM.data (Kd.int IntKind.u64), PM.data (Kd.int IntKind.u64)] (fun X Y H => by obtain ⟨a, ⟨b, _⟩⟩ := X; exact val_of (t172 a b) (hd a b H)) IO L
abbrev w172 : FSpec := s172 (fun x => decide ((x.1 : Int) = 1 ∧ 0 ≤ (x.2.1 : Int) ∧ (x.2.1 : Int) < 128)) fun x => ((0 : Int), x.2.1)
theorem wk172 : SpecOK Tryd.prog E0 172 w172 := by
  refine k172 fun a b H => ?_
  obtain ⟨h1, h2, h3⟩ := of_decide_eq_true H
  dsimp only at h1 h2 h3
  simp only [d172, Tr.val, h1, h2, h3, and_self, decide_true, cond_true]
def d121 (a1 : List Cell) (a2 : Bool) (h0_0 : Int) (h0_1 : List Line) : Tr (Bool × Int × List Line) :=
  let v1 : Int := ((↑a1.length : Int))
  Tr.ite (U.okc a1) (Tr.ret (!(U.fitC a1 && decide (v1 = h0_0)), h0_0, h0_1)) Tr.fail
def e121 (r : Bool × Int × List Line) : FRes := { rs := Slot.av (AV.one (Leaf.dat Kd.bool r.fst)), upd := [Blk.box [Leaf.dat (.int .i64) r.snd.fst, Leaf.dat link.sl r.snd.snd]], new := [] }
@[reducible] def a121 : List AK := [AK.d link, AK.c (Leaf.ptr (0 : Nat) (0 : Nat))]
@[reducible] def b121 : List BK := [BK.box [SK.d (.int .i64), SK.d link.sl]]
theorem t121 (a1 : List Cell) (a2 : Bool) (h0_0 : Int) (h0_1 : List Line) : evFn (E0.withFns [((31 : Nat), w31)]) Tryd.f121 [PM.data Kd.bool] (akAV a121 ((a1, a2, ()), ())) (bkBs b121 ((h0_0, h0_1, ()), ())) = (d121 a1 a2 h0_0 h0_1).map e121 := by kernel_rfl
def s121 (C : akT a121 → bksT b121 → Bool) (G : akT a121 → bksT b121 → Bool × Int × List Line) : FSpec := aspec a121 b121 e121 (C) (G)
theorem k121 {C : akT a121 → bksT b121 → Bool} {G : akT a121 → bksT b121 → Bool × Int × List Line} (hd : ∀ (a1 : List Cell) (a2 : Bool) (h0_0 : Int) (h0_1 : List Line), C ((a1, a2, ()), ()) ((h0_0, h0_1, ()), ()) = true → (d121 a1 a2 h0_0 h0_1).val = some (G ((a1, a2, ()), ()) ((h0_0, h0_1, ()), ()))) (IO : ItOK Tryd.prog (E0.withFns [((31 : Nat), w31)]) := by exact itOK_none rfl) (L : ∀ c, Tryd.f121.body = some c → LsOK (evI 2) ((E0.withFns [((31 : Nat), w31)]).lend 1) c := by exact fun c _ => LsOK_none rfl c) : SpecOK Tryd.prog E0 121 (s121 C G) :=
  aspec_ok (ak := a121) (bl := b121) (e := e121) (c := C) (g := G) (E0 := E0) (E := E0.withFns [((31 : Nat), w31)]) tab (.cons wk31 .nil) rfl rfl hm Tryd.func121 (by kernel_rfl) [PM.data Kd.bool] (fun X Y H => by obtain ⟨⟨a1, ⟨a2, _⟩⟩, _⟩ := X; obtain ⟨⟨h0_0, ⟨h0_1, _⟩⟩, _⟩ := Y; exact val_of (t121 a1 a2 h0_0 h0_1) (hd a1 a2 h0_0 h0_1 H)) IO L
end Go.Proofs.YtmnbcnhpklejcaaDoor
namespace U
def misfit (n : Int) (y : Ln) : Bool := !(fitC y.1 && decide ((y.1.length : Int) = n))
end U
namespace Go.Proofs.YtmnbcnhpklejcaaDoor
abbrev w121 : FSpec := s121 (fun x _ => U.okc x.1.1) fun x y => (U.misfit y.1.1 x.1, y.1.1, y.1.2.1)
theorem wk121 : SpecOK Tryd.prog E0 121 w121 := by
  refine k121 fun l s n g H => ?_
  have H : U.okc l = true := H
  simp only [d121, Tr.val, H, cond_true]
  rfl
namespace GR
def live131 (key : Nat) : Lv :=
  bif Nat.beq key 2 then { ls := [0, 1, 7, 8] } else bif Nat.beq key 1002 then { ls := [4] } else
  { ls := [] }
abbrev M131 (ls : Nat → VS → Option (Tr (Ex × VS))) : Env := (E0.withFns [(121, w121)]).loops live131 ls
@[reducible] def p131_0 : LP := { n := 19, sl := [.d (link.sl), .c (Leaf.fn ( 121) [0]), .d (.int .i64), .d (.int .i64)], bl := [(0, .box [.d (.int .i64), .d (link.sl)])] }
def B131_0 (x0 : List Line) (x2 : Int) (x3 : Int) (h0_0 : Int) (h0_1 : List Line) : Tr (p131_0.T ⊕ (Int × Int × List Line ⊕ Int × List Line)) :=
  Tr.ite (decide (x3 < x2))
    (Tr.ite (inB x3 x0.length)
      (Tr.ite (U.okc (rget link x0 x3).fst)
        (Tr.ite (U.misfit h0_0 (rget link x0 x3)) (Tr.ret (Sum.inr (Sum.inl (x3, h0_0, h0_1)))) (Tr.ret (Sum.inl ((x0, x2, IntKind.i64.wrap (x3 + (1 : Int)), ()), (h0_0, h0_1, ()), ())))) Tr.fail)
      Tr.fail)
    (Tr.ret (Sum.inr (Sum.inr (h0_0, h0_1))))
def X131_0 : (Int × Int × List Line ⊕ Int × List Line) → Ex × VS
  | (.inl r) => Prod.mk Ex.ret { n := 19, v := [Slot.av (AV.one (Leaf.dat (.int .i64) r.fst))], h := [( 0, Blk.box [Leaf.dat (.int .i64) r.snd.fst, Leaf.dat link.sl r.snd.snd])] }
  | (.inr r) => Prod.mk (Ex.exit ( 0)) { n := 19, v := [Slot.av (AV.one Leaf.undef)], h := [( 0, Blk.box [Leaf.dat (.int .i64) r.fst, Leaf.dat link.sl r.snd])] }
def b131_0 : p131_0.T → Tr (p131_0.T ⊕ (Int × Int × List Line ⊕ Int × List Line)) := fun ⟨⟨x0, ⟨x2, ⟨x3, _⟩⟩⟩, ⟨⟨h0_0, ⟨h0_1, _⟩⟩, _⟩⟩ => B131_0 x0 x2 x3 h0_0 h0_1
theorem h131_0 (ls : Nat → VS → Option (Tr (Ex × VS))) (x : p131_0.T) : (evC (evI 2) (lc Tryd.f131 0) (Env.lend (M131 ls) 1) (unV (live131 2) (p131_0.V x))).map (decL 1 (live131 2) (live131 1002)) = (b131_0 x).map (encR p131_0.V X131_0) := by
  obtain ⟨⟨x0, ⟨x2, ⟨x3, _⟩⟩⟩, ⟨⟨h0_0, ⟨h0_1, _⟩⟩, _⟩⟩ := x; kernel_rfl
theorem c131_0 (x : p131_0.T) : canV 1 (live131 2) (unV (live131 2) (p131_0.V x)) = p131_0.V x := by
  obtain ⟨⟨x0, ⟨x2, ⟨x3, _⟩⟩⟩, ⟨⟨h0_0, ⟨h0_1, _⟩⟩, _⟩⟩ := x; kernel_rfl
theorem l131_0 {T : p131_0.T → Tr (Int × Int × List Line ⊕ Int × List Line)} {ls : Nat → VS → Option (Tr (Ex × VS))} (hls : ∀ x, (Env.lend (M131 ls) 1).ls 2 x = p131_0.ls (fun a => (T a).map X131_0) x) (hS : ∀ x r, (T x).val = some r → Rounds b131_0 x r) : LoopOK (evI 2) (Env.lend (M131 ls) 1) (lc Tryd.f131 0) :=
  loopA 2 (live131 2) (live131 1002) p131_0 b131_0 X131_0 T (by kernel_rfl) rfl rfl hls (h131_0 ls) c131_0 hS
def T131 (x : p131_0.T) : Tr (Int × Int × List Line ⊕ Int × List Line) :=
  .ite (decide ((x.1.2.1 : Int) = (List.length (α := Line) x.1.1 : Int) ∧ (x.1.2.2.1 : Int) = 0) && U.okl x.1.1)
    (.ite (findN (fun i => U.misfit x.2.1.1 (List.getD (α := Line) x.1.1 i U.dL)) (List.length (α := Line) x.1.1) 0).isSome (.ret (.inl ((((findN (fun i => U.misfit x.2.1.1 (List.getD (α := Line) x.1.1 i U.dL)) (List.length (α := Line) x.1.1) 0).getD 0 : Nat) : Int), x.2.1.1, x.2.1.2.1))) (.ret (.inr (x.2.1.1, x.2.1.2.1)))) .fail
abbrev E131 : Env := M131 fun key x => bif Nat.beq key 2 then p131_0.ls (fun a => (T131 a).map X131_0) x else none
theorem L131 : LoopOK (evI 2) (E131.lend 1) (lc Tryd.f131 0) := by
  refine l131_0 (T := T131) (fun x => rfl) ?_
  rintro ⟨⟨l, n, i, z⟩, ⟨c, g, z1⟩, z2⟩ r h
  obtain ⟨h1, h2⟩ := pre_val h
  rw [Bool.and_eq_true] at h1
  obtain ⟨h1, hok⟩ := h1
  obtain ⟨e1, e2⟩ := of_decide_eq_true h1
  dsimp only at e1 e2 hok h2
  subst e1
  subst e2
  have hl := U.okl_len hok
  have := Rounds.find (B := b131_0) (N := l.length) (fun i => ((l, (l.length : Int), (i : Int), ()), (c, g, ()), ())) (fun i => U.misfit c (l.getD i U.dL)) (fun i => .inl ((i : Int), c, g)) (.inr (c, g)) (fun i hi => ?_) ?_
  · cases hf : findN (fun i => U.misfit c (l.getD i U.dL)) l.length 0 <;> simp only [hf, Tr.val, Option.isSome_none, Option.isSome_some, Option.getD_some, cond_true, cond_false, outN] at h2 this <;> cases h2 <;> exact this
  · have h3 := U.okl_at hok hi
    simp only [b131_0, B131_0, Tr.val, inB_nat hi, rgetL, h3, show ((i : Int) < (l.length : Int)) by omega, decide_true, cond_true, wrap64_nat (show i ≤ 1048576 by omega)]
    cases U.misfit c (l.getD i U.dL) <;> rfl
  · simp only [b131_0, B131_0, Tr.val, show ¬ ((l.length : Int) < (l.length : Int)) by omega, decide_false, cond_false]
def d131 (a : List Line) (h0_0 : Int) (h0_1 : List Line) : Tr (Int × Int × List Line) :=
  let v1 : Int := ((↑a.length : Int))
  let v2 : Int := ((↑a.length : Int))
  Tr.ite (decide (v2 = v1 ∧ (0 : Int) = (0 : Int)) && U.okl a)
    (Tr.ite (findN (fun (i : Nat) => U.misfit h0_0 (a.getD i U.dL)) a.length (0 : Nat)).isSome
      (Tr.ret ((↑((findN (fun (i : Nat) => U.misfit h0_0 (a.getD i U.dL)) a.length (0 : Nat)).getD (0 : Nat)) : Int), h0_0, h0_1)) (Tr.ret ((-1 : Int), h0_0, h0_1)))
    Tr.fail
def e131 (r : Int × Int × List Line) : FRes := { rs := Slot.av (AV.one (Leaf.dat (.int .i64) r.fst)), upd := [Blk.box [Leaf.dat (.int .i64) r.snd.fst, Leaf.dat link.sl r.snd.snd]], new := [] }
@[reducible] def a131 : List AK := [AK.d link.sl, AK.c (Leaf.fn (121 : FuncId) [(0 : Nat)])]
@[reducible] def b131 : List BK := [BK.box [SK.d (.int .i64), SK.d link.sl]]
theorem t131 (a : List Line) (h0_0 : Int) (h0_1 : List Line) : evFn (E131) Tryd.f131 [PM.data (.int .i64)] (akAV a131 (a, ())) (bkBs b131 ((h0_0, h0_1, ()), ())) = (d131 a h0_0 h0_1).map e131 := by kernel_rfl
def s131 (C : akT a131 → bksT b131 → Bool) (G : akT a131 → bksT b131 → Int × Int × List Line) : FSpec := aspec a131 b131 e131 (C) (G)
theorem k131 {C : akT a131 → bksT b131 → Bool} {G : akT a131 → bksT b131 → Int × Int × List Line} (hd : ∀ (a : List Line) (h0_0 : Int) (h0_1 : List Line), C (a, ()) ((h0_0, h0_1, ()), ()) = true → (d131 a h0_0 h0_1).val = some (G (a, ()) ((h0_0, h0_1, ()), ()))) (IO : ItOK Tryd.prog (E131) := by exact itOK_none rfl) (L : ∀ c, Tryd.f131.body = some c → LsOK (evI 2) ((E131).lend 1) c := by exact fun c _ => LsOK_none rfl c) : SpecOK Tryd.prog E0 131 (s131 C G) :=
  aspec_ok (ak := a131) (bl := b131) (e := e131) (c := C) (g := G) (E0 := E0) (E := E131) tab (.cons wk121 .nil) rfl rfl hm Tryd.func131 (by kernel_rfl) [PM.data (.int .i64)] (fun X Y H => by obtain ⟨a, _⟩ := X; obtain ⟨⟨h0_0, ⟨h0_1, _⟩⟩, _⟩ := Y; exact val_of (t131 a h0_0 h0_1) (hd a h0_0 h0_1 H)) IO L
abbrev w131 : FSpec := s131 (fun x _ => U.okl x.1) fun x y => (optI' (findN (fun i => U.misfit y.1.1 (List.getD (α := Line) x.1 i U.dL)) (List.length (α := Line) x.1) 0), y.1.1, y.1.2.1)
theorem wk131 : SpecOK Tryd.prog E0 131 w131 := by
  refine k131 (fun l n g H => ?_) (L := ls_ok (lcs := [lc Tryd.f131 0]) (rgs := []) (by kernel_rfl) (by kernel_rfl) L131 trivial)
  have H : U.okl l = true := H
  simp only [d131, Tr.val, H, and_self, decide_true, Bool.and_self, cond_true]
  cases findN (fun i => U.misfit n (l.getD i U.dL)) l.length 0 <;> rfl
def d79 (a : List Line) (h0_0 : Int) (h0_1 : List Line) : Tr (Bool × Int × List Line) :=
  let v1 : Int := (optI' (findN (fun (i : Nat) => U.misfit h0_0 (a.getD i U.dL)) a.length (0 : Nat)))
  Tr.ite (U.okl a) (Tr.ret (decide ((0 : Int) ≤ v1), h0_0, h0_1)) Tr.fail
def e79 (r : Bool × Int × List Line) : FRes := { rs := Slot.av (AV.one (Leaf.dat Kd.bool r.fst)), upd := [Blk.box [Leaf.dat (.int .i64) r.snd.fst, Leaf.dat link.sl r.snd.snd]], new := [] }
@[reducible] def a79 : List AK := [AK.d link.sl, AK.c (Leaf.fn (121 : FuncId) [(0 : Nat)])]
@[reducible] def b79 : List BK := [BK.box [SK.d (.int .i64), SK.d link.sl]]
theorem t79 (a : List Line) (h0_0 : Int) (h0_1 : List Line) : evFn (E0.withFns [((131 : Nat), w131)]) Tryd.f79 [PM.data Kd.bool] (akAV a79 (a, ())) (bkBs b79 ((h0_0, h0_1, ()), ())) = (d79 a h0_0 h0_1).map e79 := by kernel_rfl
def s79 (C : akT a79 → bksT b79 → Bool) (G : akT a79 → bksT b79 → Bool × Int × List Line) : FSpec := aspec a79 b79 e79 (C) (G)
theorem k79 {C : akT a79 → bksT b79 → Bool} {G : akT a79 → bksT b79 → Bool × Int × List Line} (hd : ∀ (a : List Line) (h0_0 : Int) (h0_1 : List Line), C (a, ()) ((h0_0, h0_1, ()), ()) = true → (d79 a h0_0 h0_1).val = some (G (a, ()) ((h0_0, h0_1, ()), ()))) (IO : ItOK Tryd.prog (E0.withFns [((131 : Nat), w131)]) := by exact itOK_none rfl) (L : ∀ c, Tryd.f79.body = some c → LsOK (evI 2) ((E0.withFns [((131 : Nat), w131)]).lend 1) c := by exact fun c _ => LsOK_none rfl c) : SpecOK Tryd.prog E0 79 (s79 C G) :=
  aspec_ok (ak := a79) (bl := b79) (e := e79) (c := C) (g := G) (E0 := E0) (E := E0.withFns [((131 : Nat), w131)]) tab (.cons wk131 .nil) rfl rfl hm Tryd.func79 (by kernel_rfl) [PM.data Kd.bool] (fun X Y H => by obtain ⟨a, _⟩ := X; obtain ⟨⟨h0_0, ⟨h0_1, _⟩⟩, _⟩ := Y; exact val_of (t79 a h0_0 h0_1) (hd a h0_0 h0_1 H)) IO L
abbrev w79 : FSpec := s79 (fun x _ => U.okl x.1) fun x y => (List.any (α := Line) x.1 (U.misfit y.1.1), y.1.1, y.1.2.1)
theorem wk79 : SpecOK Tryd.prog E0 79 w79 := by
  refine k79 fun l n g H => ?_
  have H : U.okl l = true := H
  show _ = some (l.any (U.misfit n), n, g)
  rw [← find_any (U.misfit n) U.dL l]
  simp only [d79, Tr.val, H, cond_true]
  cases findN (fun i => U.misfit n (l.getD i U.dL)) l.length 0 <;> simp [optI']
end GR
abbrev G67 : List (Nat × FSpec) := [(93, w93), (79, GR.w79)]
theorem AG67 : AllFn Tryd.prog E0 G67 := .cons wk93 (.cons GR.wk79 .nil)
abbrev gridk : Kd := .pr (.int .i64) (.pr (.sl link) .un)
def d67 (a1 : Int) (a2 : List Line) : Tr (Bool) :=
  Tr.ite (U.inn a1 (1 : Int) (80 : Int)) (Tr.ite (U.inn (↑a2.length : Int) (1 : Int) (50 : Int)) (Tr.ite (U.okl a2) (Tr.ret !a2.any (U.misfit a1)) Tr.fail) (Tr.ret false)) (Tr.ret false)
def e67 (r : Bool) : FRes := { rs := Slot.av (AV.one (Leaf.dat Kd.bool r)), upd := [], new := [] }
@[reducible] def a67 : List AK := [AK.d gridk]
@[reducible] def b67 : List BK := []
theorem t67 (a1 : Int) (a2 : List Line) : evFn (E0.withFns G67) Tryd.f67 [PM.data Kd.bool] (akAV a67 ((a1, a2, ()), ())) (bkBs b67 ()) = (d67 a1 a2).map e67 := by kernel_rfl
def s67 (C : akT a67 → Bool) (G : akT a67 → Bool) : FSpec := aspec a67 b67 e67 (fun x _ => C x) (fun x _ => G x)
theorem k67 {C : akT a67 → Bool} {G : akT a67 → Bool} (hd : ∀ (a1 : Int) (a2 : List Line), C ((a1, a2, ()), ()) = true → (d67 a1 a2).val = some (G ((a1, a2, ()), ()))) (IO : ItOK Tryd.prog (E0.withFns G67) := by exact itOK_none rfl) (L : ∀ c, Tryd.f67.body = some c → LsOK (evI 2) ((E0.withFns G67).lend 0) c := by exact fun c _ => LsOK_none rfl c) : SpecOK Tryd.prog E0 67 (s67 C G) :=
  aspec_ok (ak := a67) (bl := b67) (e := e67) (c := fun x _ => C x) (g := fun x _ => G x) (E0 := E0) (E := E0.withFns G67) tab AG67 rfl rfl hm Tryd.func67 (by kernel_rfl) [PM.data Kd.bool] (fun X Y H => by obtain ⟨⟨a1, ⟨a2, _⟩⟩, _⟩ := X; exact val_of (t67 a1 a2) (hd a1 a2 H)) IO L
end Go.Proofs.YtmnbcnhpklejcaaDoor
namespace U
def gridR (c : Int) (l : List Ln) : Bool := inn c 1 80 && (inn (l.length : Int) 1 50 && !l.any (misfit c))
end U
namespace Go.Proofs.YtmnbcnhpklejcaaDoor
abbrev w67 : FSpec := s67 (fun x => U.okl x.1.2.1) fun x => U.gridR x.1.1 x.1.2.1
theorem wk67 : SpecOK Tryd.prog E0 67 w67 := by
  refine k67 fun c l H => ?_
  have H : U.okl l = true := H
  show _ = some (U.gridR c l)
  unfold U.gridR
  cases h1 : U.inn c 1 80 <;> cases h2 : U.inn (l.length : Int) 1 50 <;> simp only [d67, Tr.val, h1, h2, H, cond_true, cond_false, Bool.true_and, Bool.false_and]
def d90 (a1 : Int) (a2 : List Line) (b : Int) (c : Int) : Tr (Bool) :=
  Tr.ite (U.okl a2)
    (Tr.ite (U.gridR a1 a2) (Tr.ite (U.inn b (0 : Int) (IntKind.i64.wrap ((↑a2.length : Int) - (1 : Int)))) (Tr.ret (U.inn c (0 : Int) (IntKind.i64.wrap (a1 - (1 : Int))))) (Tr.ret false))
      (Tr.ret false))
    Tr.fail
def e90 (r : Bool) : FRes := { rs := Slot.av (AV.one (Leaf.dat Kd.bool r)), upd := [], new := [] }
@[reducible] def a90 : List AK := [AK.d gridk, AK.d (.int .i64), AK.d (.int .i64)]
@[reducible] def b90 : List BK := []
theorem t90 (a1 : Int) (a2 : List Line) (b : Int) (c : Int) : evFn (E0.withFns [((67 : Nat), w67), ((93 : Nat), w93)]) Tryd.f90 [PM.data Kd.bool] (akAV a90 ((a1, a2, ()), b, c, ())) (bkBs b90 ()) = (d90 a1 a2 b c).map e90 := by kernel_rfl
def s90 (C : akT a90 → Bool) (G : akT a90 → Bool) : FSpec := aspec a90 b90 e90 (fun x _ => C x) (fun x _ => G x)
theorem k90 {C : akT a90 → Bool} {G : akT a90 → Bool} (hd : ∀ (a1 : Int) (a2 : List Line) (b : Int) (c : Int), C ((a1, a2, ()), b, c, ()) = true → (d90 a1 a2 b c).val = some (G ((a1, a2, ()), b, c, ()))) (IO : ItOK Tryd.prog (E0.withFns [((67 : Nat), w67), ((93 : Nat), w93)]) := by exact itOK_none rfl) (L : ∀ c, Tryd.f90.body = some c → LsOK (evI 2) ((E0.withFns [((67 : Nat), w67), ((93 : Nat), w93)]).lend 0) c := by exact fun c _ => LsOK_none rfl c) : SpecOK Tryd.prog E0 90 (s90 C G) :=
  aspec_ok (ak := a90) (bl := b90) (e := e90) (c := fun x _ => C x) (g := fun x _ => G x) (E0 := E0) (E := E0.withFns [((67 : Nat), w67), ((93 : Nat), w93)]) tab (.cons wk67 (.cons wk93 .nil)) rfl rfl hm Tryd.func90 (by kernel_rfl) [PM.data Kd.bool] (fun X Y H => by obtain ⟨⟨a1, ⟨a2, _⟩⟩, ⟨b, ⟨c, _⟩⟩⟩ := X; exact val_of (t90 a1 a2 b c) (hd a1 a2 b c H)) IO L
end Go.Proofs.YtmnbcnhpklejcaaDoor
namespace U
def place (c : Int) (l : List Ln) (row col : Int) : Bool := gridR c l && (inn row 0 ((l.length : Int) - 1) && inn col 0 (c - 1))
theorem gridR_cols {c : Int} {l : List Ln} (h : gridR c l = true) : 1 ≤ c ∧ c ≤ 80 ∧ 1 ≤ l.length ∧ l.length ≤ 50 := by
  unfold gridR inn at h
  simp only [Bool.and_eq_true, decide_eq_true_eq] at h
  omega
end U
namespace Go.Proofs.YtmnbcnhpklejcaaDoor
abbrev w90 : FSpec := s90 (fun x => U.okl x.1.2.1) fun x => U.place x.1.1 x.1.2.1 x.2.1 x.2.2.1
theorem wk90 : SpecOK Tryd.prog E0 90 w90 := by
  refine k90 fun c l row col H => ?_
  have H : U.okl l = true := H
  show _ = some (U.place c l row col)
  unfold U.place
  cases h0 : U.gridR c l with
  | false => simp only [d90, Tr.val, H, h0, cond_true, cond_false, Bool.false_and]
  | true =>
    obtain ⟨a1, a2, a3, a4⟩ := U.gridR_cols h0
    have e1 : IntKind.i64.wrap ((l.length : Int) - 1) = (l.length : Int) - 1 := w64 (by omega) (by omega)
    have e2 : IntKind.i64.wrap (c - 1) = c - 1 := w64 (by omega) (by omega)
    cases h1 : U.inn row 0 ((l.length : Int) - 1) <;> cases h2 : U.inn col 0 (c - 1) <;> simp only [d90, Tr.val, h0, h1, h2, H, e1, e2, cond_true, cond_false, Bool.true_and, Bool.false_and, Bool.and_false]
def d92 (h0 : List Cell) (h1_0 : ByteArray) (h1_1 : Int) (h1_2 : Int) (h1_3 : Int) (h1_4 : Int) (h2_0 : Int) : Tr (List Cell × ByteArray × Int × Int × Int × Int × Int) :=
  let v1 : Int := (h2_0 + (1 : Int))
  let v2 : List Cell := (h0.set h2_0.toNat (h1_0, h1_1, (h1_2, h1_3, h1_4, ()), ()))
  Tr.ite (inB h2_0 h0.length)
    (Tr.ite (decide (h1_1 = (2 : Int)))
      (Tr.ite (inB (IntKind.i64.wrap v1) v2.length) (Tr.ret (v2.set (IntKind.i64.wrap v1).toNat (ByteArray.empty, (0 : Int), (h1_2, h1_3, h1_4, ()), ()), h1_0, h1_1, h1_2, h1_3, h1_4, h2_0)) Tr.fail)
      (Tr.ret (v2, h1_0, h1_1, h1_2, h1_3, h1_4, h2_0)))
    Tr.fail
def e92 (r : List Cell × ByteArray × Int × Int × Int × Int × Int) : FRes := { rs := Slot.tup [], upd := [Blk.row ( 48) celk r.fst, Blk.box [Leaf.dat Kd.str r.snd.fst, Leaf.dat (.int .i64) r.snd.snd.fst, Leaf.dat (.int .i64) r.snd.snd.snd.fst, Leaf.dat (.int .i64) r.snd.snd.snd.snd.fst, Leaf.dat (.int .i64) r.snd.snd.snd.snd.snd.fst], Blk.box [Leaf.dat (.int .i64) r.snd.snd.snd.snd.snd.snd]], new := [] }
@[reducible] def a92 : List AK := [AK.c (Leaf.row (0 : Nat)), AK.c (Leaf.ptr (1 : Nat) (0 : Nat)), AK.c (Leaf.ptr (2 : Nat) (0 : Nat))]
@[reducible] def b92 : List BK := [BK.row (48 : TypeId) celk, BK.box [SK.d Kd.str, SK.d (.int .i64), SK.d (.int .i64), SK.d (.int .i64), SK.d (.int .i64)], BK.box [SK.d (.int .i64)]]
theorem t92 (h0 : List Cell) (h1_0 : ByteArray) (h1_1 : Int) (h1_2 : Int) (h1_3 : Int) (h1_4 : Int) (h2_0 : Int) : evFn (E0) Tryd.f92 [] (akAV a92 ()) (bkBs b92 (h0, (h1_0, h1_1, h1_2, h1_3, h1_4, ()), (h2_0, ()), ())) = (d92 h0 h1_0 h1_1 h1_2 h1_3 h1_4 h2_0).map e92 := by kernel_rfl
def s92 (C : akT a92 → bksT b92 → Bool) (G : akT a92 → bksT b92 → List Cell × ByteArray × Int × Int × Int × Int × Int) : FSpec := aspec a92 b92 e92 (C) (G)
theorem k92 {C : akT a92 → bksT b92 → Bool} {G : akT a92 → bksT b92 → List Cell × ByteArray × Int × Int × Int × Int × Int} (hd : ∀ (h0 : List Cell) (h1_0 : ByteArray) (h1_1 : Int) (h1_2 : Int) (h1_3 : Int) (h1_4 : Int) (h2_0 : Int), C () (h0, (h1_0, h1_1, h1_2, h1_3, h1_4, ()), (h2_0, ()), ()) = true → (d92 h0 h1_0 h1_1 h1_2 h1_3 h1_4 h2_0).val = some (G () (h0, (h1_0, h1_1, h1_2, h1_3, h1_4, ()), (h2_0, ()), ()))) (IO : ItOK Tryd.prog (E0) := by exact itOK_none rfl) (L : ∀ c, Tryd.f92.body = some c → LsOK (evI 2) ((E0).lend 3) c := by exact fun c _ => LsOK_none rfl c) : SpecOK Tryd.prog E0 92 (s92 C G) :=
  aspec_ok (ak := a92) (bl := b92) (e := e92) (c := C) (g := G) (E0 := E0) (E := E0) tab .nil rfl rfl hm Tryd.func92 (by kernel_rfl) [] (fun X Y H => by obtain ⟨h0, ⟨⟨h1_0, ⟨h1_1, ⟨h1_2, ⟨h1_3, ⟨h1_4, _⟩⟩⟩⟩⟩, ⟨⟨h2_0, _⟩, _⟩⟩⟩ := Y; exact val_of (t92 h0 h1_0 h1_1 h1_2 h1_3 h1_4 h2_0) (hd h0 h1_0 h1_1 h1_2 h1_3 h1_4 h2_0 H)) IO L
end Go.Proofs.YtmnbcnhpklejcaaDoor
namespace U
def putC (l : List Cl) (i : Nat) (c : Cl) : List Cl := if c.2.1 = 2 then (l.set i c).set (i + 1) (ByteArray.empty, 0, c.2.2.1, ()) else l.set i c
def setL (ls : List Ln) (r : Nat) (f : List Cl → List Cl) : List Ln := ls.set r (mend (f (ls.getD r dL).1), (ls.getD r dL).2)
end U
namespace Go.Proofs.YtmnbcnhpklejcaaDoor
abbrev putOK (col : Int) (n : Nat) (w : Int) : Bool := decide (0 ≤ col ∧ col < (n : Int) ∧ (w = 2 → col + 1 < (n : Int)) ∧ n ≤ 1048576)
abbrev w92 : FSpec := s92 (fun _ y => putOK y.2.2.1.1 (List.length (α := Cell) y.1) y.2.1.2.1)
  fun _ y => (U.putC y.1 y.2.2.1.1.toNat (y.2.1.1, y.2.1.2.1, (y.2.1.2.2.1, y.2.1.2.2.2.1, y.2.1.2.2.2.2.1, ()), ()), y.2.1.1, y.2.1.2.1, y.2.1.2.2.1, y.2.1.2.2.2.1, y.2.1.2.2.2.2.1, y.2.2.1.1)
theorem wk92 : SpecOK Tryd.prog E0 92 w92 := by
  refine k92 fun l t w a b c col H => ?_
  obtain ⟨h1, h2, h3, h4⟩ := of_decide_eq_true H
  dsimp only at h1 h2 h3 h4
  obtain ⟨n, rfl⟩ := Int.eq_ofNat_of_zero_le h1
  have hn : n < l.length := Int.ofNat_lt.1 h2
  have w1 : IntKind.i64.wrap ((n : Int) + 1) = ((n + 1 : Nat) : Int) := wrap64_nat (by omega)
  show _ = some (U.putC l n (t, w, (a, b, c, ()), ()), t, w, a, b, c, (n : Int))
  unfold U.putC
  by_cases hw : w = 2
  · have i1 : inB ((n + 1 : Nat) : Int) (l.set n (t, w, (a, b, c, ()), ())).length = true := by rw [List.length_set]; exact inB_nat (by have := h3 hw; omega)
    simp only [d92, Tr.val, inB_nat hn, hw, w1, Int.toNat_natCast, decide_true, cond_true, if_true]
    subst hw
    rw [i1]
    rfl
  · simp only [d92, Tr.val, inB_nat hn, hw, decide_false, cond_true, cond_false, if_false]
    rfl
namespace P
abbrev G91 : List (Nat × FSpec) := [(97, w97), (86, w86), (92, w92), (30, w30)]
theorem AG91 : AllFn Tryd.prog E0 G91 := .cons wk97 (.cons wk86 (.cons wk92 (.cons wk30 .nil)))
def d91 (a1 : Int) (a2 : List Line) (b : Int) (h0_0 : ByteArray) (h0_1 : Int) (h0_2 : Int) (h0_3 : Int) (h0_4 : Int) (h1_0 : Int) : Tr (Int × List Line × Int × ByteArray × Int × Int × Int × Int × Int) :=
  let v1 : List U.Cl := (U.putC (a2.getD b.toNat link.dflt).fst h1_0.toNat (h0_0, h0_1, (h0_2, h0_3, h0_4, ()), ()))
  Tr.ite (decide (a2.length ≤ (1048576 : Nat)))
    (Tr.ite (inB b a2.length)
      (Tr.ite (decide (List.length (a2.getD b.toNat link.dflt).fst ≤ (1048576 : Nat)))
        (Tr.ite (putOK h1_0 (List.length (a2.getD b.toNat link.dflt).fst) h0_1)
          (Tr.ite (decide (v1.length ≤ (1048576 : Nat)))
            (Tr.ite (inB b a2.length) (Tr.ret (a1, a2.set b.toNat (U.mend v1, (a2.getD b.toNat link.dflt).snd), (0 : Int), h0_0, h0_1, h0_2, h0_3, h0_4, h1_0)) Tr.fail) Tr.fail)
          Tr.fail)
        Tr.fail)
      Tr.fail)
    Tr.fail
def e91 (r : Int × List Line × Int × ByteArray × Int × Int × Int × Int × Int) : FRes := { rs := Slot.tup [AV.agg [Leaf.dat (.int .i64) r.fst, Leaf.dat link.sl r.snd.fst], AV.one (Leaf.dat (.int .i64) r.snd.snd.fst)], upd := [Blk.box [Leaf.dat Kd.str r.snd.snd.snd.fst, Leaf.dat (.int .i64) r.snd.snd.snd.snd.fst, Leaf.dat (.int .i64) r.snd.snd.snd.snd.snd.fst, Leaf.dat (.int .i64) r.snd.snd.snd.snd.snd.snd.fst, Leaf.dat (.int .i64) r.snd.snd.snd.snd.snd.snd.snd.fst], Blk.box [Leaf.dat (.int .i64) r.snd.snd.snd.snd.snd.snd.snd.snd]], new := [] }
@[reducible] def a91 : List AK := [AK.d gridk, AK.d (.int .i64), AK.c (Leaf.fn (92 : FuncId) [(0 : Nat), (1 : Nat)])]
@[reducible] def b91 : List BK := [BK.box [SK.d Kd.str, SK.d (.int .i64), SK.d (.int .i64), SK.d (.int .i64), SK.d (.int .i64)], BK.box [SK.d (.int .i64)]]
theorem t91 (a1 : Int) (a2 : List Line) (b : Int) (h0_0 : ByteArray) (h0_1 : Int) (h0_2 : Int) (h0_3 : Int) (h0_4 : Int) (h1_0 : Int) : evFn (E0.withFns G91) Tryd.f91 [PM.data gridk, PM.data (.int .i64)] (akAV a91 ((a1, a2, ()), b, ())) (bkBs b91 ((h0_0, h0_1, h0_2, h0_3, h0_4, ()), (h1_0, ()), ())) = (d91 a1 a2 b h0_0 h0_1 h0_2 h0_3 h0_4 h1_0).map e91 := by kernel_rfl
def s91 (C : akT a91 → bksT b91 → Bool) (G : akT a91 → bksT b91 → Int × List Line × Int × ByteArray × Int × Int × Int × Int × Int) : FSpec := aspec a91 b91 e91 (C) (G)
theorem k91 {C : akT a91 → bksT b91 → Bool} {G : akT a91 → bksT b91 → Int × List Line × Int × ByteArray × Int × Int × Int × Int × Int} (hd : ∀ (a1 : Int) (a2 : List Line) (b : Int) (h0_0 : ByteArray) (h0_1 : Int) (h0_2 : Int) (h0_3 : Int) (h0_4 : Int) (h1_0 : Int), C ((a1, a2, ()), b, ()) ((h0_0, h0_1, h0_2, h0_3, h0_4, ()), (h1_0, ()), ()) = true → (d91 a1 a2 b h0_0 h0_1 h0_2 h0_3 h0_4 h1_0).val = some (G ((a1, a2, ()), b, ()) ((h0_0, h0_1, h0_2, h0_3, h0_4, ()), (h1_0, ()), ()))) (IO : ItOK Tryd.prog (E0.withFns G91) := by exact itOK_none rfl) (L : ∀ c, Tryd.f91.body = some c → LsOK (evI 2) ((E0.withFns G91).lend 2) c := by exact fun c _ => LsOK_none rfl c) : SpecOK Tryd.prog E0 91 (s91 C G) :=
  aspec_ok (ak := a91) (bl := b91) (e := e91) (c := C) (g := G) (E0 := E0) (E := E0.withFns G91) tab AG91 rfl rfl hm Tryd.func91 (by kernel_rfl) [PM.data gridk, PM.data (.int .i64)] (fun X Y H => by obtain ⟨⟨a1, ⟨a2, _⟩⟩, ⟨b, _⟩⟩ := X; obtain ⟨⟨h0_0, ⟨h0_1, ⟨h0_2, ⟨h0_3, ⟨h0_4, _⟩⟩⟩⟩⟩, ⟨⟨h1_0, _⟩, _⟩⟩ := Y; exact val_of (t91 a1 a2 b h0_0 h0_1 h0_2 h0_3 h0_4 h1_0) (hd a1 a2 b h0_0 h0_1 h0_2 h0_3 h0_4 h1_0 H)) IO L
abbrev w91 : FSpec := s91 (fun x y => decide (0 ≤ (x.2.1 : Int) ∧ (x.2.1 : Int) < (List.length (α := Line) x.1.2.1 : Int) ∧ List.length (α := Line) x.1.2.1 ≤ 1048576) && putOK y.2.1.1 (List.length (α := Cell) (List.getD (α := Line) x.1.2.1 x.2.1.toNat U.dL).1) y.1.2.1)
  fun x y => (x.1.1, U.setL x.1.2.1 x.2.1.toNat fun l => U.putC l y.2.1.1.toNat (y.1.1, y.1.2.1, (y.1.2.2.1, y.1.2.2.2.1, y.1.2.2.2.2.1, ()), ()), 0, y.1.1, y.1.2.1, y.1.2.2.1, y.1.2.2.2.1, y.1.2.2.2.2.1, y.2.1.1)
theorem wk91 : SpecOK Tryd.prog E0 91 w91 := by
  refine k91 fun n l row t w a b c col H => ?_
  have H : (decide (0 ≤ row ∧ row < (l.length : Int) ∧ l.length ≤ 1048576) && putOK col (l.getD row.toNat U.dL).1.length w) = true := H
  rw [Bool.and_eq_true] at H
  obtain ⟨H1, H2⟩ := H
  obtain ⟨h1, h2, h3⟩ := of_decide_eq_true H1
  obtain ⟨r, rfl⟩ := Int.eq_ofNat_of_zero_le h1
  have hr : r < l.length := Int.ofNat_lt.1 h2
  have g4 : (l.getD r U.dL).1.length ≤ 1048576 := (of_decide_eq_true H2).2.2.2
  have e0 : l.getD r link.dflt = l.getD r U.dL := rfl
  have e1 : ∀ (m : List U.Cl) c, (U.putC m col.toNat c).length = m.length := fun m c => by unfold U.putC; split <;> simp
  simp only [d91, Tr.val, Int.toNat_natCast, inB_nat hr, h3, e0, e1, g4, decide_true, cond_true] at H2 ⊢
  rw [H2]
  rfl
end P
def d33 (a1 : Int) (a2 : List Line) (b : Int) (c : Int) (y1 : ByteArray) (y2 : Int) (y31 : Int) (y32 : Int) (y33 : Int) : Tr (Int × List Line × Int) :=
  let v1 : Int := ((↑a2.length : Int))
  let v2 : List Cell := ((a2.getD b.toNat U.dL).fst)
  let v3 : Int := (a1 - (1 : Int))
  Tr.ite (U.okl a2)
    (Tr.ite (!U.place a1 a2 b c) (Tr.ret ((0 : Int), [], (1 : Int)))
      (Tr.ite (decide (y1.size ≤ (1048576 : Nat)))
        (Tr.ite (!U.cellR (y1, y2, (y31, y32, y33, ()), ())) (Tr.ret ((0 : Int), [], (1 : Int)))
          (Tr.ite (decide (y1 = { data := #[] })) (Tr.ret ((0 : Int), [], (1 : Int)))
            (Tr.ite (decide (y2 = (2 : Int)))
              (Tr.ite (decide (c = IntKind.i64.wrap v3)) (Tr.ret ((0 : Int), [], (9 : Int)))
                (Tr.ite (decide ((0 : Int) ≤ b ∧ b < v1 ∧ a2.length ≤ (1048576 : Nat)) && putOK c v2.length y2)
                  (Tr.ret (a1, U.setL a2 b.toNat fun (l : List U.Cl) => U.putC l c.toNat (y1, y2, (y31, y32, y33, ()), ()), (0 : Int))) Tr.fail))
              (Tr.ite (decide ((0 : Int) ≤ b ∧ b < v1 ∧ a2.length ≤ (1048576 : Nat)) && putOK c v2.length y2)
                (Tr.ret (a1, U.setL a2 b.toNat fun (l : List U.Cl) => U.putC l c.toNat (y1, y2, (y31, y32, y33, ()), ()), (0 : Int))) Tr.fail))))
        Tr.fail))
    Tr.fail
def e33 (r : Int × List Line × Int) : FRes := { rs := Slot.tup [AV.agg [Leaf.dat (.int .i64) r.fst, Leaf.dat link.sl r.snd.fst], AV.one (Leaf.dat (.int .i64) r.snd.snd)], upd := [], new := [] }
@[reducible] def a33 : List AK := [AK.d gridk, AK.d (.int .i64), AK.d (.int .i64), AK.d celk]
@[reducible] def b33 : List BK := []
theorem t33 (a1 : Int) (a2 : List Line) (b : Int) (c : Int) (y1 : ByteArray) (y2 : Int) (y31 : Int) (y32 : Int) (y33 : Int) : evFn (E0.withFns [((90 : Nat), w90), ((89 : Nat), w89), ((91 : Nat), P.w91)]) Tryd.f33 [PM.data gridk, PM.data (.int .i64)] (akAV a33 ((a1, a2, ()), b, c, (y1, y2, (y31, y32, y33, ()), ()), ())) (bkBs b33 ()) = (d33 a1 a2 b c y1 y2 y31 y32 y33).map e33 := by kernel_rfl
def s33 (C : akT a33 → Bool) (G : akT a33 → Int × List Line × Int) : FSpec := aspec a33 b33 e33 (fun x _ => C x) (fun x _ => G x)
theorem k33 {C : akT a33 → Bool} {G : akT a33 → Int × List Line × Int} (hd : ∀ (a1 : Int) (a2 : List Line) (b : Int) (c : Int) (y1 : ByteArray) (y2 : Int) (y31 : Int) (y32 : Int) (y33 : Int), C ((a1, a2, ()), b, c, (y1, y2, (y31, y32, y33, ()), ()), ()) = true → (d33 a1 a2 b c y1 y2 y31 y32 y33).val = some (G ((a1, a2, ()), b, c, (y1, y2, (y31, y32, y33, ()), ()), ()))) (IO : ItOK Tryd.prog (E0.withFns [((90 : Nat), w90), ((89 : Nat), w89), ((91 : Nat), P.w91)]) := by exact itOK_none rfl) (L : ∀ c, Tryd.f33.body = some c → LsOK (evI 2) ((E0.withFns [((90 : Nat), w90), ((89 : Nat), w89), ((91 : Nat), P.w91)]).lend 0) c := by exact fun c _ => LsOK_none rfl c) : SpecOK Tryd.prog E0 33 (s33 C G) :=
  aspec_ok (ak := a33) (bl := b33) (e := e33) (c := fun x _ => C x) (g := fun x _ => G x) (E0 := E0) (E := E0.withFns [((90 : Nat), w90), ((89 : Nat), w89), ((91 : Nat), P.w91)]) tab (.cons wk90 (.cons wk89 (.cons P.wk91 .nil))) rfl rfl hm Tryd.func33 (by kernel_rfl) [PM.data gridk, PM.data (.int .i64)] (fun X Y H => by obtain ⟨⟨a1, ⟨a2, _⟩⟩, ⟨b, ⟨c, ⟨⟨y1, ⟨y2, ⟨⟨y31, ⟨y32, ⟨y33, _⟩⟩⟩, _⟩⟩⟩, _⟩⟩⟩⟩ := X; exact val_of (t33 a1 a2 b c y1 y2 y31 y32 y33) (hd a1 a2 b c y1 y2 y31 y32 y33 H)) IO L
end Go.Proofs.YtmnbcnhpklejcaaDoor
namespace U
def rawPut (c : Int) (l : List Ln) (row col : Int) (x : Cl) : Int × List Ln × Int :=
  if place c l row col = true ∧ cellR x = true ∧ x.1.size ≠ 0 then
    if x.2.1 = 2 ∧ col = c - 1 then (0, [], 9) else (c, setL l row.toNat fun m => putC m col.toNat x, 0)
  else (0, [], 1)
theorem inn_iff {a b c : Int} : inn a b c = true ↔ b ≤ a ∧ a ≤ c := by unfold inn; simp [Bool.and_eq_true, decide_eq_true_eq]
theorem place_at {c : Int} {l : List Ln} {row col : Int} (h : place c l row col = true) : 0 ≤ row ∧ row < (l.length : Int) ∧ 0 ≤ col ∧ col < c ∧ ∀ y ∈ l, fitC y.1 = true ∧ (y.1.length : Int) = c := by
  unfold place gridR at h
  simp only [Bool.and_eq_true, inn_iff, Bool.not_eq_true', List.any_eq_false] at h
  obtain ⟨⟨_, _, h1⟩, h2, h3⟩ := h
  refine ⟨h2.1, by omega, h3.1, by omega, fun y hy => ?_⟩
  have := h1 y hy
  unfold misfit at this
  simpa using this
theorem getD_mem {l : List Ln} {i : Nat} (hi : i < l.length) : l.getD i dL ∈ l := by rw [getD_el hi]; exact List.getElem_mem hi
end U
namespace Go.Proofs.YtmnbcnhpklejcaaDoor
abbrev w33 : FSpec := s33 (fun x => U.okl x.1.2.1 && decide (ByteArray.size x.2.2.2.1.1 ≤ 1048576)) fun x => U.rawPut x.1.1 x.1.2.1 x.2.1 x.2.2.1 x.2.2.2.1
theorem wk33 : SpecOK Tryd.prog E0 33 w33 := by
  refine k33 fun c l row col t w a b d H => ?_
  have H : (U.okl l && decide (t.size ≤ 1048576)) = true := H
  rw [Bool.and_eq_true] at H
  obtain ⟨H1, H2⟩ := H
  have H2 := of_decide_eq_true H2
  show _ = some (U.rawPut c l row col (t, w, (a, b, d, ()), ()))
  unfold U.rawPut
  cases hp : U.place c l row col with
  | false => simp only [d33, Tr.val, H1, hp, cond_true, Bool.not_false, Bool.false_eq_true, false_and, if_false]
  | true =>
    cases hc : U.cellR (t, w, (a, b, d, ()), ()) with
    | false => simp only [d33, Tr.val, H1, H2, hp, hc, cond_true, cond_false, Bool.not_true, Bool.not_false, decide_true, Bool.false_eq_true, false_and, and_false, if_false]
    | true =>
      by_cases ht : t.size = 0
      · obtain rfl := ba_nil ht
        simp only [d33, Tr.val, H1, H2, hp, hc, cond_true, cond_false, Bool.not_true, decide_true]
        rw [if_neg (fun h => h.2.2 rfl)]
      · obtain ⟨p1, p2, p3, p4, p5⟩ := U.place_at hp
        obtain ⟨a1, a2, a3, a4⟩ := U.gridR_cols (c := c) (l := l) (by unfold U.place at hp; rw [Bool.and_eq_true] at hp; exact hp.1)
        have e2 : IntKind.i64.wrap (c - 1) = c - 1 := w64 (by omega) (by omega)
        have hr : row.toNat < l.length := by omega
        have hlen := (p5 _ (U.getD_mem hr)).2
        rw [if_pos ⟨rfl, rfl, ht⟩]
        by_cases hw : w = 2
        · by_cases hcc : col = c - 1
          · subst hw
            subst hcc
            simp only [d33, Tr.val, H1, H2, hp, hc, ba_ne ht, e2, decide_true, decide_false, cond_true, cond_false, Bool.not_true, and_self, if_true]
          · have hput : (decide (0 ≤ row ∧ row < (l.length : Int) ∧ l.length ≤ 1048576) && putOK col (l.getD row.toNat U.dL).1.length w) = true := by
              unfold putOK
              rw [Bool.and_eq_true, decide_eq_true_eq, decide_eq_true_eq]
              omega
            subst hw
            simp only [d33, Tr.val, H1, H2, hp, hc, ba_ne ht, e2, hcc, hput, decide_true, decide_false, cond_true, cond_false, Bool.not_true, and_false, if_false]
        · have hput : (decide (0 ≤ row ∧ row < (l.length : Int) ∧ l.length ≤ 1048576) && putOK col (l.getD row.toNat U.dL).1.length w) = true := by
            unfold putOK
            rw [Bool.and_eq_true, decide_eq_true_eq, decide_eq_true_eq]
            omega
          simp only [d33, Tr.val, H1, H2, hp, hc, ba_ne ht, hw, hput, decide_true, decide_false, cond_true, cond_false, Bool.not_true, false_and, if_false]
def live162 (key : Nat) : Lv :=
  bif Nat.beq key 8 then { ls := [7, 8] } else bif Nat.beq key 1008 then { ls := [7] } else
  bif Nat.beq key 8888 then { ls := [41, 44] } else
  { ls := [] }
abbrev M162 (ls : Nat → VS → Option (Tr (Ex × VS))) : Env := (E0.withFns [(172, w172)]).loops live162 ls
@[reducible] def p162_0 : LP := { n := 48, sl := [.c (Leaf.row ( 0)), .d (.int .i64)], bl := [(0, .row 48 (celk))] }
def B162_0 (x1 : Int) (h0 : List Cell) : Tr (p162_0.T ⊕ (List Cell)) :=
  let v1 : Int := ((↑h0.length : Int))
  let v2 : Int := (vwHi v1 none - vwLo (some x1))
  let v3 : Int := (vwHi v1 (some x1) - (0 : Int))
  let v4 : List Cell := (sub h0 (0 : Nat) ((0 : Nat) + v3.toNat))
  Tr.ite (decide (x1 < v1))
    (Tr.ite (vwOK v1 (some x1) none)
      (Tr.ite (vwOK v1 none (some x1)) (Tr.ret (Sum.inl ((IntKind.i64.wrap (x1 + (↑(v4.length.min v2.toNat) : Int)), ()), putAt h0 (vwLo (some x1)).toNat (List.take v2.toNat v4), ()))) Tr.fail) Tr.fail)
    (Tr.ret (Sum.inr h0))
def X162_0 (r : (List Cell)) : Ex × VS := Prod.mk (Ex.exit ( 0)) { n := 48, v := [Slot.av (AV.one (Leaf.row ( 0)))], h := [( 0, Blk.row ( 48) celk r)] }
def b162_0 : p162_0.T → Tr (p162_0.T ⊕ (List Cell)) := fun ⟨⟨x1, _⟩, ⟨h0, _⟩⟩ => B162_0 x1 h0
theorem h162_0 (ls : Nat → VS → Option (Tr (Ex × VS))) (x : p162_0.T) : (evC (evI 2) (lc Tryd.f162 0) (Env.lend (M162 ls) 0) (unV (live162 8) (p162_0.V x))).map (decL 0 (live162 8) (live162 1008)) = (b162_0 x).map (encR p162_0.V X162_0) := by
  obtain ⟨⟨x1, _⟩, ⟨h0, _⟩⟩ := x; kernel_rfl
theorem c162_0 (x : p162_0.T) : canV 0 (live162 8) (unV (live162 8) (p162_0.V x)) = p162_0.V x := by
  obtain ⟨⟨x1, _⟩, ⟨h0, _⟩⟩ := x; kernel_rfl
theorem l162_0 {T : p162_0.T → Tr (List Cell)} {ls : Nat → VS → Option (Tr (Ex × VS))} (hls : ∀ x, (Env.lend (M162 ls) 0).ls 8 x = p162_0.ls (fun a => (T a).map X162_0) x) (hS : ∀ x r, (T x).val = some r → Rounds b162_0 x r) : LoopOK (evI 2) (Env.lend (M162 ls) 0) (lc Tryd.f162 0) :=
  loopA 8 (live162 8) (live162 1008) p162_0 b162_0 X162_0 T (by kernel_rfl) rfl rfl hls (h162_0 ls) c162_0 hS
def T162 (x : p162_0.T) : Tr (List Cell) :=
  .ite (decide ((x.1.1 : Int) = 1 ∧ 1 ≤ List.length (α := Cell) x.2.1 ∧ List.length (α := Cell) x.2.1 ≤ 1048576)) (.ret (List.replicate (List.length (α := Cell) x.2.1) (List.getD (α := Cell) x.2.1 0 U.dC))) .fail
abbrev E162 : Env := M162 fun key x => bif Nat.beq key 8 then p162_0.ls (fun a => (T162 a).map X162_0) x else none
theorem rep162 (c : Cell) (N : Nat) (hN : N ≤ 1048576) : ∀ (k n : Nat) (h : List Cell), N - n ≤ k → 1 ≤ n → n ≤ N → h.length = N → h.take n = List.replicate n c → Rounds b162_0 (((n : Int), ()), h, ()) (List.replicate N c) := by
  intro k
  induction k with
  | zero =>
    intro n h h1 h2 h3 h4 h5
    have : n = N := by omega
    subst this
    rw [← h5, List.take_of_length_le (by omega)]
    refine .exit ?_
    simp only [b162_0, B162_0, Tr.val, h4, show ¬ ((n : Int) < (n : Int)) by omega, decide_false, cond_false]
  | succ k ih =>
    intro n h h1 h2 h3 h4 h5
    by_cases hn : n = N
    · exact ih n h (by omega) h2 h3 h4 h5
    · have e1 : vwHi (N : Int) none - vwLo (some (n : Int)) = ((N - n : Nat) : Int) := by simp only [vwHi, vwLo]; omega
      have e2 : vwOK (N : Int) (some (n : Int)) none = true := by
        show decide (0 ≤ (n : Int) ∧ (n : Int) ≤ (N : Int) ∧ (N : Int) ≤ (N : Int)) = true
        exact decide_eq_true (by omega)
      have e3 : vwOK (N : Int) none (some (n : Int)) = true := by
        show decide ((0 : Int) ≤ 0 ∧ (0 : Int) ≤ (n : Int) ∧ (n : Int) ≤ (N : Int)) = true
        exact decide_eq_true (by omega)
      have e4 : vwHi (N : Int) (some (n : Int)) - 0 = (n : Int) := by simp only [vwHi]; omega
      have e5 : sub h 0 (0 + n) = List.replicate n c := by unfold sub; rw [Nat.zero_add, List.drop_zero, h5]
      obtain ⟨m, hm, m1, m2, m3⟩ : ∃ m, n.min (N - n) = m ∧ m ≤ n ∧ m ≤ N - n ∧ 1 ≤ m := ⟨_, rfl, Nat.min_le_left _ _, Nat.min_le_right _ _, by
        have : n.min (N - n) = min n (N - n) := rfl
        omega⟩
      have e6 : IntKind.i64.wrap ((n : Int) + (m : Int)) = ((n + m : Nat) : Int) := by
        rw [w64 (by omega) (by omega)]
        omega
      have e7 : List.take (N - n) (List.replicate n c) = List.replicate m c := by
        rw [List.take_replicate, ← hm]
        congr 1
        exact Nat.min_comm _ _
      refine .step (y := ((((n + m : Nat) : Int), ()), putAt h n (List.replicate m c), ())) ?_ (ih (n + m) _ (by omega) (by omega) (by omega) ?_ ?_)
      · simp only [b162_0, B162_0, Tr.val, h4, show ((n : Int) < (N : Int)) by omega, e1, e2, e3, e4, e5, Int.toNat_natCast, List.length_replicate, hm, e6, e7, decide_true, cond_true]
        rfl
      · simp only [putAt, List.length_append, List.length_take, List.length_drop, List.length_replicate]
        omega
      · unfold putAt
        rw [h5, ← List.append_assoc, List.replicate_append_replicate, List.take_left' (by rw [List.length_replicate])]
theorem L162 : LoopOK (evI 2) (E162.lend 0) (lc Tryd.f162 0) := by
  refine l162_0 (T := T162) (fun x => rfl) ?_
  rintro ⟨⟨n, z⟩, h, z2⟩ r hh
  obtain ⟨g1, g2⟩ := pre_val hh
  obtain ⟨e1, e2, e3⟩ := of_decide_eq_true g1
  dsimp only at e1 e2 e3 g2
  subst e1
  cases g2
  refine rep162 (h.getD 0 U.dC) h.length e3 h.length 1 h (by omega) (by omega) e2 rfl ?_
  cases h with
  | nil => simp at e2
  | cons x h => rfl
def d162 (a : List Cell) (b : Int) : Tr (List Cell) :=
  let v1 : Int := ((↑a.length : Int))
  let v2 : List Cell := (List.replicate (IntKind.i64.wrap (IntKind.u64.wrap b)).toNat (ByteArray.empty, (0 : Int), ((0 : Int), (0 : Int), (0 : Int), ()), ()))
  let v3 : List Cell := (List.take v2.length a)
  let v4 : List Cell := (putAt v2 (0 : Nat) v3)
  let v5 : Int := ((↑(a.length.min v2.length) : Int))
  Tr.ite (decide (b < (0 : Int))) Tr.fail
    (Tr.ite (decide (IntKind.u64.wrap v1 = (1 : Int) ∧ (0 : Int) ≤ IntKind.u64.wrap b ∧ IntKind.u64.wrap b < (128 : Int)))
      (Tr.ite false Tr.fail
        (Tr.ite (decide ((9223372036854775807 : Int) < IntKind.u64.wrap b)) Tr.fail
          (Tr.ite
            (decide
              ((0 : Int) ≤ IntKind.i64.wrap (IntKind.u64.wrap b) ∧
                IntKind.i64.wrap (IntKind.u64.wrap b) ≤ IntKind.i64.wrap (IntKind.u64.wrap b) ∧ (IntKind.i64.wrap (IntKind.u64.wrap b)).toNat * (48 : Nat) ≤ (140737488355328 : Nat)))
            (Tr.ite (decide (v5 = (1 : Int) ∧ (1 : Nat) ≤ v4.length ∧ v4.length ≤ (1048576 : Nat))) (Tr.ret (List.replicate v4.length (v4.getD (0 : Nat) U.dC))) Tr.fail) Tr.fail)))
      Tr.fail)
def e162 (r : List Cell) : FRes := { rs := Slot.av (AV.one (Leaf.dat celk.sl r)), upd := [], new := [] }
@[reducible] def a162 : List AK := [AK.d celk.sl, AK.d (.int .i64)]
@[reducible] def b162 : List BK := []
theorem t162 (a : List Cell) (b : Int) : evFn (E162) Tryd.f162 [PM.data celk.sl] (akAV a162 (a, b, ())) (bkBs b162 ()) = (d162 a b).map e162 := by kernel_rfl
def s162 (C : akT a162 → Bool) (G : akT a162 → List Cell) : FSpec := aspec a162 b162 e162 (fun x _ => C x) (fun x _ => G x)
theorem k162 {C : akT a162 → Bool} {G : akT a162 → List Cell} (hd : ∀ (a : List Cell) (b : Int), C (a, b, ()) = true → (d162 a b).val = some (G (a, b, ()))) (IO : ItOK Tryd.prog (E162) := by exact itOK_none rfl) (L : ∀ c, Tryd.f162.body = some c → LsOK (evI 2) ((E162).lend 0) c := by exact fun c _ => LsOK_none rfl c) : SpecOK Tryd.prog E0 162 (s162 C G) :=
  aspec_ok (ak := a162) (bl := b162) (e := e162) (c := fun x _ => C x) (g := fun x _ => G x) (E0 := E0) (E := E162) tab (.cons wk172 .nil) rfl rfl hm Tryd.func162 (by kernel_rfl) [PM.data celk.sl] (fun X Y H => by obtain ⟨a, ⟨b, _⟩⟩ := X; exact val_of (t162 a b) (hd a b H)) IO L
abbrev w162 : FSpec := s162 (fun x => decide (List.length (α := Cell) x.1 = 1 ∧ 1 ≤ (x.2.1 : Int) ∧ (x.2.1 : Int) < 128)) fun x => List.replicate x.2.1.toNat (List.getD (α := Cell) x.1 0 U.dC)
theorem wk162 : SpecOK Tryd.prog E0 162 w162 := by
  refine k162 (fun l n H => ?_) (L := ls_ok (lcs := [lc Tryd.f162 0]) (rgs := []) (by kernel_rfl) (by kernel_rfl) L162 trivial)
  have H : (l.length = 1 ∧ (1 : Int) ≤ n ∧ (n : Int) < 128) := of_decide_eq_true H
  obtain ⟨h1, h2, h3⟩ := H
  obtain ⟨m, rfl⟩ := Int.eq_ofNat_of_zero_le (a := n) (Int.le_trans (by decide) h2)
  have h4 : 1 ≤ m ∧ m < 128 := by omega
  have u1 : IntKind.u64.wrap (m : Int) = (m : Int) := by simp [IntKind.wrap, IntKind.signed, IntKind.bits]; omega
  have u2 : IntKind.i64.wrap (m : Int) = (m : Int) := w64 (by omega) (by omega)
  have u3 : IntKind.u64.wrap 1 = 1 := by decide
  match l, h1 with
  | [x], _ =>
    have e1 : List.take m [x] = [x] := List.take_of_length_le (by simp; omega)
    show _ = some (List.replicate m x)
    have e2 : Nat.min 1 m = 1 := Nat.min_eq_left h4.1
    have e3 : (putAt (List.replicate m ((ByteArray.empty, (0 : Int), ((0 : Int), (0 : Int), (0 : Int), ()), ()) : Cell)) 0 [x]).length = m := by
      simp only [putAt, List.length_append, List.length_take, List.length_drop, List.length_replicate, List.length_cons, List.length_nil]
      omega
    have e4 : ∀ (q : List Cell), (putAt q 0 [x]).getD 0 U.dC = x := fun q => rfl
    have a1 : (0 : Int) ≤ (m : Int) := by omega
    have a2 : (m : Int) < 128 := by omega
    have a3 : (m : Int) ≤ (m : Int) := by omega
    have a4 : m * 48 ≤ 140737488355328 := by omega
    have a5 : 1 ≤ m := by omega
    have a6 : m ≤ 1048576 := by omega
    simp only [d162, Tr.val, u1, u2, Int.toNat_natCast, List.length_replicate, List.length_cons, List.length_nil, Nat.zero_add, e1, e2, e4, show ((1 : Nat) : Int) = 1 from rfl, u3, show ¬ ((m : Int) < 0) by omega, show ¬ ((9223372036854775807 : Int) < (m : Int)) by omega, decide_true, decide_false, cond_true, cond_false]
    simp only [e3, a1, a2, a3, a4, a5, a6, and_self, true_and, decide_true, cond_true]
def d150 (a : Int) (b1 : Int) (b2 : Int) (b3 : Int) : Tr (List Cell × Bool) :=
  Tr.ite (decide ((1 : Nat) = (1 : Nat) ∧ (1 : Int) ≤ a ∧ a < (128 : Int)))
    (Tr.ret (List.replicate a.toNat ([(ByteArray.empty, (1 : Int), ((0 : Int), b2, (0 : Int), ()), ())].getD (0 : Nat) U.dC), false)) Tr.fail
def e150 (r : List Cell × Bool) : FRes := { rs := Slot.av (AV.agg [Leaf.dat celk.sl r.fst, Leaf.dat Kd.bool r.snd]), upd := [], new := [] }
@[reducible] def a150 : List AK := [AK.d (.int .i64), AK.d attk]
@[reducible] def b150 : List BK := []
theorem t150 (a : Int) (b1 : Int) (b2 : Int) (b3 : Int) : evFn (E0.withFns [((88 : Nat), w88), ((162 : Nat), w162)]) Tryd.f150 [PM.data link] (akAV a150 (a, (b1, b2, b3, ()), ())) (bkBs b150 ()) = (d150 a b1 b2 b3).map e150 := by kernel_rfl
def s150 (C : akT a150 → Bool) (G : akT a150 → List Cell × Bool) : FSpec := aspec a150 b150 e150 (fun x _ => C x) (fun x _ => G x)
theorem k150 {C : akT a150 → Bool} {G : akT a150 → List Cell × Bool} (hd : ∀ (a : Int) (b1 : Int) (b2 : Int) (b3 : Int), C (a, (b1, b2, b3, ()), ()) = true → (d150 a b1 b2 b3).val = some (G (a, (b1, b2, b3, ()), ()))) (IO : ItOK Tryd.prog (E0.withFns [((88 : Nat), w88), ((162 : Nat), w162)]) := by exact itOK_none rfl) (L : ∀ c, Tryd.f150.body = some c → LsOK (evI 2) ((E0.withFns [((88 : Nat), w88), ((162 : Nat), w162)]).lend 0) c := by exact fun c _ => LsOK_none rfl c) : SpecOK Tryd.prog E0 150 (s150 C G) :=
  aspec_ok (ak := a150) (bl := b150) (e := e150) (c := fun x _ => C x) (g := fun x _ => G x) (E0 := E0) (E := E0.withFns [((88 : Nat), w88), ((162 : Nat), w162)]) tab (.cons wk88 (.cons wk162 .nil)) rfl rfl hm Tryd.func150 (by kernel_rfl) [PM.data link] (fun X Y H => by obtain ⟨a, ⟨⟨b1, ⟨b2, ⟨b3, _⟩⟩⟩, _⟩⟩ := X; exact val_of (t150 a b1 b2 b3) (hd a b1 b2 b3 H)) IO L
abbrev w150 : FSpec := s150 (fun x => decide (1 ≤ (x.1 : Int) ∧ (x.1 : Int) < 128)) fun x => (List.replicate x.1.toNat (U.blank x.2.1), false)
theorem wk150 : SpecOK Tryd.prog E0 150 w150 := by
  refine k150 fun n a b c H => ?_
  have H : (1 : Int) ≤ n ∧ (n : Int) < 128 := of_decide_eq_true H
  simp only [d150, Tr.val, H, and_self, decide_true, cond_true]
  rfl
def live117 (key : Nat) : Lv :=
  bif Nat.beq key 3 then { ls := [0, 5, 7, 8, 9], wd := [⟨7, none, .row 34 link⟩] } else bif Nat.beq key 1003 then { ls := [7] } else
  { ls := [] }
abbrev M117 (ls : Nat → VS → Option (Tr (Ex × VS))) : Env := (E0.withFns [(150, w150)]).loops live117 ls
@[reducible] def p117_0 : LP := { n := 19, sl := [.d (.int .i64), .c (Leaf.ptr ( 0) ( 0)), .c (Leaf.row ( 1)), .d (.int .i64), .d (.int .i64)], bl := [(0, .box [.d (.int .i64), .d (.int .i64), .d (.int .i64)]), (1, .row 34 (link))] }
def B117_0 (x0 : Int) (x3 : Int) (x4 : Int) (h0_0 : Int) (h0_1 : Int) (h0_2 : Int) (h1 : List Line) : Tr (p117_0.T ⊕ (List Line)) :=
  Tr.ite (decide (x4 < x3))
    (Tr.ite (decide ((1 : Int) ≤ x0 ∧ x0 < (128 : Int)))
      (Tr.ite (decide ((h1.length + (1 : Nat)) * (32 : Nat) ≤ (140737488355328 : Nat)))
        (Tr.ret (Sum.inl ((x0, x3, IntKind.i64.wrap (x4 + (1 : Int)), ()), (h0_0, h0_1, h0_2, ()), h1 ++ [(List.replicate x0.toNat (U.blank (h0_0, h0_1, h0_2, ())), false, ())], ()))) Tr.fail)
      Tr.fail)
    (Tr.ret (Sum.inr h1))
def X117_0 (r : (List Line)) : Ex × VS := Prod.mk (Ex.exit ( 0)) { n := 19, v := [Slot.av (AV.one (Leaf.row ( 0)))], h := [( 0, Blk.row ( 34) link r)] }
def b117_0 : p117_0.T → Tr (p117_0.T ⊕ (List Line)) := fun ⟨⟨x0, ⟨x3, ⟨x4, _⟩⟩⟩, ⟨⟨h0_0, ⟨h0_1, ⟨h0_2, _⟩⟩⟩, ⟨h1, _⟩⟩⟩ => B117_0 x0 x3 x4 h0_0 h0_1 h0_2 h1
theorem h117_0 (ls : Nat → VS → Option (Tr (Ex × VS))) (x : p117_0.T) : (evC (evI 2) (lc Tryd.f117 0) (Env.lend (M117 ls) 0) (unV (live117 3) (p117_0.V x))).map (decL 0 (live117 3) (live117 1003)) = (b117_0 x).map (encR p117_0.V X117_0) := by
  obtain ⟨⟨x0, ⟨x3, ⟨x4, _⟩⟩⟩, ⟨⟨h0_0, ⟨h0_1, ⟨h0_2, _⟩⟩⟩, ⟨h1, _⟩⟩⟩ := x; kernel_rfl
theorem c117_0 (x : p117_0.T) : canV 0 (live117 3) (unV (live117 3) (p117_0.V x)) = p117_0.V x := by
  obtain ⟨⟨x0, ⟨x3, ⟨x4, _⟩⟩⟩, ⟨⟨h0_0, ⟨h0_1, ⟨h0_2, _⟩⟩⟩, ⟨h1, _⟩⟩⟩ := x; kernel_rfl
theorem l117_0 {T : p117_0.T → Tr (List Line)} {ls : Nat → VS → Option (Tr (Ex × VS))} (hls : ∀ x, (Env.lend (M117 ls) 0).ls 3 x = p117_0.ls (fun a => (T a).map X117_0) x) (hS : ∀ x r, (T x).val = some r → Rounds b117_0 x r) : LoopOK (evI 2) (Env.lend (M117 ls) 0) (lc Tryd.f117 0) :=
  loopA 3 (live117 3) (live117 1003) p117_0 b117_0 X117_0 T (by kernel_rfl) rfl rfl hls (h117_0 ls) c117_0 hS
theorem fold_rep {α : Type} (c : α) : ∀ (k i : Nat) (a : List α), (List.range' i k).foldl (fun s _ => s ++ [c]) a = a ++ List.replicate k c
  | 0, _, a => by simp
  | k + 1, i, a => by rw [List.range'_succ, List.foldl_cons, fold_rep c k, List.append_assoc, List.replicate_succ]; rfl
def T117 (x : p117_0.T) : Tr (List Line) :=
  .ite (decide ((x.1.2.2.1 : Int) = 0 ∧ 0 ≤ (x.1.2.1 : Int) ∧ (x.1.2.1 : Int) ≤ 1000 ∧ 1 ≤ (x.1.1 : Int) ∧ (x.1.1 : Int) < 128 ∧ List.length (α := Line) x.2.2.1 ≤ 1000))
    (.ret (x.2.2.1 ++ List.replicate x.1.2.1.toNat (List.replicate x.1.1.toNat (U.blank (x.2.1.1, x.2.1.2.1, x.2.1.2.2.1, ())), false, ()))) .fail
abbrev E117 : Env := M117 fun key x => bif Nat.beq key 3 then p117_0.ls (fun a => (T117 a).map X117_0) x else none
theorem L117 : LoopOK (evI 2) (E117.lend 0) (lc Tryd.f117 0) := by
  refine l117_0 (T := T117) (fun x => rfl) ?_
  rintro ⟨⟨c, n, i, z⟩, ⟨a, b, d, z1⟩, h, z2⟩ r hh
  obtain ⟨g1, g2⟩ := pre_val hh
  have g1 : ((i : Int) = 0 ∧ (0 : Int) ≤ n ∧ (n : Int) ≤ 1000 ∧ (1 : Int) ≤ c ∧ (c : Int) < 128 ∧ h.length ≤ 1000) := of_decide_eq_true g1
  obtain ⟨rfl, e2, e3, e4, e5, e6⟩ := g1
  obtain ⟨m, rfl⟩ := Int.eq_ofNat_of_zero_le (a := n) e2
  have e3' : m ≤ 1000 := by
    have : (m : Int) ≤ 1000 := e3
    omega
  cases g2
  have := Rounds.uptoA (B := b117_0) (σ := List Line) (N := m) (fun i s => ((c, (m : Int), (i : Int), ()), (a, b, d, ()), s, ())) (fun _ s => s ++ [(List.replicate c.toNat (U.blank (a, b, d, ())), false, ())]) (fun s => s) (fun i s => s.length ≤ 1000 + i) (fun i s hi hv => ?_) (fun s hv => ?_) m 0 h (by omega) (by omega)
  · rw [fold_rep] at this
    exact this
  · have e8 : (s.length + 1) * 32 ≤ 140737488355328 := by omega
    refine ⟨?_, by simp only [List.length_append, List.length_singleton]; omega⟩
    simp only [b117_0, B117_0, Tr.val, e4, e5, e8, show ((i : Int) < (m : Int)) by omega, and_self, decide_true, cond_true, wrap64_nat (show i ≤ 1048576 by omega)]
  · simp only [b117_0, B117_0, Tr.val, show ¬ ((m : Int) < (m : Int)) by omega, decide_false, cond_false]
def d117 (a : Int) (b : Int) (c1 : Int) (c2 : Int) (c3 : Int) : Tr (List (List U.Cl × Bool × Unit)) :=
  Tr.ite (decide ((0 : Int) = (0 : Int) ∧ (0 : Int) ≤ b ∧ b ≤ (1000 : Int) ∧ (1 : Int) ≤ a ∧ a < (128 : Int) ∧ (0 : Nat) ≤ (1000 : Nat)))
    (Tr.ret (List.replicate b.toNat (List.replicate a.toNat (U.blank (c1, c2, c3, ())), false, ()))) Tr.fail
def e117 (r : List (List U.Cl × Bool × Unit)) : FRes := { rs := Slot.av (AV.one (Leaf.dat link.sl r)), upd := [], new := [] }
@[reducible] def a117 : List AK := [AK.d (.int .i64), AK.d (.int .i64), AK.d attk]
@[reducible] def b117 : List BK := []
theorem t117 (a : Int) (b : Int) (c1 : Int) (c2 : Int) (c3 : Int) : evFn (E117) Tryd.f117 [PM.data link.sl] (akAV a117 (a, b, (c1, c2, c3, ()), ())) (bkBs b117 ()) = (d117 a b c1 c2 c3).map e117 := by kernel_rfl
def s117 (C : akT a117 → Bool) (G : akT a117 → List (List U.Cl × Bool × Unit)) : FSpec := aspec a117 b117 e117 (fun x _ => C x) (fun x _ => G x)
theorem k117 {C : akT a117 → Bool} {G : akT a117 → List (List U.Cl × Bool × Unit)} (hd : ∀ (a : Int) (b : Int) (c1 : Int) (c2 : Int) (c3 : Int), C (a, b, (c1, c2, c3, ()), ()) = true → (d117 a b c1 c2 c3).val = some (G (a, b, (c1, c2, c3, ()), ()))) (IO : ItOK Tryd.prog (E117) := by exact itOK_none rfl) (L : ∀ c, Tryd.f117.body = some c → LsOK (evI 2) ((E117).lend 0) c := by exact fun c _ => LsOK_none rfl c) : SpecOK Tryd.prog E0 117 (s117 C G) :=
  aspec_ok (ak := a117) (bl := b117) (e := e117) (c := fun x _ => C x) (g := fun x _ => G x) (E0 := E0) (E := E117) tab (.cons wk150 .nil) rfl rfl hm Tryd.func117 (by kernel_rfl) [PM.data link.sl] (fun X Y H => by obtain ⟨a, ⟨b, ⟨⟨c1, ⟨c2, ⟨c3, _⟩⟩⟩, _⟩⟩⟩ := X; exact val_of (t117 a b c1 c2 c3) (hd a b c1 c2 c3 H)) IO L
abbrev w117 : FSpec := s117 (fun x => decide (1 ≤ (x.1 : Int) ∧ (x.1 : Int) < 128 ∧ 0 ≤ (x.2.1 : Int) ∧ (x.2.1 : Int) ≤ 1000)) fun x => List.replicate x.2.1.toNat (List.replicate x.1.toNat (U.blank x.2.2.1), false, ())
theorem wk117 : SpecOK Tryd.prog E0 117 w117 := by
  refine k117 (fun c n a b d H => ?_) (L := ls_ok (lcs := [lc Tryd.f117 0]) (rgs := []) (by kernel_rfl) (by kernel_rfl) L117 trivial)
  have H : (1 : Int) ≤ c ∧ (c : Int) < 128 ∧ (0 : Int) ≤ n ∧ (n : Int) ≤ 1000 := of_decide_eq_true H
  obtain ⟨h1, h2, h3, h4⟩ := H
  simp only [d117, Tr.val, h1, h2, h3, h4, and_self, decide_true, cond_true, List.length_nil, Nat.zero_le, List.nil_append]
def d85 (a : Int) (b : Int) : Tr (Int × List Line × Int) :=
  Tr.ite (!U.inn a (1 : Int) (80 : Int)) (Tr.ret ((0 : Int), [], (1 : Int)))
    (Tr.ite (!U.inn b (1 : Int) (50 : Int)) (Tr.ret ((0 : Int), [], (1 : Int)))
      (Tr.ite (decide ((1 : Int) ≤ a ∧ a < (128 : Int) ∧ (0 : Int) ≤ b ∧ b ≤ (1000 : Int)))
        (Tr.ret (a, List.replicate b.toNat (List.replicate a.toNat (U.blank ((0 : Int), (0 : Int), (0 : Int), ())), false, ()), (0 : Int))) Tr.fail))
def e85 (r : Int × List Line × Int) : FRes := { rs := Slot.tup [AV.agg [Leaf.dat (.int .i64) r.fst, Leaf.dat link.sl r.snd.fst], AV.one (Leaf.dat (.int .i64) r.snd.snd)], upd := [], new := [] }
@[reducible] def a85 : List AK := [AK.d (.int .i64), AK.d (.int .i64)]
@[reducible] def b85 : List BK := []
theorem t85 (a : Int) (b : Int) : evFn (E0.withFns [((93 : Nat), w93), ((117 : Nat), w117)]) Tryd.f85 [PM.data gridk, PM.data (.int .i64)] (akAV a85 (a, b, ())) (bkBs b85 ()) = (d85 a b).map e85 := by kernel_rfl
def s85' (G : akT a85 → Int × List Line × Int) : FSpec := aspec0 a85 b85 e85 (fun x _ => G x)
theorem k85' {G : akT a85 → Int × List Line × Int} (hd : ∀ (a : Int) (b : Int), (d85 a b).val = some (G (a, b, ()))) (IO : ItOK Tryd.prog (E0.withFns [((93 : Nat), w93), ((117 : Nat), w117)]) := by exact itOK_none rfl) (L : ∀ c, Tryd.f85.body = some c → LsOK (evI 2) ((E0.withFns [((93 : Nat), w93), ((117 : Nat), w117)]).lend 0) c := by exact fun c _ => LsOK_none rfl c) : SpecOK Tryd.prog E0 85 (s85' G) :=
  aspec0_ok (ak := a85) (bl := b85) (e := e85) (g := fun x _ => G x) (E0 := E0) (E := E0.withFns [((93 : Nat), w93), ((117 : Nat), w117)]) tab (.cons wk93 (.cons wk117 .nil)) rfl rfl hm Tryd.func85 (by kernel_rfl) [PM.data gridk, PM.data (.int .i64)] (fun X Y => by obtain ⟨a, ⟨b, _⟩⟩ := X; exact val_of (t85 a b) (hd a b)) IO L
end Go.Proofs.YtmnbcnhpklejcaaDoor
namespace U
def rawNew (c r : Int) : Int × List Ln × Int := if inn c 1 80 = true ∧ inn r 1 50 = true then (c, List.replicate r.toNat (List.replicate c.toNat (blank (0, 0, 0, ())), false, ()), 0) else (0, [], 1)
end U
namespace Go.Proofs.YtmnbcnhpklejcaaDoor
abbrev w85 : FSpec := s85' fun x => U.rawNew x.1 x.2.1
theorem wk85 : SpecOK Tryd.prog E0 85 w85 := by
  refine k85' fun c r => ?_
  show _ = some (U.rawNew c r)
  unfold U.rawNew
  cases h1 : U.inn c 1 80 with
  | false => simp only [d85, Tr.val, h1, Bool.not_false, cond_true, Bool.false_eq_true, false_and, if_false]
  | true =>
    cases h2 : U.inn r 1 50 with
    | false => simp only [d85, Tr.val, h1, h2, Bool.not_false, Bool.not_true, cond_true, cond_false, Bool.false_eq_true, and_false, if_false]
    | true =>
      obtain ⟨a1, a2⟩ := U.inn_iff.1 h1
      obtain ⟨b1, b2⟩ := U.inn_iff.1 h2
      simp only [d85, Tr.val, h1, h2, Bool.not_true, cond_true, cond_false, a1, show c < 128 by omega, show 0 ≤ r by omega, show r ≤ 1000 by omega, and_self, decide_true, if_true]
def d29 : Tr (Bool) :=
  Tr.ite true
    (Tr.ite true (Tr.ite true (Tr.ite true (Tr.ite true (Tr.ite true (Tr.ite true (Tr.ite true (Tr.ret true) Tr.fail) Tr.fail) (Tr.ret false)) Tr.fail) (Tr.ret false)) (Tr.ret false)) (Tr.ret false))
    Tr.fail
def e29 (r : Bool) : FRes := { rs := Slot.av (AV.one (Leaf.dat Kd.bool r)), upd := [], new := [] }
@[reducible] def a29 : List AK := []
@[reducible] def b29 : List BK := []
theorem t29 : evFn (E0.withFns [((85 : Nat), w85), ((33 : Nat), w33)]) Tryd.f29 [PM.data Kd.bool] (akAV a29 ()) (bkBs b29 ()) = (d29).map e29 := by kernel_rfl
def s29' (G : akT a29 → Bool) : FSpec := aspec0 a29 b29 e29 (fun x _ => G x)
theorem k29' {G : akT a29 → Bool} (hd : (d29).val = some (G ())) (IO : ItOK Tryd.prog (E0.withFns [((85 : Nat), w85), ((33 : Nat), w33)]) := by exact itOK_none rfl) (L : ∀ c, Tryd.f29.body = some c → LsOK (evI 2) ((E0.withFns [((85 : Nat), w85), ((33 : Nat), w33)]).lend 0) c := by exact fun c _ => LsOK_none rfl c) : SpecOK Tryd.prog E0 29 (s29' G) :=
  aspec0_ok (ak := a29) (bl := b29) (e := e29) (g := fun x _ => G x) (E0 := E0) (E := E0.withFns [((85 : Nat), w85), ((33 : Nat), w33)]) tab (.cons wk85 (.cons wk33 .nil)) rfl rfl hm Tryd.func29 (by kernel_rfl) [PM.data Kd.bool] (fun X Y => by exact val_of (t29) (hd)) IO L
abbrev w29 : FSpec := s29' fun _ => true
theorem wk29 : SpecOK Tryd.prog E0 29 w29 := k29' rfl
end Go.Proofs.YtmnbcnhpklejcaaDoor

end
section
set_option linter.unusedVariables false
set_option linter.unusedSimpArgs false
set_option maxRecDepth 20000
open Go Go.Ev
namespace U
end U
namespace Go.Proofs.YtmnbcnhpklejcaaDoor
open Go.RowKit
abbrev G5 : List (Nat × FSpec) := [(25, w25), (27, w27), (28, w28), (29, w29), (30, w30), (31, w31)]
theorem AG5 : AllFn Tryd.prog E0 G5 := .cons wk25 (.cons wk27 (.cons wk28 (.cons wk29 (.cons wk30 (.cons wk31 .nil)))))
def live5 (key : Nat) : Lv :=
  bif Nat.beq key 3 then { ls := [1, 9, 10, 11] } else bif Nat.beq key 1003 then { ls := [1, 2] } else
  { ls := [] }
abbrev M5 (ls : Nat → VS → Option (Tr (Ex × VS))) : Env := (E0.withFns G5).loops live5 ls
@[reducible] def p5_0 : LP := { n := 50, sl := [.c (Leaf.ptr ( 0) ( 0)), .d (celk.sl), .d (.int .i64), .d (.int .i64)], bl := [(0, .box [.d (celk.sl), .d (Kd.bool)])] }
def B5_0 (x1 : List Cell) (x2 : Int) (x3 : Int) (h0_0 : List Cell) (h0_1 : Bool) : Tr (p5_0.T ⊕ (Bool × List Cell × Bool ⊕ List Cell × Bool)) :=
  Tr.ite (decide (x3 < x2))
    (Tr.ite (inB x3 x1.length)
      (Tr.ite (decide (ByteArray.size (rget celk x1 x3).fst ≤ (1048576 : Nat)))
        (Tr.ite (!U.cellR (rget celk x1 x3)) (Tr.ret (Sum.inr (Sum.inl (true, h0_0, h0_1)))) (Tr.ret (Sum.inl ((x1, x2, IntKind.i64.wrap (x3 + (1 : Int)), ()), (h0_0, h0_1, ()), ())))) Tr.fail)
      Tr.fail)
    (Tr.ret (Sum.inr (Sum.inr (h0_0, h0_1))))
def X5_0 : (Bool × List Cell × Bool ⊕ List Cell × Bool) → Ex × VS
  | (.inl r) => Prod.mk Ex.ret { n := 50, v := [Slot.av (AV.one (Leaf.ptr ( 0) ( 0))), Slot.av (AV.one (Leaf.dat Kd.bool r.fst))], h := [( 0, Blk.box [Leaf.dat celk.sl r.snd.fst, Leaf.dat Kd.bool r.snd.snd])] }
  | (.inr r) => Prod.mk (Ex.exit ( 0)) { n := 50, v := [Slot.av (AV.one (Leaf.ptr ( 0) ( 0))), Slot.av (AV.one Leaf.undef)], h := [( 0, Blk.box [Leaf.dat celk.sl r.fst, Leaf.dat Kd.bool r.snd])] }
def b5_0 : p5_0.T → Tr (p5_0.T ⊕ (Bool × List Cell × Bool ⊕ List Cell × Bool)) := fun ⟨⟨x1, ⟨x2, ⟨x3, _⟩⟩⟩, ⟨⟨h0_0, ⟨h0_1, _⟩⟩, _⟩⟩ => B5_0 x1 x2 x3 h0_0 h0_1
theorem h5_0 (ls : Nat → VS → Option (Tr (Ex × VS))) (x : p5_0.T) : (evC (evI 2) (lc Tryd.f5 0) (Env.lend (M5 ls) 0) (unV (live5 3) (p5_0.V x))).map (decL 0 (live5 3) (live5 1003)) = (b5_0 x).map (encR p5_0.V X5_0) := by
  obtain ⟨⟨x1, ⟨x2, ⟨x3, _⟩⟩⟩, ⟨⟨h0_0, ⟨h0_1, _⟩⟩, _⟩⟩ := x; kernel_rfl
def T5 (x : p5_0.T) : Tr (Bool × List Cell × Bool ⊕ List Cell × Bool) :=
  .ite (decide ((x.1.2.1 : Int) = (List.length (α := Cell) x.1.1 : Int) ∧ (x.1.2.2.1 : Int) = 0) && U.okc x.1.1)
    (.ite (allN (fun i => U.cellR (List.getD (α := Cell) x.1.1 i U.dC)) (List.length (α := Cell) x.1.1) 0) (.ret (.inr (x.2.1.1, x.2.1.2.1))) (.ret (.inl (true, x.2.1.1, x.2.1.2.1)))) .fail
abbrev E5 : Env := M5 fun key x => bif Nat.beq key 3 then p5_0.ls (fun a => (T5 a).map X5_0) x else none
def d5 (a1 : List Cell) (a2 : Bool) : Tr (Bool) :=
  let v1 : Int := ((↑(U.cutL a1).length : Int))
  let v2 : Int := ((↑(U.cutL a1).length : Int))
  let v3 : Int := ((↑(U.mend (U.cutL a1)).length : Int))
  Tr.ite (decide (v2 = v1 ∧ (0 : Int) = (0 : Int)) && U.okc (U.cutL a1))
    (Tr.ite (allN (fun (i : Nat) => U.cellR ((U.cutL a1).getD i U.dC)) (U.cutL a1).length (0 : Nat))
      (Tr.ite (decide ((U.cutL a1).length ≤ (1048576 : Nat)))
        (Tr.ite (U.okc (U.mend (U.cutL a1)))
          (Tr.ite (!(U.fitC (U.mend (U.cutL a1)) && decide (v3 = v2))) (Tr.ret false)
            (Tr.ite (decide ((U.mend (U.cutL a1)).length ≤ (1048576 : Nat)))
              (Tr.ite (decide ((U.mend (U.mend (U.cutL a1))).length ≤ (1048576 : Nat)))
                (Tr.ite (!U.eqL (U.mend (U.mend (U.cutL a1)), a2, ()) (U.mend (U.cutL a1), a2, ())) (Tr.ret false)
                  (Tr.ite false (Tr.ret false)
                    (Tr.ite (U.okc (U.cutL a1))
                      (Tr.ite (!(U.fitC (U.cutL a1) && decide (v1 = v2))) (Tr.ret true)
                        (Tr.ite (decide ((U.mend (U.cutL a1)).length ≤ (1048576 : Nat))) (Tr.ret (U.eqL (U.mend (U.cutL a1), a2, ()) (U.cutL a1, a2, ()))) Tr.fail))
                      Tr.fail)))
                Tr.fail)
              Tr.fail))
          Tr.fail)
        Tr.fail)
      (Tr.ret true))
    Tr.fail
def e5 (r : Bool) : FRes := { rs := Slot.av (AV.one (Leaf.dat Kd.bool r)), upd := [], new := [] }
@[reducible] def a5 : List AK := [AK.d link]
@[reducible] def b5 : List BK := []
theorem t5 (a1 : List Cell) (a2 : Bool) : evFn (E5) Tryd.f5 [PM.data Kd.bool] (akAV a5 ((a1, a2, ()), ())) (bkBs b5 ()) = (d5 a1 a2).map e5 := by kernel_rfl
def s5 (C : akT a5 → Bool) (G : akT a5 → Bool) : FSpec := aspec a5 b5 e5 (fun x _ => C x) (fun x _ => G x)
theorem k5 {C : akT a5 → Bool} {G : akT a5 → Bool} (hd : ∀ (a1 : List Cell) (a2 : Bool), C ((a1, a2, ()), ()) = true → (d5 a1 a2).val = some (G ((a1, a2, ()), ()))) (IO : ItOK Tryd.prog (E5) := by exact itOK_none rfl) (L : ∀ c, Tryd.f5.body = some c → LsOK (evI 2) ((E5).lend 0) c := by exact fun c _ => LsOK_none rfl c) : SpecOK Tryd.prog E0 5 (s5 C G) :=
  aspec_ok (ak := a5) (bl := b5) (e := e5) (c := fun x _ => C x) (g := fun x _ => G x) (E0 := E0) (E := E5) tab AG5 rfl rfl hm Tryd.func5 (by kernel_rfl) [PM.data Kd.bool] (fun X Y H => by obtain ⟨⟨a1, ⟨a2, _⟩⟩, _⟩ := X; exact val_of (t5 a1 a2) (hd a1 a2 H)) IO L
end Go.Proofs.YtmnbcnhpklejcaaDoor
namespace U
end U
namespace Go.Proofs.YtmnbcnhpklejcaaDoor
end Go.Proofs.YtmnbcnhpklejcaaDoor

end
section
set_option linter.unusedVariables false
set_option linter.unusedSimpArgs false
set_option maxRecDepth 20000
set_option maxHeartbeats 8000000
open Go Go.Ev
namespace Go.Proofs.YtmnbcnhpklejcaaDoor
open Go.RowKit
def e6 (r : Bool) : FRes := { rs := Slot.av (AV.one (Leaf.dat Kd.bool r)), upd := [], new := [] }
end Go.Proofs.YtmnbcnhpklejcaaDoor

end
section
set_option linter.unusedVariables false
set_option linter.unusedSimpArgs false
set_option maxRecDepth 20000
set_option maxHeartbeats 4000000
open Go Go.Ev
namespace U
end U
namespace Go.Proofs.YtmnbcnhpklejcaaDoor
open Go.RowKit
namespace In
end In
namespace De
end De
end Go.Proofs.YtmnbcnhpklejcaaDoor
namespace U
def downL (l : List Ln) (t b m : Nat) (x : Ln) : List Ln := l.take t ++ (List.replicate m x ++ ((l.take (b + 1 - m)).drop t ++ l.drop (b + 1)))
def bareL (c : Int) (a : Int × Int × Int × Unit) : Ln := (List.replicate c.toNat (blank a), false, ())
def cnt (t b n : Int) : Nat := min n.toNat (b.toNat + 1 - t.toNat)
end U
namespace Go.Proofs.YtmnbcnhpklejcaaDoor
end Go.Proofs.YtmnbcnhpklejcaaDoor

end
section
set_option linter.unusedVariables false
set_option linter.unusedSimpArgs false
set_option maxRecDepth 20000
set_option maxHeartbeats 4000000
open Go Go.Ev
namespace U
end U
namespace Go.Proofs.YtmnbcnhpklejcaaDoor
open Go.RowKit
abbrev goOK (t b c : Int) (N : Nat) : Bool := decide (0 ≤ t ∧ t ≤ b ∧ b < (N : Int) ∧ N ≤ 1000 ∧ 0 ≤ c ∧ c ≤ 1000)
def e64 (r : Int × List U.Ln) : FRes := { rs := Slot.av (AV.agg [Leaf.dat (.int .i64) r.fst, Leaf.dat (Kd.sl link) r.snd]), upd := [], new := [] }
@[reducible] def a64 : List AK := [AK.d gridk, AK.d (.int .i64), AK.d (.int .i64), AK.d (.int .i64), AK.d attk]
@[reducible] def b64 : List BK := []
def s64 (C : akT a64 → Bool) (G : akT a64 → Int × List U.Ln) : FSpec := aspec a64 b64 e64 (fun x _ => C x) (fun x _ => G x)
abbrev w64 : FSpec := s64 (fun x => decide (0 ≤ (x.2.2.2.1 : Int)) && goOK x.2.1 x.2.2.1 x.1.1 (List.length (α := Line) x.1.2.1)) fun x => (x.1.1, U.downL x.1.2.1 x.2.1.toNat x.2.2.1.toNat (U.cnt x.2.1 x.2.2.1 x.2.2.2.1) (U.bareL x.1.1 x.2.2.2.2.1))
def e10 (r : Bool) : FRes := { rs := Slot.av (AV.one (Leaf.dat Kd.bool r)), upd := [], new := [] }
end Go.Proofs.YtmnbcnhpklejcaaDoor

end
section
set_option linter.unusedVariables false
set_option linter.unusedSimpArgs false
set_option maxRecDepth 20000
set_option maxHeartbeats 4000000
open Go Go.Ev
namespace Go.Proofs.YtmnbcnhpklejcaaDoor
open Go.RowKit
def w161 : FSpec := { ps := [.raw], g := fun args bs => match args with
  | [.one (.ptr 0 0)] => some { rs := .av (.one (.ptr 0 0)), upd := bs }
  | _ => none }
theorem wk161 : SpecOK Tryd.prog E0 161 w161 := by
  intro F O args bs r hr
  unfold w161 at hr
  simp only at hr
  split at hr
  · cases hr
    intro hc w K A vs H hv
    cases hv with
    | cons h0 h1 =>
      cases h1
      rename_i v
      refine .inl ⟨v, w, ?_, K, A, by rw [List.append_nil]; exact H, by rw [List.append_nil]; exact Ext.refl _ _ _ _, by rw [List.append_nil]; exact h0, rfl⟩
      rw [run_callFunc_extern Tryd.func161 (by kernel_rfl) (by kernel_rfl) (by kernel_rfl) (e := Extern.AbiNoEscape.same) (by kernel_rfl)]
      rw [Lib.run_noEscape]
      rfl
  · cases hr
def live149 (key : Nat) : Lv :=
  { ls := [] }
def d149 (h0_u : Bool) (h1 : List Int) : Tr (Bool × List Int) :=
  Tr.ite (!h0_u) (Tr.ret (true, h1)) (Tr.ite (!h0_u) Tr.fail (Tr.ret (h0_u, h1)))
def e149 (r : Bool × List Int) : FRes := { rs := Slot.tup [], upd := [Blk.tb ( 132) r.fst [Leaf.srow ( 1)], Blk.row ( 5) (Kd.int IntKind.u8) r.snd], new := [] }
@[reducible] def a149 : List AK := [AK.c (Leaf.ptr (0 : Nat) (0 : Nat))]
@[reducible] def b149 : List BK := [BK.tb (132 : TypeId) [SK.c (Leaf.srow (1 : Nat))], BK.row (5 : TypeId) (Kd.int IntKind.u8)]
theorem t149 (h0_u : Bool) (h1 : List Int) : evFn (Env.loops (Env.withFns E0 [((161 : Nat), w161)]) live149 fun (x : Nat) (x_1 : VS) => none) Tryd.f149 [] (akAV a149 ()) (bkBs b149 ((h0_u, ()), h1, ())) = (d149 h0_u h1).map e149 := by kernel_rfl
def s149' (G : akT a149 → bksT b149 → Bool × List Int) : FSpec := aspec0 a149 b149 e149 (G)
theorem k149' {G : akT a149 → bksT b149 → Bool × List Int} (hd : ∀ (h0_u : Bool) (h1 : List Int), (d149 h0_u h1).val = some (G () ((h0_u, ()), h1, ()))) (IO : ItOK Tryd.prog (Env.loops (Env.withFns E0 [((161 : Nat), w161)]) live149 fun (x : Nat) (x_1 : VS) => none) := by exact itOK_none rfl) (L : ∀ c, Tryd.f149.body = some c → LsOK (evI 2) ((Env.loops (Env.withFns E0 [((161 : Nat), w161)]) live149 fun (x : Nat) (x_1 : VS) => none).lend 2) c := by exact fun c _ => LsOK_none rfl c) : SpecOK Tryd.prog E0 149 (s149' G) :=
  aspec0_ok (ak := a149) (bl := b149) (e := e149) (g := G) (E0 := E0) (E := Env.loops (Env.withFns E0 [((161 : Nat), w161)]) live149 fun (x : Nat) (x_1 : VS) => none) tab (.cons wk161 .nil) rfl rfl hm Tryd.func149 (by kernel_rfl) [] (fun X Y => by obtain ⟨⟨h0_u, _⟩, ⟨h1, _⟩⟩ := Y; exact val_of (t149 h0_u h1) (hd h0_u h1)) IO L
abbrev w149 : FSpec := s149' fun _ y => (true, y.2.1)
theorem wk149 : SpecOK Tryd.prog E0 149 w149 := k149' fun u h => by cases u <;> rfl
namespace Z
def d149 (h0_u : Bool) : Tr (Bool) :=
  Tr.ite (!h0_u) (Tr.ret true) (Tr.ite (!h0_u) Tr.fail (Tr.ret h0_u))
def e149 (r : Bool) : FRes := { rs := Slot.tup [], upd := [Blk.tb ( 132) r [Leaf.nils]], new := [] }
@[reducible] def a149 : List AK := [AK.c (Leaf.ptr (0 : Nat) (0 : Nat))]
@[reducible] def b149 : List BK := [BK.tb (132 : TypeId) [SK.c Leaf.nils]]
theorem t149 (h0_u : Bool) : evFn (Env.withFns E0 [((161 : Nat), w161)]) Tryd.f149 [] (akAV a149 ()) (bkBs b149 ((h0_u, ()), ())) = (d149 h0_u).map e149 := by kernel_rfl
def s149' (G : akT a149 → bksT b149 → Bool) : FSpec := aspec0 a149 b149 e149 (G)
theorem k149' {G : akT a149 → bksT b149 → Bool} (hd : ∀ (h0_u : Bool), (d149 h0_u).val = some (G () ((h0_u, ()), ()))) (IO : ItOK Tryd.prog (Env.withFns E0 [((161 : Nat), w161)]) := by exact itOK_none rfl) (L : ∀ c, Tryd.f149.body = some c → LsOK (evI 2) ((Env.withFns E0 [((161 : Nat), w161)]).lend 1) c := by exact fun c _ => LsOK_none rfl c) : SpecOK Tryd.prog E0 149 (s149' G) :=
  aspec0_ok (ak := a149) (bl := b149) (e := e149) (g := G) (E0 := E0) (E := Env.withFns E0 [((161 : Nat), w161)]) tab (.cons wk161 .nil) rfl rfl hm Tryd.func149 (by kernel_rfl) [] (fun X Y => by obtain ⟨⟨h0_u, _⟩, _⟩ := Y; exact val_of (t149 h0_u) (hd h0_u)) IO L
abbrev w149 : FSpec := s149' fun _ _ => true
theorem wk149 : SpecOK Tryd.prog E0 149 w149 := k149' fun u => by cases u <;> rfl
end Z
def live112 (key : Nat) : Lv :=
  bif Nat.beq key 9996 then { ls := [14] } else
  { ls := [] }
def d112 (b : ByteArray) (h0_u : Bool) (h1 : List Int) : Tr (Int × Bool × List Int) :=
  Tr.ite (decide (List.length h1 + ByteArray.size b ≤ (140737488355328 : Nat))) (Tr.ret ((↑(ByteArray.size b) : Int), true, h1 ++ bytesL b)) Tr.fail
def e112 (r : Int × Bool × List Int) : FRes := { rs := Slot.tup [AV.one (Leaf.dat (.int .i64) r.fst), AV.one Leaf.nili], upd := [Blk.tb ( 132) r.snd.fst [Leaf.srow ( 2)], Blk.dead], new := [Blk.row ( 5) (Kd.int IntKind.u8) r.snd.snd] }
@[reducible] def a112 : List AK := [AK.c (Leaf.ptr (0 : Nat) (0 : Nat)), AK.d Kd.str]
@[reducible] def b112 : List BK := [BK.tb (132 : TypeId) [SK.c (Leaf.srow (1 : Nat))], BK.row (5 : TypeId) (Kd.int IntKind.u8)]
theorem t112 (b : ByteArray) (h0_u : Bool) (h1 : List Int) : evFn (Env.loops (Env.withFns E0 [((149 : Nat), w149)]) live112 fun (x : Nat) (x_1 : VS) => none) Tryd.f112 [PM.data (.int .i64), PM.raw] (akAV a112 (b, ())) (bkBs b112 ((h0_u, ()), h1, ())) = (d112 b h0_u h1).map e112 := by kernel_rfl
def s112 (C : akT a112 → bksT b112 → Bool) (G : akT a112 → bksT b112 → Int × Bool × List Int) : FSpec := aspec a112 b112 e112 (C) (G)
theorem k112 {C : akT a112 → bksT b112 → Bool} {G : akT a112 → bksT b112 → Int × Bool × List Int} (hd : ∀ (b : ByteArray) (h0_u : Bool) (h1 : List Int), C (b, ()) ((h0_u, ()), h1, ()) = true → (d112 b h0_u h1).val = some (G (b, ()) ((h0_u, ()), h1, ()))) (IO : ItOK Tryd.prog (Env.loops (Env.withFns E0 [((149 : Nat), w149)]) live112 fun (x : Nat) (x_1 : VS) => none) := by exact itOK_none rfl) (L : ∀ c, Tryd.f112.body = some c → LsOK (evI 2) ((Env.loops (Env.withFns E0 [((149 : Nat), w149)]) live112 fun (x : Nat) (x_1 : VS) => none).lend 2) c := by exact fun c _ => LsOK_none rfl c) : SpecOK Tryd.prog E0 112 (s112 C G) :=
  aspec_ok (ak := a112) (bl := b112) (e := e112) (c := C) (g := G) (E0 := E0) (E := Env.loops (Env.withFns E0 [((149 : Nat), w149)]) live112 fun (x : Nat) (x_1 : VS) => none) tab (.cons wk149 .nil) rfl rfl hm Tryd.func112 (by kernel_rfl) [PM.data (.int .i64), PM.raw] (fun X Y H => by obtain ⟨b, _⟩ := X; obtain ⟨⟨h0_u, _⟩, ⟨h1, _⟩⟩ := Y; exact val_of (t112 b h0_u h1) (hd b h0_u h1 H)) IO L
def live113 (key : Nat) : Lv :=
  bif Nat.beq key 9996 then { ls := [14] } else
  { ls := [] }
def d113 (b : Int) (h0_u : Bool) (h1 : List Int) : Tr (Bool × List Int) :=
  Tr.ite (decide ((List.length h1 + (1 : Nat)) * (1 : Nat) ≤ (140737488355328 : Nat))) (Tr.ret (true, h1 ++ [b])) Tr.fail
def e113 (r : Bool × List Int) : FRes := { rs := Slot.av (AV.one Leaf.nili), upd := [Blk.tb ( 132) r.fst [Leaf.srow ( 2)], Blk.dead], new := [Blk.row ( 5) (Kd.int IntKind.u8) r.snd] }
@[reducible] def a113 : List AK := [AK.c (Leaf.ptr (0 : Nat) (0 : Nat)), AK.d (Kd.int IntKind.u8)]
@[reducible] def b113 : List BK := [BK.tb (132 : TypeId) [SK.c (Leaf.srow (1 : Nat))], BK.row (5 : TypeId) (Kd.int IntKind.u8)]
theorem t113 (b : Int) (h0_u : Bool) (h1 : List Int) : evFn (Env.loops (Env.withFns E0 [((149 : Nat), w149)]) live113 fun (x : Nat) (x_1 : VS) => none) Tryd.f113 [PM.raw] (akAV a113 (b, ())) (bkBs b113 ((h0_u, ()), h1, ())) = (d113 b h0_u h1).map e113 := by kernel_rfl
def s113 (C : akT a113 → bksT b113 → Bool) (G : akT a113 → bksT b113 → Bool × List Int) : FSpec := aspec a113 b113 e113 (C) (G)
theorem k113 {C : akT a113 → bksT b113 → Bool} {G : akT a113 → bksT b113 → Bool × List Int} (hd : ∀ (b : Int) (h0_u : Bool) (h1 : List Int), C (b, ()) ((h0_u, ()), h1, ()) = true → (d113 b h0_u h1).val = some (G (b, ()) ((h0_u, ()), h1, ()))) (IO : ItOK Tryd.prog (Env.loops (Env.withFns E0 [((149 : Nat), w149)]) live113 fun (x : Nat) (x_1 : VS) => none) := by exact itOK_none rfl) (L : ∀ c, Tryd.f113.body = some c → LsOK (evI 2) ((Env.loops (Env.withFns E0 [((149 : Nat), w149)]) live113 fun (x : Nat) (x_1 : VS) => none).lend 2) c := by exact fun c _ => LsOK_none rfl c) : SpecOK Tryd.prog E0 113 (s113 C G) :=
  aspec_ok (ak := a113) (bl := b113) (e := e113) (c := C) (g := G) (E0 := E0) (E := Env.loops (Env.withFns E0 [((149 : Nat), w149)]) live113 fun (x : Nat) (x_1 : VS) => none) tab (.cons wk149 .nil) rfl rfl hm Tryd.func113 (by kernel_rfl) [PM.raw] (fun X Y H => by obtain ⟨b, _⟩ := X; obtain ⟨⟨h0_u, _⟩, ⟨h1, _⟩⟩ := Y; exact val_of (t113 b h0_u h1) (hd b h0_u h1 H)) IO L
def live114 (key : Nat) : Lv :=
  { ls := [] }
def d114 (h0_u : Bool) (h1 : List Int) : Tr (ByteArray × Bool) :=
  let v1 : Int := ((↑(List.length h1) : Int))
  let v2 : Int := ((↑(List.length h1) : Int))
  Tr.ite (decide (v2 = v1)) (Tr.ret (strOf h1, h0_u)) Tr.fail
def e114 (r : ByteArray × Bool) : FRes := { rs := Slot.av (AV.one (Leaf.dat Kd.str r.fst)), upd := [Blk.tb ( 132) r.snd [Leaf.srow ( 1)], Blk.dead], new := [] }
@[reducible] def a114 : List AK := [AK.c (Leaf.ptr (0 : Nat) (0 : Nat))]
@[reducible] def b114 : List BK := [BK.tb (132 : TypeId) [SK.c (Leaf.srow (1 : Nat))], BK.row (5 : TypeId) (Kd.int IntKind.u8)]
theorem t114 (h0_u : Bool) (h1 : List Int) : evFn (Env.loops (Env.withFns E0 [((149 : Nat), w149)]) live114 fun (x : Nat) (x_1 : VS) => none) Tryd.f114 [PM.data Kd.str] (akAV a114 ()) (bkBs b114 ((h0_u, ()), h1, ())) = (d114 h0_u h1).map e114 := by kernel_rfl
def s114' (G : akT a114 → bksT b114 → ByteArray × Bool) : FSpec := aspec0 a114 b114 e114 (G)
theorem k114' {G : akT a114 → bksT b114 → ByteArray × Bool} (hd : ∀ (h0_u : Bool) (h1 : List Int), (d114 h0_u h1).val = some (G () ((h0_u, ()), h1, ()))) (IO : ItOK Tryd.prog (Env.loops (Env.withFns E0 [((149 : Nat), w149)]) live114 fun (x : Nat) (x_1 : VS) => none) := by exact itOK_none rfl) (L : ∀ c, Tryd.f114.body = some c → LsOK (evI 2) ((Env.loops (Env.withFns E0 [((149 : Nat), w149)]) live114 fun (x : Nat) (x_1 : VS) => none).lend 2) c := by exact fun c _ => LsOK_none rfl c) : SpecOK Tryd.prog E0 114 (s114' G) :=
  aspec0_ok (ak := a114) (bl := b114) (e := e114) (g := G) (E0 := E0) (E := Env.loops (Env.withFns E0 [((149 : Nat), w149)]) live114 fun (x : Nat) (x_1 : VS) => none) tab (.cons wk149 .nil) rfl rfl hm Tryd.func114 (by kernel_rfl) [PM.data Kd.str] (fun X Y => by obtain ⟨⟨h0_u, _⟩, ⟨h1, _⟩⟩ := Y; exact val_of (t114 h0_u h1) (hd h0_u h1)) IO L
abbrev w112 : FSpec := s112 (fun x y => decide (List.length (α := Int) y.2.1 + ByteArray.size x.1 ≤ 140737488355328)) fun x y => ((ByteArray.size x.1 : Int), true, List.append (α := Int) y.2.1 (bytesL x.1))
theorem wk112 : SpecOK Tryd.prog E0 112 w112 := k112 fun b u h H => by
  simp only [d112, Tr.val, H, cond_true]
  rfl
abbrev w113 : FSpec := s113 (fun _ y => decide (List.length (α := Int) y.2.1 + 1 ≤ 140737488355328)) fun x y => (true, List.append (α := Int) y.2.1 [x.1])
theorem wk113 : SpecOK Tryd.prog E0 113 w113 := k113 fun b u h H => by
  have H : h.length + 1 ≤ 140737488355328 := of_decide_eq_true H
  simp only [d113, Tr.val, Nat.mul_one, H, decide_true, cond_true]
  rfl
abbrev w114 : FSpec := s114' fun _ y => (strOf y.2.1, y.1.1)
theorem wk114 : SpecOK Tryd.prog E0 114 w114 := k114' fun u h => by
  simp only [d114, Tr.val, decide_true, cond_true]
def live108 (key : Nat) : Lv :=
  bif Nat.beq key 20022 then { ls := [9999, 3, 6, 7, 8] } else bif Nat.beq key 40022 then { ls := [23] } else
  bif Nat.beq key 25006 then { ls := [9999, 3, 6, 7, 8, 22] } else bif Nat.beq key 45006 then { ls := [15, 16, 17, 18, 19, 20, 21, 22] } else
  bif Nat.beq key 20009 then { ls := [9999, 3, 6, 7, 8] } else bif Nat.beq key 40009 then { ls := [] } else
  bif Nat.beq key 3 then { ls := [3, 6, 7, 8], wd := [⟨3, some 0, .srow 5 (.int .u8)⟩] } else bif Nat.beq key 1003 then { ls := [3] } else
  bif Nat.beq key 9997 then { ls := [132] } else
  { ls := [] }
abbrev G108 : List (Nat × FSpec) := [(112, w112), (113, w113), (114, w114)]
theorem AG108 : AllFn Tryd.prog E0 G108 := .cons wk112 (.cons wk113 (.cons wk114 .nil))
abbrev M108 (ls : Nat → VS → Option (Tr (Ex × VS))) : Env := (E0.withFns G108).loops live108 ls
@[reducible] def p108_0 : LP := { n := 26, sl := [.c (Leaf.ptr ( 0) ( 0)), .d (Kd.sl celk), .d (.int .i64), .d (.int .i64)], bl := [(0, .tb 132 [.c (Leaf.srow ( 1))]), (1, .row 5 (Kd.int IntKind.u8))] }
def B108_0 (x1 : List Cell) (x2 : Int) (x3 : Int) (h0_u : Bool) (h1 : List Int) : Tr (p108_0.T ⊕ (Bool × List Int)) :=
  let v1 : List Int := (List.append h1 (bytesL (rget celk x1 x3).fst))
  Tr.ite (decide (x3 < x2))
    (Tr.ite (inB x3 (List.length x1))
      (Tr.ite (decide (List.length h1 + ByteArray.size (rget celk x1 x3).fst ≤ (140737488355328 : Nat)))
        (Tr.ite (decide ((rget celk x1 x3).fst = { data := #[] }))
          (Tr.ite (decide ((rget celk x1 x3).snd.fst = (1 : Int)))
            (Tr.ite (decide (List.length v1 + (1 : Nat) ≤ (140737488355328 : Nat)))
              (Tr.ret (Sum.inl ((x1, x2, IntKind.wrap IntKind.i64 (x3 + (1 : Int)), ()), (true, ()), List.append v1 [(32 : Int)], ()))) Tr.fail)
            (Tr.ret (Sum.inl ((x1, x2, IntKind.wrap IntKind.i64 (x3 + (1 : Int)), ()), (true, ()), v1, ()))))
          (Tr.ret (Sum.inl ((x1, x2, IntKind.wrap IntKind.i64 (x3 + (1 : Int)), ()), (true, ()), v1, ()))))
        Tr.fail)
      Tr.fail)
    (Tr.ret (Sum.inr (h0_u, h1)))
def X108_0 (r : (Bool × List Int)) : Ex × VS := Prod.mk (Ex.exit ( 0)) { n := 26, v := [Slot.av (AV.one (Leaf.ptr ( 0) ( 0)))], h := [( 0, Blk.tb ( 132) r.fst [Leaf.srow ( 1)]), ( 1, Blk.row ( 5) (Kd.int IntKind.u8) r.snd)] }
def b108_0 : p108_0.T → Tr (p108_0.T ⊕ (Bool × List Int)) := fun ⟨⟨x1, ⟨x2, ⟨x3, _⟩⟩⟩, ⟨⟨h0_u, _⟩, ⟨h1, _⟩⟩⟩ => B108_0 x1 x2 x3 h0_u h1
theorem h108_0 (ls : Nat → VS → Option (Tr (Ex × VS))) (x : p108_0.T) : (evC (evI 2) (lc Tryd.f108 0) (Env.lend (M108 ls) 0) (unV (live108 3) (p108_0.V x))).map (decL 0 (live108 3) (live108 1003)) = (b108_0 x).map (encR p108_0.V X108_0) := by
  obtain ⟨⟨x1, ⟨x2, ⟨x3, _⟩⟩⟩, ⟨⟨h0_u, _⟩, ⟨h1, _⟩⟩⟩ := x; kernel_rfl
theorem c108_0 (x : p108_0.T) : canV 0 (live108 3) (unV (live108 3) (p108_0.V x)) = p108_0.V x := by
  obtain ⟨⟨x1, ⟨x2, ⟨x3, _⟩⟩⟩, ⟨⟨h0_u, _⟩, ⟨h1, _⟩⟩⟩ := x; kernel_rfl
theorem l108_0 {T : p108_0.T → Tr (Bool × List Int)} {ls : Nat → VS → Option (Tr (Ex × VS))} (hls : ∀ x, (Env.lend (M108 ls) 0).ls 3 x = p108_0.ls (fun a => (T a).map X108_0) x) (hS : ∀ x r, (T x).val = some r → Rounds b108_0 x r) : LoopOK (evI 2) (Env.lend (M108 ls) 0) (lc Tryd.f108 0) :=
  loopA 3 (live108 3) (live108 1003) p108_0 b108_0 X108_0 T (by kernel_rfl) rfl rfl hls (h108_0 ls) c108_0 hS
end Go.Proofs.YtmnbcnhpklejcaaDoor
namespace U
open Go.Proofs.YtmnbcnhpklejcaaDoor
def sayC (c : ByteArray × Int × (Int × Int × Int × Unit) × Unit) : List Int := bytesL c.1 ++ bif (decide (c.1 = (⟨#[]⟩ : ByteArray)) && decide (c.2.1 = 1)) then [32] else []
def sayL (l : List (ByteArray × Int × (Int × Int × Int × Unit) × Unit)) : List Int := l.flatMap sayC
theorem say_fold (l : List (ByteArray × Int × (Int × Int × Int × Unit) × Unit)) : ∀ u (s : List Int), l.foldl (fun (s : Bool × List Int) c => (true, s.2 ++ sayC c)) (u, s) = (u || !decide (l.length = 0), s ++ sayL l) := by
  induction l with
  | nil => intro u s; simp [sayL]
  | cons c l ih =>
    intro u s
    rw [List.foldl_cons, ih]
    simp [sayL, List.flatMap_cons]
end U
namespace Go.Proofs.YtmnbcnhpklejcaaDoor
def T108 (x : p108_0.T) : Tr (Bool × List Int) :=
  .ite (decide ((x.1.2.2.1 : Int) = 0 ∧ (x.1.2.1 : Int) = (List.length (α := Cell) x.1.1 : Int) ∧ List.length (α := Cell) x.1.1 ≤ 1048576 ∧ List.length (α := Int) x.2.2.1 + List.length (α := Int) (U.sayL x.1.1) ≤ 140737488355328))
    (.ret (x.2.1.1 || !decide (List.length (α := Cell) x.1.1 = 0), List.append (α := Int) x.2.2.1 (U.sayL x.1.1))) .fail
abbrev E108 : Env := M108 fun key x => bif Nat.beq key 3 then p108_0.ls (fun a => (T108 a).map X108_0) x else none
theorem L108 : LoopOK (evI 2) (E108.lend 0) (lc Tryd.f108 0) := by
  refine l108_0 (T := T108) (fun x => rfl) ?_
  rintro ⟨⟨l, n, j, z⟩, ⟨u, z1⟩, h, z2⟩ r hh
  obtain ⟨g1, g2⟩ := pre_val hh
  have g1 : (j : Int) = 0 ∧ (n : Int) = (l.length : Int) ∧ l.length ≤ 1048576 ∧ h.length + (U.sayL l).length ≤ 140737488355328 := of_decide_eq_true g1
  obtain ⟨rfl, rfl, e3, e4⟩ := g1
  cases g2
  have := Rounds.fold0 (B := b108_0) l (fun i (s : Bool × List Int) => ((l, (l.length : Int), (i : Int), ()), (s.1, ()), s.2, ())) (fun (s : Bool × List Int) c => (true, s.2 ++ U.sayC c)) (fun s => s) (fun i s => s.2.length + (U.sayL (l.drop i)).length ≤ 140737488355328) (u, h) (by show h.length + (U.sayL (l.drop 0)).length ≤ _; rw [List.drop_zero]; exact e4) (fun i s hi hv => ?_) (fun s hv => ?_)
  · rw [U.say_fold] at this
    exact this
  · obtain ⟨su, ss⟩ := s
    have e : rget celk l (i : Int) = l[i] := by rw [rgetC]; exact getD_el hi
    have hd : l.drop i = l[i] :: l.drop (i + 1) := List.drop_eq_getElem_cons hi
    have hv : ss.length + (U.sayL (l.drop i)).length ≤ 140737488355328 := hv
    rw [hd] at hv
    have h5 : (U.sayL (l[i] :: l.drop (i + 1))).length = (U.sayC l[i]).length + (U.sayL (l.drop (i + 1))).length := by unfold U.sayL; rw [List.flatMap_cons, List.length_append]
    rw [h5] at hv
    generalize hc : l[i] = c at *
    obtain ⟨ct, cw, ca, cz⟩ := c
    have h6 : (U.sayC (ct, cw, ca, cz)).length = ct.size + (bif (decide (ct = (⟨#[]⟩ : ByteArray)) && decide (cw = 1)) then 1 else 0) := by
      unfold U.sayC
      rw [List.length_append, Go.Ev.bytesL_size]
      cases (decide (ct = (⟨#[]⟩ : ByteArray)) && decide (cw = 1)) <;> rfl
    have h7 : ss.length + ct.size ≤ 140737488355328 := by omega
    have w : IntKind.wrap IntKind.i64 ((i : Int) + 1) = ((i + 1 : Nat) : Int) := wrap64_nat (show i ≤ 1048576 by omega)
    generalize hq : (U.sayL (l.drop (i + 1))).length = q at *
    refine ⟨?_, by show (ss ++ U.sayC (ct, cw, ca, cz)).length + q ≤ _; rw [List.length_append]; omega⟩
    by_cases c1 : ct = (⟨#[]⟩ : ByteArray)
    · subst c1
      by_cases c2 : cw = 1
      · subst c2
        have h8 : (List.append ss (bytesL (⟨#[]⟩ : ByteArray))).length + 1 ≤ 140737488355328 := by
          show (ss ++ bytesL (⟨#[]⟩ : ByteArray)).length + 1 ≤ _
          rw [List.length_append, Go.Ev.bytesL_size]
          have h6' : (bif (decide ((⟨#[]⟩ : ByteArray) = (⟨#[]⟩ : ByteArray)) && decide ((1 : Int) = 1)) then 1 else 0 : Nat) = 1 := rfl
          rw [h6'] at h6
          omega
        simp only [b108_0, B108_0, Tr.val, inB_nat hi, e, h7, h8, w, show ((i : Int) < (l.length : Int)) by omega, decide_true, cond_true, U.sayC, Bool.and_self]
        rw [← List.append_assoc]
        rfl
      · have e0 : decide (cw = 1) = false := decide_eq_false c2
        simp only [b108_0, B108_0, Tr.val, inB_nat hi, e, h7, w, e0, show ((i : Int) < (l.length : Int)) by omega, decide_true, cond_true, cond_false, U.sayC, Bool.and_false, List.append_nil]
        rfl
    · have e0 : decide (ct = (⟨#[]⟩ : ByteArray)) = false := decide_eq_false c1
      simp only [b108_0, B108_0, Tr.val, inB_nat hi, e, h7, w, e0, show ((i : Int) < (l.length : Int)) by omega, decide_true, cond_true, cond_false, U.sayC, Bool.false_and, List.append_nil]
      rfl
  · simp only [b108_0, B108_0, Tr.val, show ¬ ((l.length : Int) < (l.length : Int)) by omega, decide_false, cond_false]
def d108 (a : List Cell) : Tr (ByteArray) :=
  let v1 : Int := ((↑(List.length a) : Int))
  let v2 : Int := ((↑(List.length a) : Int))
  Tr.ite (decide ((0 : Int) = (0 : Int) ∧ v2 = v1 ∧ List.length a ≤ (1048576 : Nat) ∧ (0 : Nat) + List.length (U.sayL a) ≤ (140737488355328 : Nat))) (Tr.ret (strOf (List.append [] (U.sayL a)))) Tr.fail
def e108 (r : ByteArray) : FRes := { rs := Slot.av (AV.one (Leaf.dat Kd.str r)), upd := [], new := [] }
@[reducible] def a108 : List AK := [AK.d (Kd.sl celk)]
@[reducible] def b108 : List BK := []
theorem t108 (a : List Cell) : evFn (E108) Tryd.f108 [PM.data Kd.str] (akAV a108 (a, ())) (bkBs b108 ()) = (d108 a).map e108 := by kernel_rfl
def s108 (C : akT a108 → Bool) (G : akT a108 → ByteArray) : FSpec := aspec a108 b108 e108 (fun x _ => C x) (fun x _ => G x)
theorem k108 {C : akT a108 → Bool} {G : akT a108 → ByteArray} (hd : ∀ (a : List Cell), C (a, ()) = true → (d108 a).val = some (G (a, ()))) (IO : ItOK Tryd.prog (E108) := by exact itOK_none rfl) (L : ∀ c, Tryd.f108.body = some c → LsOK (evI 2) ((E108).lend 0) c := by exact fun c _ => LsOK_none rfl c) : SpecOK Tryd.prog E0 108 (s108 C G) :=
  aspec_ok (ak := a108) (bl := b108) (e := e108) (c := fun x _ => C x) (g := fun x _ => G x) (E0 := E0) (E := E108) tab AG108 rfl rfl hm Tryd.func108 (by kernel_rfl) [PM.data Kd.str] (fun X Y H => by obtain ⟨a, _⟩ := X; exact val_of (t108 a) (hd a H)) IO L
abbrev w108 : FSpec := s108 (fun x => decide (List.length (α := Cell) x.1 ≤ 1048576 ∧ List.length (α := Int) (U.sayL x.1) ≤ 140737488355328)) fun x => strOf (U.sayL x.1)
theorem wk108 : SpecOK Tryd.prog E0 108 w108 := by
  refine k108 (fun l H => ?_) (L := ls_ok (lcs := [lc Tryd.f108 0]) (rgs := []) (by kernel_rfl) (by kernel_rfl) L108 trivial)
  have H : l.length ≤ 1048576 ∧ (U.sayL l).length ≤ 140737488355328 := of_decide_eq_true H
  obtain ⟨h1, h2⟩ := H
  simp only [d108, Tr.val, h1, h2, Nat.zero_add, and_self, decide_true, cond_true]
  rfl
end Go.Proofs.YtmnbcnhpklejcaaDoor

end
section
set_option linter.unusedVariables false
set_option linter.unusedSimpArgs false
set_option maxRecDepth 20000
set_option maxHeartbeats 4000000
namespace U
def pre (a b : ByteArray) : Bool := decide (b.size ≤ a.size) && decide (a.extract 0 b.size = b)
def orI : List Int → Int
  | [] => 0
  | y :: l => if y = 0 then orI l else y
def cmpI (a b : Int) : Int := if a < b then -1 else if b < a then 1 else 0
end U
open Go Go.Ev
namespace Go.Proofs.YtmnbcnhpklejcaaDoor
open Go.RowKit
def d145 (a : ByteArray) (b : ByteArray) : Tr (Bool) :=
  let v1 : ByteArray := (ByteArray.extract a (0 : Nat) (Int.toNat (↑(ByteArray.size b) : Int)))
  Tr.ite (decide ((↑(ByteArray.size b) : Int) ≤ (↑(ByteArray.size a) : Int)))
    (Tr.ite (decide ((0 : Int) ≤ (↑(ByteArray.size b) : Int) ∧ (↑(ByteArray.size b) : Int) ≤ (↑(ByteArray.size a) : Int))) (Tr.ret (decide (v1 = b))) Tr.fail) (Tr.ret false)
def e145 (r : Bool) : FRes := { rs := Slot.av (AV.one (Leaf.dat Kd.bool r)), upd := [], new := [] }
@[reducible] def a145 : List AK := [AK.d Kd.str, AK.d Kd.str]
@[reducible] def b145 : List BK := []
theorem t145 (a : ByteArray) (b : ByteArray) : evFn (E0) Tryd.f145 [PM.data Kd.bool] (akAV a145 (a, b, ())) (bkBs b145 ()) = (d145 a b).map e145 := by kernel_rfl
def s145' (G : akT a145 → Bool) : FSpec := aspec0 a145 b145 e145 (fun x _ => G x)
theorem k145' {G : akT a145 → Bool} (hd : ∀ (a : ByteArray) (b : ByteArray), (d145 a b).val = some (G (a, b, ()))) (IO : ItOK Tryd.prog (E0) := by exact itOK_none rfl) (L : ∀ c, Tryd.f145.body = some c → LsOK (evI 2) ((E0).lend 0) c := by exact fun c _ => LsOK_none rfl c) : SpecOK Tryd.prog E0 145 (s145' G) :=
  aspec0_ok (ak := a145) (bl := b145) (e := e145) (g := fun x _ => G x) (E0 := E0) (E := E0) tab .nil rfl rfl hm Tryd.func145 (by kernel_rfl) [PM.data Kd.bool] (fun X Y => by obtain ⟨a, ⟨b, _⟩⟩ := X; exact val_of (t145 a b) (hd a b)) IO L
abbrev w145 : FSpec := s145' fun x => U.pre x.1 x.2.1
theorem wk145 : SpecOK Tryd.prog E0 145 w145 := k145' fun a b => by
  show _ = some (U.pre a b)
  unfold U.pre
  by_cases h : b.size ≤ a.size
  · simp only [d145, Tr.val, h, Int.ofNat_le, Int.natCast_nonneg, Int.toNat_natCast, and_self, decide_true, cond_true, Bool.true_and]
  · simp only [d145, Tr.val, h, Int.ofNat_le, decide_false, cond_false, Bool.false_and]
def d107 (a : ByteArray) (b : ByteArray) : Tr (Bool) :=
  Tr.ret (U.pre a b)
def e107 (r : Bool) : FRes := { rs := Slot.av (AV.one (Leaf.dat Kd.bool r)), upd := [], new := [] }
@[reducible] def a107 : List AK := [AK.d Kd.str, AK.d Kd.str]
@[reducible] def b107 : List BK := []
theorem t107 (a : ByteArray) (b : ByteArray) : evFn (Env.withFns E0 [((145 : Nat), w145)]) Tryd.f107 [PM.data Kd.bool] (akAV a107 (a, b, ())) (bkBs b107 ()) = (d107 a b).map e107 := by kernel_rfl
def s107' (G : akT a107 → Bool) : FSpec := aspec0 a107 b107 e107 (fun x _ => G x)
theorem k107' {G : akT a107 → Bool} (hd : ∀ (a : ByteArray) (b : ByteArray), (d107 a b).val = some (G (a, b, ()))) (IO : ItOK Tryd.prog (Env.withFns E0 [((145 : Nat), w145)]) := by exact itOK_none rfl) (L : ∀ c, Tryd.f107.body = some c → LsOK (evI 2) ((Env.withFns E0 [((145 : Nat), w145)]).lend 0) c := by exact fun c _ => LsOK_none rfl c) : SpecOK Tryd.prog E0 107 (s107' G) :=
  aspec0_ok (ak := a107) (bl := b107) (e := e107) (g := fun x _ => G x) (E0 := E0) (E := Env.withFns E0 [((145 : Nat), w145)]) tab (.cons wk145 .nil) rfl rfl hm Tryd.func107 (by kernel_rfl) [PM.data Kd.bool] (fun X Y => by obtain ⟨a, ⟨b, _⟩⟩ := X; exact val_of (t107 a b) (hd a b)) IO L
abbrev w107 : FSpec := s107' fun x => U.pre x.1 x.2.1
theorem wk107 : SpecOK Tryd.prog E0 107 w107 := k107' fun a b => rfl
def d144 (a : Int) : Tr (Bool) :=
  Tr.ret !decide (a = a)
def e144 (r : Bool) : FRes := { rs := Slot.av (AV.one (Leaf.dat Kd.bool r)), upd := [], new := [] }
@[reducible] def a144 : List AK := [AK.d (.int .i64)]
@[reducible] def b144 : List BK := []
theorem t144 (a : Int) : evFn (E0) Tryd.f144 [PM.data Kd.bool] (akAV a144 (a, ())) (bkBs b144 ()) = (d144 a).map e144 := by kernel_rfl
def s144' (G : akT a144 → Bool) : FSpec := aspec0 a144 b144 e144 (fun x _ => G x)
theorem k144' {G : akT a144 → Bool} (hd : ∀ (a : Int), (d144 a).val = some (G (a, ()))) (IO : ItOK Tryd.prog (E0) := by exact itOK_none rfl) (L : ∀ c, Tryd.f144.body = some c → LsOK (evI 2) ((E0).lend 0) c := by exact fun c _ => LsOK_none rfl c) : SpecOK Tryd.prog E0 144 (s144' G) :=
  aspec0_ok (ak := a144) (bl := b144) (e := e144) (g := fun x _ => G x) (E0 := E0) (E := E0) tab .nil rfl rfl hm Tryd.func144 (by kernel_rfl) [PM.data Kd.bool] (fun X Y => by obtain ⟨a, _⟩ := X; exact val_of (t144 a) (hd a)) IO L
abbrev w144 : FSpec := s144' fun _ => false
theorem wk144 : SpecOK Tryd.prog E0 144 w144 := k144' fun a => by simp only [d144, Tr.val, decide_true, Bool.not_true]
def d106 (a : Int) (b : Int) : Tr (Int) :=
  Tr.ite false (Tr.ite false (Tr.ret (0 : Int)) (Tr.ret (-1 : Int)))
    (Tr.ite false (Tr.ret (1 : Int)) (Tr.ite (decide (a < b)) (Tr.ret (-1 : Int)) (Tr.ite (decide (b < a)) (Tr.ret (1 : Int)) (Tr.ret (0 : Int)))))
def e106 (r : Int) : FRes := { rs := Slot.av (AV.one (Leaf.dat (.int .i64) r)), upd := [], new := [] }
@[reducible] def a106 : List AK := [AK.d (.int .i64), AK.d (.int .i64)]
@[reducible] def b106 : List BK := []
theorem t106 (a : Int) (b : Int) : evFn (Env.withFns E0 [((144 : Nat), w144)]) Tryd.f106 [PM.data (.int .i64)] (akAV a106 (a, b, ())) (bkBs b106 ()) = (d106 a b).map e106 := by kernel_rfl
def s106' (G : akT a106 → Int) : FSpec := aspec0 a106 b106 e106 (fun x _ => G x)
theorem k106' {G : akT a106 → Int} (hd : ∀ (a : Int) (b : Int), (d106 a b).val = some (G (a, b, ()))) (IO : ItOK Tryd.prog (Env.withFns E0 [((144 : Nat), w144)]) := by exact itOK_none rfl) (L : ∀ c, Tryd.f106.body = some c → LsOK (evI 2) ((Env.withFns E0 [((144 : Nat), w144)]).lend 0) c := by exact fun c _ => LsOK_none rfl c) : SpecOK Tryd.prog E0 106 (s106' G) :=
  aspec0_ok (ak := a106) (bl := b106) (e := e106) (g := fun x _ => G x) (E0 := E0) (E := Env.withFns E0 [((144 : Nat), w144)]) tab (.cons wk144 .nil) rfl rfl hm Tryd.func106 (by kernel_rfl) [PM.data (.int .i64)] (fun X Y => by obtain ⟨a, ⟨b, _⟩⟩ := X; exact val_of (t106 a b) (hd a b)) IO L
abbrev w106 : FSpec := s106' fun x => U.cmpI x.1 x.2.1
theorem wk106 : SpecOK Tryd.prog E0 106 w106 := k106' fun a b => by
  show _ = some (U.cmpI a b)
  unfold U.cmpI
  by_cases h1 : a < b
  · simp only [d106, Tr.val, h1, decide_true, cond_true, cond_false, if_true]
  · by_cases h2 : b < a
    · simp only [d106, Tr.val, h1, h2, decide_true, decide_false, cond_true, cond_false, if_true, if_false]
    · simp only [d106, Tr.val, h1, h2, decide_false, cond_true, cond_false, if_false]
def live105 (key : Nat) : Lv :=
  bif Nat.beq key 3 then { ls := [3, 6, 7, 8] } else bif Nat.beq key 1003 then { ls := [2, 3] } else
  { ls := [] }
abbrev M105 (ls : Nat → VS → Option (Tr (Ex × VS))) : Env := E0.loops live105 ls
@[reducible] def p105_0 : LP := { n := 18, sl := [.d (.int .i64), .d (Kd.sl (.int .i64)), .d (.int .i64), .d (.int .i64)], bl := [] }
def B105_0 (x0 : Int) (x1 : List Int) (x2 : Int) (x3 : Int) : Tr (p105_0.T ⊕ (Int × Int ⊕ Int)) :=
  Tr.ite (decide (x3 < x2))
    (Tr.ite (inB x3 (List.length x1))
      (Tr.ite (!decide (rget (.int .i64) x1 x3 = x0)) (Tr.ret (Sum.inr (Sum.inl (rget (.int .i64) x1 x3, x0))))
        (Tr.ret (Sum.inl ((x0, x1, x2, IntKind.wrap IntKind.i64 (x3 + (1 : Int)), ()), ()))))
      Tr.fail)
    (Tr.ret (Sum.inr (Sum.inr x0)))
def X105_0 : (Int × Int ⊕ Int) → Ex × VS
  | (.inl r) => Prod.mk Ex.ret { n := 18, v := [Slot.av (AV.one (Leaf.dat (.int .i64) r.fst)), Slot.av (AV.one (Leaf.dat (.int .i64) r.snd))], h := [] }
  | (.inr r) => Prod.mk (Ex.exit ( 0)) { n := 18, v := [Slot.av (AV.one Leaf.undef), Slot.av (AV.one (Leaf.dat (.int .i64) r))], h := [] }
def b105_0 : p105_0.T → Tr (p105_0.T ⊕ (Int × Int ⊕ Int)) := fun ⟨⟨x0, ⟨x1, ⟨x2, ⟨x3, _⟩⟩⟩⟩, _⟩ => B105_0 x0 x1 x2 x3
theorem h105_0 (ls : Nat → VS → Option (Tr (Ex × VS))) (x : p105_0.T) : (evC (evI 2) (lc Tryd.f105 0) (Env.lend (M105 ls) 0) (unV (live105 3) (p105_0.V x))).map (decL 0 (live105 3) (live105 1003)) = (b105_0 x).map (encR p105_0.V X105_0) := by
  obtain ⟨⟨x0, ⟨x1, ⟨x2, ⟨x3, _⟩⟩⟩⟩, _⟩ := x; kernel_rfl
theorem c105_0 (x : p105_0.T) : canV 0 (live105 3) (unV (live105 3) (p105_0.V x)) = p105_0.V x := by
  obtain ⟨⟨x0, ⟨x1, ⟨x2, ⟨x3, _⟩⟩⟩⟩, _⟩ := x; kernel_rfl
theorem l105_0 {T : p105_0.T → Tr (Int × Int ⊕ Int)} {ls : Nat → VS → Option (Tr (Ex × VS))} (hls : ∀ x, (Env.lend (M105 ls) 0).ls 3 x = p105_0.ls (fun a => (T a).map X105_0) x) (hS : ∀ x r, (T x).val = some r → Rounds b105_0 x r) : LoopOK (evI 2) (Env.lend (M105 ls) 0) (lc Tryd.f105 0) :=
  loopA 3 (live105 3) (live105 1003) p105_0 b105_0 X105_0 T (by kernel_rfl) rfl rfl hls (h105_0 ls) c105_0 hS
end Go.Proofs.YtmnbcnhpklejcaaDoor
namespace U
theorem or_foldE (l : List Int) : (match foldE (fun (_ : Unit) (y : Int) => (if y = 0 then .inl () else .inr (.inl (y, 0)) : Unit ⊕ (Int × Int ⊕ Int))) l () with | .inl _ => .inr 0 | .inr r => r) = (if orI l = 0 then .inr 0 else .inl (orI l, 0) : Int × Int ⊕ Int) := by
  induction l with
  | nil => rfl
  | cons y l ih =>
    by_cases h : y = 0
    · simp only [foldE, orI, h, if_true]
      exact ih
    · simp only [foldE, orI, h, if_false]
end U
namespace Go.Proofs.YtmnbcnhpklejcaaDoor
def T105 (x : p105_0.T) : Tr (Int × Int ⊕ Int) :=
  .ite (decide ((x.1.1 : Int) = 0 ∧ (x.1.2.2.2.1 : Int) = 0 ∧ (x.1.2.2.1 : Int) = (List.length (α := Int) x.1.2.1 : Int) ∧ List.length (α := Int) x.1.2.1 ≤ 1048576))
    (.ite (decide (U.orI x.1.2.1 = 0)) (.ret (.inr 0)) (.ret (.inl (U.orI x.1.2.1, 0)))) .fail
abbrev E105 : Env := M105 fun key x => bif Nat.beq key 3 then p105_0.ls (fun a => (T105 a).map X105_0) x else none
theorem L105 : LoopOK (evI 2) (E105.lend 0) (lc Tryd.f105 0) := by
  refine l105_0 (T := T105) (fun x => rfl) ?_
  rintro ⟨⟨o, l, n, j, z⟩, z1⟩ r hh
  obtain ⟨g1, g2⟩ := pre_val hh
  have g1 : (o : Int) = 0 ∧ (j : Int) = 0 ∧ (n : Int) = (l.length : Int) ∧ l.length ≤ 1048576 := of_decide_eq_true g1
  obtain ⟨rfl, rfl, rfl, e4⟩ := g1
  have g3 : r = (if U.orI l = 0 then .inr 0 else .inl (U.orI l, 0) : Int × Int ⊕ Int) := by
    by_cases h : U.orI l = 0
    · simp only [Tr.val, h, decide_true, cond_true] at g2
      cases g2
      rw [if_pos h]
    · simp only [Tr.val, h, decide_false, cond_false] at g2
      cases g2
      rw [if_neg h]
  subst g3
  have := Rounds.range0 (B := b105_0) l (fun i (s : Unit) => ((0, l, (l.length : Int), (i : Int), ()), ())) (fun (_ : Unit) (y : Int) => (if y = 0 then .inl () else .inr (.inl (y, 0)) : Unit ⊕ (Int × Int ⊕ Int))) (fun _ => .inr 0) (fun _ _ => True) (fun i s hi _ => ?_) (fun s _ => ?_) () trivial
  · have e2 := U.or_foldE l
    generalize hf : foldE (fun (_ : Unit) (y : Int) => (if y = 0 then .inl () else .inr (.inl (y, 0)) : Unit ⊕ (Int × Int ⊕ Int))) l () = F at this e2
    cases F with
    | inl s => rw [← e2]; exact this
    | inr s => rw [← e2]; exact this
  · have e : rget (.int .i64) l (i : Int) = l[i] := by rw [rget_nat]; exact getD_el hi
    have w : IntKind.wrap IntKind.i64 ((i : Int) + 1) = ((i + 1 : Nat) : Int) := wrap64_nat (show i ≤ 1048576 by omega)
    by_cases h : l[i] = 0
    · refine ⟨fun s' _ => ⟨?_, trivial⟩, fun r hr => by rw [if_pos h] at hr; cases hr⟩
      simp only [b105_0, B105_0, Tr.val, inB_nat hi, e, h, w, show ((i : Int) < (l.length : Int)) by omega, decide_true, cond_true, cond_false, Bool.not_true]
    · refine ⟨fun s' hr => (by rw [if_neg h] at hr; cases hr), fun r hr => ?_⟩
      rw [if_neg h] at hr
      cases hr
      simp only [b105_0, B105_0, Tr.val, inB_nat hi, e, h, show ((i : Int) < (l.length : Int)) by omega, decide_true, decide_false, cond_true, Bool.not_false]
  · simp only [b105_0, B105_0, Tr.val, show ¬ ((l.length : Int) < (l.length : Int)) by omega, decide_false, cond_false]
def d105 (a : List Int) : Tr (Int) :=
  let v1 : Int := ((↑(List.length a) : Int))
  let v2 : Int := ((↑(List.length a) : Int))
  Tr.ite (decide ((0 : Int) = (0 : Int) ∧ (0 : Int) = (0 : Int) ∧ v2 = v1 ∧ List.length a ≤ (1048576 : Nat))) (Tr.ite (decide (U.orI a = (0 : Int))) (Tr.ret (0 : Int)) (Tr.ret (U.orI a))) Tr.fail
def e105 (r : Int) : FRes := { rs := Slot.av (AV.one (Leaf.dat (.int .i64) r)), upd := [], new := [] }
@[reducible] def a105 : List AK := [AK.d (Kd.sl (.int .i64))]
@[reducible] def b105 : List BK := []
theorem t105 (a : List Int) : evFn (E105) Tryd.f105 [PM.data (.int .i64)] (akAV a105 (a, ())) (bkBs b105 ()) = (d105 a).map e105 := by kernel_rfl
def s105 (C : akT a105 → Bool) (G : akT a105 → Int) : FSpec := aspec a105 b105 e105 (fun x _ => C x) (fun x _ => G x)
theorem k105 {C : akT a105 → Bool} {G : akT a105 → Int} (hd : ∀ (a : List Int), C (a, ()) = true → (d105 a).val = some (G (a, ()))) (IO : ItOK Tryd.prog (E105) := by exact itOK_none rfl) (L : ∀ c, Tryd.f105.body = some c → LsOK (evI 2) ((E105).lend 0) c := by exact fun c _ => LsOK_none rfl c) : SpecOK Tryd.prog E0 105 (s105 C G) :=
  aspec_ok (ak := a105) (bl := b105) (e := e105) (c := fun x _ => C x) (g := fun x _ => G x) (E0 := E0) (E := E105) tab .nil rfl rfl hm Tryd.func105 (by kernel_rfl) [PM.data (.int .i64)] (fun X Y H => by obtain ⟨a, _⟩ := X; exact val_of (t105 a) (hd a H)) IO L
abbrev w105 : FSpec := s105 (fun x => decide (List.length (α := Int) x.1 ≤ 1048576)) fun x => U.orI x.1
theorem wk105 : SpecOK Tryd.prog E0 105 w105 := by
  refine k105 (fun l H => ?_) (L := ls_ok (lcs := [lc Tryd.f105 0]) (rgs := []) (by kernel_rfl) (by kernel_rfl) L105 trivial)
  have H : l.length ≤ 1048576 := of_decide_eq_true H
  by_cases h : U.orI l = 0
  · simp only [d105, Tr.val, H, h, and_self, decide_true, cond_true]
  · simp only [d105, Tr.val, H, h, and_self, decide_true, decide_false, cond_true, cond_false]
end Go.Proofs.YtmnbcnhpklejcaaDoor

end
section
set_option linter.unusedVariables false
set_option linter.unusedSimpArgs false
set_option maxRecDepth 20000
set_option maxHeartbeats 4000000
open Go Go.Ev
namespace U
def there (l : List Ln) (r c : Int) : Bool := decide (0 ≤ r) && (decide (r < (l.length : Int)) && (decide (0 ≤ c) && decide (c < ((l.getD r.toNat dL).1.length : Int))))
def behind (a b c d : Int) : Bool := decide (c < a) || (decide (a = c) && decide (d < b))
end U
namespace Go.Proofs.YtmnbcnhpklejcaaDoor
open Go.RowKit
def live43 (key : Nat) : Lv :=
  bif Nat.beq key 7 then { ls := [3, 6, 13, 14, 15, 28, 29, 30], wd := [⟨6, some 0, .row 48 celk⟩] } else bif Nat.beq key 1007 then { ls := [3, 6, 13, 14, 15] } else
  bif Nat.beq key 3 then { ls := [3, 13, 14, 15], wd := [⟨3, none, .row 34 link⟩] } else bif Nat.beq key 1003 then { ls := [3] } else
  { ls := [] }
abbrev M43 (ls : Nat → VS → Option (Tr (Ex × VS))) : Env := (E0.withFns []).loops live43 ls
@[reducible] def p43_0 : LP := { n := 55, sl := [.c (Leaf.row ( 0)), .d (Kd.sl link), .d (.int .i64), .d (.int .i64)], bl := [(0, .row 34 (link))] }
@[reducible] def p43_1 : LP := { n := 55, sl := [.c (Leaf.row ( 0)), .c (Leaf.ptr ( 1) ( 0)), .d (Kd.sl link), .d (.int .i64), .d (.int .i64), .d (Kd.sl celk), .d (.int .i64), .d (.int .i64)], bl := [(0, .row 34 (link)), (1, .box [.c (Leaf.row ( 2)), .d (Kd.bool)]), (2, .row 48 (celk))] }
def B43_1 (x2 : List Line) (x3 : Int) (x4 : Int) (x5 : List Cell) (x6 : Int) (x7 : Int) (h0 : List Line) (h1_1 : Bool) (h2 : List Cell) : Tr (p43_1.T ⊕ (List Line × Int × Int × List Line × Bool × List Cell)) :=
  let v1 : Int := ((↑(ByteArray.size (rget celk x5 x7).fst) : Int))
  let v2 : Int := (minI v1 (20 : Int))
  Tr.ite (decide (x7 < x6))
    (Tr.ite (inB x7 (List.length x5))
      (Tr.ite (decide ((0 : Int) ≤ v2 ∧ v2 ≤ v1))
        (Tr.ite (decide ((List.length h2 + (1 : Nat)) * (48 : Nat) ≤ (140737488355328 : Nat)))
          (Tr.ret
            (Sum.inl
              ((x2, x3, x4, x5, x6, IntKind.wrap IntKind.i64 (x7 + (1 : Int)), ()), h0, (h1_1, ()), h2 ++ [(ByteArray.extract (rget celk x5 x7).fst (0 : Nat) (Int.toNat v2), (rget celk x5 x7).snd)],
                ())))
          Tr.fail)
        Tr.fail)
      Tr.fail)
    (Tr.ret (Sum.inr (x2, x3, x4, h0, h1_1, h2)))
def X43_1 (r : (List Line × Int × Int × List Line × Bool × List Cell)) : Ex × VS := Prod.mk (Ex.exit ( 2)) { n := 55, v := [Slot.av (AV.one (Leaf.row ( 0))), Slot.av (AV.one (Leaf.ptr ( 1) ( 0))), Slot.av (AV.one (Leaf.dat (Kd.sl link) r.fst)), Slot.av (AV.one (Leaf.dat (.int .i64) r.snd.fst)), Slot.av (AV.one (Leaf.dat (.int .i64) r.snd.snd.fst))], h := [( 0, Blk.row ( 34) link r.snd.snd.snd.fst), ( 1, Blk.box [Leaf.row ( 2), Leaf.dat Kd.bool r.snd.snd.snd.snd.fst]), ( 2, Blk.row ( 48) celk r.snd.snd.snd.snd.snd)] }
def b43_1 : p43_1.T → Tr (p43_1.T ⊕ (List Line × Int × Int × List Line × Bool × List Cell)) := fun ⟨⟨x2, ⟨x3, ⟨x4, ⟨x5, ⟨x6, ⟨x7, _⟩⟩⟩⟩⟩⟩, ⟨h0, ⟨⟨h1_1, _⟩, ⟨h2, _⟩⟩⟩⟩ => B43_1 x2 x3 x4 x5 x6 x7 h0 h1_1 h2
theorem h43_1 (ls : Nat → VS → Option (Tr (Ex × VS))) (x : p43_1.T) : (evC (evI 2) (lc Tryd.f43 1) (Env.lend (M43 ls) 0) (unV (live43 7) (p43_1.V x))).map (decL 0 (live43 7) (live43 1007)) = (b43_1 x).map (encR p43_1.V X43_1) := by
  obtain ⟨⟨x2, ⟨x3, ⟨x4, ⟨x5, ⟨x6, ⟨x7, _⟩⟩⟩⟩⟩⟩, ⟨h0, ⟨⟨h1_1, _⟩, ⟨h2, _⟩⟩⟩⟩ := x; kernel_rfl
theorem c43_1 (x : p43_1.T) : canV 0 (live43 7) (unV (live43 7) (p43_1.V x)) = p43_1.V x := by
  obtain ⟨⟨x2, ⟨x3, ⟨x4, ⟨x5, ⟨x6, ⟨x7, _⟩⟩⟩⟩⟩⟩, ⟨h0, ⟨⟨h1_1, _⟩, ⟨h2, _⟩⟩⟩⟩ := x; kernel_rfl
theorem l43_1 {T : p43_1.T → Tr (List Line × Int × Int × List Line × Bool × List Cell)} {ls : Nat → VS → Option (Tr (Ex × VS))} (hls : ∀ x, (Env.lend (M43 ls) 0).ls 7 x = p43_1.ls (fun a => (T a).map X43_1) x) (hS : ∀ x r, (T x).val = some r → Rounds b43_1 x r) : LoopOK (evI 2) (Env.lend (M43 ls) 0) (lc Tryd.f43 1) :=
  loopA 7 (live43 7) (live43 1007) p43_1 b43_1 X43_1 T (by kernel_rfl) rfl rfl hls (h43_1 ls) c43_1 hS
def T43_1 (x : p43_1.T) : Tr (List Line × Int × Int × List Line × Bool × List Cell) :=
  .ite (decide ((x.1.2.2.2.2.1 : Int) = (List.length (α := Cell) x.1.2.2.2.1 : Int) ∧ (x.1.2.2.2.2.2.1 : Int) = 0 ∧ List.length (α := Cell) x.2.2.2.1 + List.length (α := Cell) x.1.2.2.2.1 ≤ 1048576))
    (.ret (x.1.1, x.1.2.1, x.1.2.2.1, x.2.1, x.2.2.1.1, x.2.2.2.1 ++ List.map (α := Cell) (β := Cell) U.cutC x.1.2.2.2.1)) .fail
abbrev N43 (ls : Nat → VS → Option (Tr (Ex × VS))) : Env := M43 fun key x => bif Nat.beq key 7 then p43_1.ls (fun a => (T43_1 a).map X43_1) x else ls key x
theorem L43_1 {ls : Nat → VS → Option (Tr (Ex × VS))} : LoopOK (evI 2) ((N43 ls).lend 0) (lc Tryd.f43 1) := by
  refine l43_1 (T := T43_1) (fun x => rfl) ?_
  rintro ⟨⟨x2, x3, x4, l, n, i, z⟩, h0, ⟨h1, z1⟩, h2, z2⟩ r h
  obtain ⟨g1, g2⟩ := pre_val h
  obtain ⟨e1, e2, e3⟩ := of_decide_eq_true g1
  dsimp only at e1 e2 e3 g2
  subst e1; subst e2
  cases g2
  have := Rounds.fold0 (B := b43_1) (σ := List Cell) l (fun i s => ((x2, x3, x4, l, (l.length : Int), (i : Int), ()), h0, (h1, ()), s, ())) (fun s c => s ++ [U.cutC c]) (fun s => (x2, x3, x4, h0, h1, s)) (fun i s => s.length + (l.length - i) ≤ 1048576) h2 (by omega) (fun i s hi hv => ?_) (fun s hv => ?_)
  · have e : ∀ (l : List Cell) (a : List Cell), l.foldl (fun s c => s ++ [U.cutC c]) a = a ++ l.map U.cutC := by
      intro l
      induction l with
      | nil => intro a; simp
      | cons x l ih => intro a; rw [List.foldl_cons, ih]; simp
    rw [e] at this
    exact this
  · have e : rget celk l (i : Int) = l[i] := by rw [rgetC]; exact getD_el hi
    have e6 : minI (l[i].1.size : Int) 20 = ((min l[i].1.size 20 : Nat) : Int) := minI_nat _ 20
    have e7 : (0 : Int) ≤ ((min l[i].1.size 20 : Nat) : Int) ∧ ((min l[i].1.size 20 : Nat) : Int) ≤ (l[i].1.size : Int) := by omega
    have e8 : (s.length + 1) * 48 ≤ 140737488355328 := by omega
    refine ⟨?_, by simp only [List.length_append, List.length_singleton]; omega⟩
    simp only [b43_1, B43_1, Tr.val, e, e6, e7, e8, inB_nat hi, Int.toNat_natCast, List.length_singleton, show ((i : Int) < (l.length : Int)) by omega, and_self, decide_true, cond_true, wrap64_nat (show i ≤ 1048576 by omega)]
    rfl
  · simp only [b43_1, B43_1, Tr.val, show ¬ ((l.length : Int) < (l.length : Int)) by omega, decide_false, cond_false]
def B43_0 (x1 : List Line) (x2 : Int) (x3 : Int) (h0 : List Line) : Tr (p43_0.T ⊕ (List Line)) :=
  let v1 : Int := ((↑(List.length (rget link x1 x3).fst) : Int))
  let v2 : Int := (minI v1 (82 : Int))
  let v3 : List Cell := (sub (rget link x1 x3).fst (0 : Nat) (Int.toNat v2))
  let v4 : Int := ((↑(List.length v3) : Int))
  let v5 : Int := ((↑(List.length v3) : Int))
  Tr.ite (decide (x3 < x2))
    (Tr.ite (inB x3 (List.length x1))
      (Tr.ite (decide ((0 : Int) ≤ v2 ∧ v2 ≤ v1))
        (Tr.ite (decide (v5 = v4 ∧ (0 : Int) = (0 : Int) ∧ (0 : Nat) + List.length v3 ≤ (1048576 : Nat)))
          (Tr.ite (decide ((List.length h0 + (1 : Nat)) * (32 : Nat) ≤ (140737488355328 : Nat)))
            (Tr.ret (Sum.inl ((x1, x2, IntKind.wrap IntKind.i64 (x3 + (1 : Int)), ()), h0 ++ [(List.map U.cutC v3, (rget link x1 x3).snd)], ()))) Tr.fail)
          Tr.fail)
        Tr.fail)
      Tr.fail)
    (Tr.ret (Sum.inr h0))
def X43_0 (r : (List Line)) : Ex × VS := Prod.mk (Ex.exit ( 0)) { n := 55, v := [Slot.av (AV.one (Leaf.row ( 0)))], h := [( 0, Blk.row ( 34) link r)] }
def b43_0 : p43_0.T → Tr (p43_0.T ⊕ (List Line)) := fun ⟨⟨x1, ⟨x2, ⟨x3, _⟩⟩⟩, ⟨h0, _⟩⟩ => B43_0 x1 x2 x3 h0
theorem h43_0 (ls : Nat → VS → Option (Tr (Ex × VS))) (x : p43_0.T) : (evC (evI 2) (lc Tryd.f43 0) (Env.lend (N43 ls) 0) (unV (live43 3) (p43_0.V x))).map (decL 0 (live43 3) (live43 1003)) = (b43_0 x).map (encR p43_0.V X43_0) := by
  obtain ⟨⟨x1, ⟨x2, ⟨x3, _⟩⟩⟩, ⟨h0, _⟩⟩ := x; kernel_rfl
theorem c43_0 (x : p43_0.T) : canV 0 (live43 3) (unV (live43 3) (p43_0.V x)) = p43_0.V x := by
  obtain ⟨⟨x1, ⟨x2, ⟨x3, _⟩⟩⟩, ⟨h0, _⟩⟩ := x; kernel_rfl
theorem l43_0 {T : p43_0.T → Tr (List Line)} {ls : Nat → VS → Option (Tr (Ex × VS))} (hls : ∀ x, (Env.lend (N43 ls) 0).ls 3 x = p43_0.ls (fun a => (T a).map X43_0) x) (hS : ∀ x r, (T x).val = some r → Rounds b43_0 x r) : LoopOK (evI 2) (Env.lend (N43 ls) 0) (lc Tryd.f43 0) :=
  loopA 3 (live43 3) (live43 1003) p43_0 b43_0 X43_0 T (by kernel_rfl) rfl rfl hls (h43_0 ls) c43_0 hS
def T43_0 (x : p43_0.T) : Tr (List Line) :=
  .ite (decide ((x.1.2.1 : Int) = (List.length (α := Line) x.1.1 : Int) ∧ (x.1.2.2.1 : Int) = 0 ∧ List.length (α := Line) x.2.1 + List.length (α := Line) x.1.1 ≤ 1048576))
    (.ret (x.2.1 ++ List.map (α := Line) (β := Line) (fun y => (U.cutL y.1, y.2.1, ())) x.1.1)) .fail
abbrev E43 : Env := N43 fun key x => bif Nat.beq key 3 then p43_0.ls (fun a => (T43_0 a).map X43_0) x else none
theorem L43_0 : LoopOK (evI 2) (E43.lend 0) (lc Tryd.f43 0) := by
  refine l43_0 (T := T43_0) (fun x => rfl) ?_
  rintro ⟨⟨l, n, i, z⟩, h0, z2⟩ r h
  obtain ⟨g1, g2⟩ := pre_val h
  obtain ⟨e1, e2, e3⟩ := of_decide_eq_true g1
  dsimp only at e1 e2 e3 g2
  subst e1; subst e2
  cases g2
  have := Rounds.fold0 (B := b43_0) (σ := List Line) l (fun i s => ((l, (l.length : Int), (i : Int), ()), s, ())) (fun s y => s ++ [(U.cutL y.1, y.2.1, ())]) (fun s => s) (fun i s => s.length + (l.length - i) ≤ 1048576) h0 (by omega) (fun i s hi hv => ?_) (fun s hv => ?_)
  · have e : ∀ (l : List Line) (a : List Line), l.foldl (fun s y => s ++ [(U.cutL y.1, y.2.1, ())]) a = a ++ l.map (fun y => (U.cutL y.1, y.2.1, ())) := by
      intro l
      induction l with
      | nil => intro a; simp
      | cons x l ih => intro a; rw [List.foldl_cons, ih]; simp
    rw [e] at this
    exact this
  · have e : rget link l (i : Int) = l[i] := by rw [rgetL]; exact getD_el hi
    have e6 : minI (l[i].1.length : Int) 82 = ((min l[i].1.length 82 : Nat) : Int) := minI_nat _ 82
    have e7 : (0 : Int) ≤ ((min l[i].1.length 82 : Nat) : Int) ∧ ((min l[i].1.length 82 : Nat) : Int) ≤ (l[i].1.length : Int) := by omega
    have e8 : (s.length + 1) * 32 ≤ 140737488355328 := by omega
    have e9 : sub l[i].1 0 (min l[i].1.length 82) = l[i].1.take 82 := by
      unfold sub
      rw [List.drop_zero]
      rcases Nat.le_total l[i].1.length 82 with h | h
      · rw [Nat.min_eq_left h, List.take_length, List.take_of_length_le h]
      · rw [Nat.min_eq_right h]
    have e10 : 0 + (l[i].1.take 82).length ≤ 1048576 := by rw [List.length_take]; omega
    refine ⟨?_, by simp only [List.length_append, List.length_singleton]; omega⟩
    simp only [b43_0, B43_0, Tr.val, e, e6, e7, e8, e9, e10, inB_nat hi, Int.toNat_natCast, List.length_singleton, List.length_nil, show ((i : Int) < (l.length : Int)) by omega, and_self, decide_true, cond_true, wrap64_nat (show i ≤ 1048576 by omega)]
    rfl
  · simp only [b43_0, B43_0, Tr.val, show ¬ ((l.length : Int) < (l.length : Int)) by omega, decide_false, cond_false]
def d43 (a : List Line) : Tr (List Line) :=
  let v1 : Int := ((↑(List.length a) : Int))
  let v2 : Int := (minI v1 (30 : Int))
  let v3 : List Line := (sub a (0 : Nat) (Int.toNat v2))
  let v4 : Int := ((↑(List.length v3) : Int))
  let v5 : Int := ((↑(List.length v3) : Int))
  Tr.ite (decide ((0 : Int) ≤ v2 ∧ v2 ≤ v1))
    (Tr.ite (decide (v5 = v4 ∧ (0 : Int) = (0 : Int) ∧ (0 : Nat) + List.length v3 ≤ (1048576 : Nat))) (Tr.ret (List.map (fun (y : Line) => (U.cutL y.fst, y.snd.fst, ())) v3)) Tr.fail) Tr.fail
def e43 (r : List Line) : FRes := { rs := Slot.av (AV.one (Leaf.dat (Kd.sl link) r)), upd := [], new := [] }
@[reducible] def a43 : List AK := [AK.d (Kd.sl link)]
@[reducible] def b43 : List BK := []
theorem t43 (a : List Line) : evFn (E43) Tryd.f43 [PM.data (Kd.sl link)] (akAV a43 (a, ())) (bkBs b43 ()) = (d43 a).map e43 := by kernel_rfl
def s43' (G : akT a43 → List Line) : FSpec := aspec0 a43 b43 e43 (fun x _ => G x)
theorem k43' {G : akT a43 → List Line} (hd : ∀ (a : List Line), (d43 a).val = some (G (a, ()))) (IO : ItOK Tryd.prog (E43) := by exact itOK_none rfl) (L : ∀ c, Tryd.f43.body = some c → LsOK (evI 2) ((E43).lend 0) c := by exact fun c _ => LsOK_none rfl c) : SpecOK Tryd.prog E0 43 (s43' G) :=
  aspec0_ok (ak := a43) (bl := b43) (e := e43) (g := fun x _ => G x) (E0 := E0) (E := E43) tab .nil rfl rfl hm Tryd.func43 (by kernel_rfl) [PM.data (Kd.sl link)] (fun X Y => by obtain ⟨a, _⟩ := X; exact val_of (t43 a) (hd a)) IO L
abbrev w43 : FSpec := s43' fun x => U.few x.1 30
theorem wk43 : SpecOK Tryd.prog E0 43 w43 := by
  refine k43' (fun l => ?_) (L := ls_ok (lcs := [lc Tryd.f43 0, lc Tryd.f43 1]) (rgs := []) (by kernel_rfl) (by kernel_rfl) ⟨L43_0, L43_1⟩ trivial)
  show _ = some (U.few l 30)
  have e6 : minI (l.length : Int) 30 = ((min l.length 30 : Nat) : Int) := minI_nat _ 30
  have e7 : (0 : Int) ≤ ((min l.length 30 : Nat) : Int) ∧ ((min l.length 30 : Nat) : Int) ≤ (l.length : Int) := by omega
  have e9 : sub l 0 (min l.length 30) = l.take 30 := by
    unfold sub
    rw [List.drop_zero]
    rcases Nat.le_total l.length 30 with h | h
    · rw [Nat.min_eq_left h, List.take_length, List.take_of_length_le h]
    · rw [Nat.min_eq_right h]
  have e10 : 0 + (l.take 30).length ≤ 1048576 := by rw [List.length_take]; omega
  simp only [d43, Tr.val, e6, e7, e9, e10, Int.toNat_natCast, List.length_nil, and_self, decide_true, cond_true, List.nil_append]
  rfl
def live46 (key : Nat) : Lv :=
  bif Nat.beq key 25001 then { ls := [9999, 6] } else bif Nat.beq key 45001 then { ls := [6, 7, 8, 9, 10, 11, 12, 13, 14, 15, 16, 17, 18, 19, 20, 21, 22, 23, 24, 25, 26, 27, 28] } else
  { ls := [] }
def d46 (a : List Line) (b : Int) (c : Int) : Tr (Bool) :=
  let v1 : Int := ((↑(List.length a) : Int))
  let v2 : Bool := (decide ((0 : Int) ≤ b))
  let v3 : Bool := (decide ((0 : Int) ≤ c))
  let v4 : Int := ((↑(List.length (rget link a b).fst) : Int))
  let v5 : Bool := (decide (b < v1))
  Tr.ite (bif v2 then bif v5 then bif v3 then inB b (List.length a) else true else true else true) (Tr.ret (bif v2 then bif v5 then bif v3 then decide (c < v4) else false else false else false)) Tr.fail
def e46 (r : Bool) : FRes := { rs := Slot.av (AV.one (Leaf.dat Kd.bool r)), upd := [], new := [] }
@[reducible] def a46 : List AK := [AK.d (Kd.sl link), AK.d (.int .i64), AK.d (.int .i64)]
@[reducible] def b46 : List BK := []
theorem t46 (a : List Line) (b : Int) (c : Int) : evFn (Env.loops E0 live46 fun (x : Nat) (x_1 : VS) => none) Tryd.f46 [PM.data Kd.bool] (akAV a46 (a, b, c, ())) (bkBs b46 ()) = (d46 a b c).map e46 := by kernel_rfl
def s46' (G : akT a46 → Bool) : FSpec := aspec0 a46 b46 e46 (fun x _ => G x)
theorem k46' {G : akT a46 → Bool} (hd : ∀ (a : List Line) (b : Int) (c : Int), (d46 a b c).val = some (G (a, b, c, ()))) (IO : ItOK Tryd.prog (Env.loops E0 live46 fun (x : Nat) (x_1 : VS) => none) := by exact itOK_none rfl) (L : ∀ c, Tryd.f46.body = some c → LsOK (evI 2) ((Env.loops E0 live46 fun (x : Nat) (x_1 : VS) => none).lend 0) c := by exact fun c _ => LsOK_none rfl c) : SpecOK Tryd.prog E0 46 (s46' G) :=
  aspec0_ok (ak := a46) (bl := b46) (e := e46) (g := fun x _ => G x) (E0 := E0) (E := Env.loops E0 live46 fun (x : Nat) (x_1 : VS) => none) tab .nil rfl rfl hm Tryd.func46 (by kernel_rfl) [PM.data Kd.bool] (fun X Y => by obtain ⟨a, ⟨b, ⟨c, _⟩⟩⟩ := X; exact val_of (t46 a b c) (hd a b c)) IO L
def live103 (key : Nat) : Lv :=
  bif Nat.beq key 25001 then { ls := [9999, 6] } else bif Nat.beq key 45001 then { ls := [6, 7, 8, 9, 10, 11, 12, 13, 14, 15, 16, 17, 18, 19, 20, 21, 22, 23, 24, 25, 26, 27, 28] } else
  { ls := [] }
def d103 (a : List Line) (b : Int) (c : Int) : Tr (Bool) :=
  let v1 : Int := ((↑(List.length a) : Int))
  let v2 : Bool := (decide ((0 : Int) ≤ c))
  let v3 : Bool := (decide ((0 : Int) ≤ b))
  let v4 : Int := ((↑(List.length (rget link a b).fst) : Int))
  let v5 : Bool := (decide (b < v1))
  Tr.ite (bif v3 then bif v5 then bif v2 then inB b (List.length a) else true else true else true) (Tr.ret (bif v3 then bif v5 then bif v2 then decide (c < v4) else false else false else false)) Tr.fail
def e103 (r : Bool) : FRes := { rs := Slot.av (AV.one (Leaf.dat Kd.bool r)), upd := [], new := [] }
@[reducible] def a103 : List AK := [AK.d (Kd.sl link), AK.d (.int .i64), AK.d (.int .i64)]
@[reducible] def b103 : List BK := []
theorem t103 (a : List Line) (b : Int) (c : Int) : evFn (Env.loops E0 live103 fun (x : Nat) (x_1 : VS) => none) Tryd.f103 [PM.data Kd.bool] (akAV a103 (a, b, c, ())) (bkBs b103 ()) = (d103 a b c).map e103 := by kernel_rfl
def s103' (G : akT a103 → Bool) : FSpec := aspec0 a103 b103 e103 (fun x _ => G x)
theorem k103' {G : akT a103 → Bool} (hd : ∀ (a : List Line) (b : Int) (c : Int), (d103 a b c).val = some (G (a, b, c, ()))) (IO : ItOK Tryd.prog (Env.loops E0 live103 fun (x : Nat) (x_1 : VS) => none) := by exact itOK_none rfl) (L : ∀ c, Tryd.f103.body = some c → LsOK (evI 2) ((Env.loops E0 live103 fun (x : Nat) (x_1 : VS) => none).lend 0) c := by exact fun c _ => LsOK_none rfl c) : SpecOK Tryd.prog E0 103 (s103' G) :=
  aspec0_ok (ak := a103) (bl := b103) (e := e103) (g := fun x _ => G x) (E0 := E0) (E := Env.loops E0 live103 fun (x : Nat) (x_1 : VS) => none) tab .nil rfl rfl hm Tryd.func103 (by kernel_rfl) [PM.data Kd.bool] (fun X Y => by obtain ⟨a, ⟨b, ⟨c, _⟩⟩⟩ := X; exact val_of (t103 a b c) (hd a b c)) IO L
def live50 (key : Nat) : Lv :=
  bif Nat.beq key 25001 then { ls := [9999, 8] } else bif Nat.beq key 45001 then { ls := [8, 9, 10, 11, 12, 13, 14, 15, 16, 17, 18, 19, 20, 21] } else
  { ls := [] }
def d50 (a : Int) (b : Int) (c : Int) (y : Int) : Tr (Bool) :=
  Tr.ret (bif decide (c < a) then true else bif decide (a = c) then decide (y < b) else false)
def e50 (r : Bool) : FRes := { rs := Slot.av (AV.one (Leaf.dat Kd.bool r)), upd := [], new := [] }
@[reducible] def a50 : List AK := [AK.d (.int .i64), AK.d (.int .i64), AK.d (.int .i64), AK.d (.int .i64)]
@[reducible] def b50 : List BK := []
theorem t50 (a : Int) (b : Int) (c : Int) (y : Int) : evFn (Env.loops E0 live50 fun (x : Nat) (x_1 : VS) => none) Tryd.f50 [PM.data Kd.bool] (akAV a50 (a, b, c, y, ())) (bkBs b50 ()) = (d50 a b c y).map e50 := by kernel_rfl
def s50' (G : akT a50 → Bool) : FSpec := aspec0 a50 b50 e50 (fun x _ => G x)
theorem k50' {G : akT a50 → Bool} (hd : ∀ (a : Int) (b : Int) (c : Int) (y : Int), (d50 a b c y).val = some (G (a, b, c, y, ()))) (IO : ItOK Tryd.prog (Env.loops E0 live50 fun (x : Nat) (x_1 : VS) => none) := by exact itOK_none rfl) (L : ∀ c, Tryd.f50.body = some c → LsOK (evI 2) ((Env.loops E0 live50 fun (x : Nat) (x_1 : VS) => none).lend 0) c := by exact fun c _ => LsOK_none rfl c) : SpecOK Tryd.prog E0 50 (s50' G) :=
  aspec0_ok (ak := a50) (bl := b50) (e := e50) (g := fun x _ => G x) (E0 := E0) (E := Env.loops E0 live50 fun (x : Nat) (x_1 : VS) => none) tab .nil rfl rfl hm Tryd.func50 (by kernel_rfl) [PM.data Kd.bool] (fun X Y => by obtain ⟨a, ⟨b, ⟨c, ⟨y, _⟩⟩⟩⟩ := X; exact val_of (t50 a b c y) (hd a b c y)) IO L
theorem there_eq (l : List Line) (r c : Int) : (Tr.ite (bif decide (0 ≤ r) then bif decide (r < (l.length : Int)) then bif decide (0 ≤ c) then inB r l.length else true else true else true) (Tr.ret (bif decide (0 ≤ r) then bif decide (r < (l.length : Int)) then bif decide (0 ≤ c) then decide (c < ((rget link l r).1.length : Int)) else false else false else false)) Tr.fail).val = some (U.there l r c) := by
  unfold U.there
  by_cases h1 : 0 ≤ r
  · by_cases h2 : r < (l.length : Int)
    · obtain ⟨n, rfl⟩ := Int.eq_ofNat_of_zero_le h1
      have i1 : inB (n : Int) l.length = true := inB_nat (by omega)
      by_cases h3 : 0 ≤ c
      · simp only [Tr.val, h1, h2, h3, i1, rgetL, decide_true, cond_true, Bool.true_and, Int.toNat_natCast]
      · simp only [Tr.val, h1, h2, h3, decide_true, decide_false, cond_true, cond_false, Bool.true_and, Bool.false_and]
    · simp only [Tr.val, h1, h2, decide_true, decide_false, cond_true, cond_false, Bool.true_and, Bool.false_and]
  · simp only [Tr.val, h1, decide_false, cond_true, cond_false, Bool.false_and]
abbrev w46 : FSpec := s46' fun x => U.there x.1 x.2.1 x.2.2.1
theorem wk46 : SpecOK Tryd.prog E0 46 w46 := k46' fun l r c => there_eq l r c
abbrev w103 : FSpec := s103' fun x => U.there x.1 x.2.1 x.2.2.1
theorem wk103 : SpecOK Tryd.prog E0 103 w103 := k103' fun l r c => there_eq l r c
abbrev w50 : FSpec := s50' fun x => U.behind x.1 x.2.1 x.2.2.1 x.2.2.2.1
theorem wk50 : SpecOK Tryd.prog E0 50 w50 := k50' fun a b c y => by
  show _ = some (U.behind a b c y)
  unfold U.behind
  simp only [d50, Tr.val]
  cases decide (c < a) <;> cases decide (a = c) <;> rfl
end Go.Proofs.YtmnbcnhpklejcaaDoor

end
