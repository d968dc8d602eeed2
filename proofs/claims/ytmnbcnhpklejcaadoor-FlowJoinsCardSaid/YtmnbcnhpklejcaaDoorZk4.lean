/- Part 4 of what the proof leans on: an evaluator of Go code over plain data, with its soundness; contracts of functions; laws of plain data. -/
import Derived.Laws.Externs
import Derived.Test.YtmnbcnhpklejcaaDoorZk3
section
set_option linter.unusedVariables false
set_option linter.unusedSimpArgs false
set_option maxRecDepth 20000
open Go Go.Ev
namespace U
open Go.Proofs.YtmnbcnhpklejcaaDoor
theorem bt_strOf {l : List Int} (h : ∀ x ∈ l, 0 ≤ x ∧ x ≤ 255) {i : Nat} (hi : i < l.length) : bt (strOf l) (i : Int) = l.getD i 0 := by
  rw [bt_eq (by omega)]
  have e : bl (strOf l) = l.map fun n => UInt8.ofNat n.toNat := by unfold strOf; rw [bl_mk]
  obtain ⟨h0, h1⟩ := h l[i] (List.getElem_mem hi)
  rw [e, Int.toNat_natCast, getD_el (by simpa using hi), List.getElem_map, getD_el hi]
  show ((UInt8.ofNat l[i].toNat).toNat : Int) = l[i]
  rw [UInt8.toNat_ofNat']
  have : l[i].toNat % 2 ^ 8 = l[i].toNat := Nat.mod_eq_of_lt (by omega)
  rw [this]
  omega
theorem bytesL_at {s : ByteArray} {i : Nat} (hi : i < s.size) : (bytesL s).getD i 0 = bt s (i : Int) := by
  have h2 : i < s.data.toList.length := by
    have := bl_len s
    unfold bl at this
    omega
  rw [bt_eq (by omega), Int.toNat_natCast]
  unfold bytesL bl
  rw [List.getD_eq_getElem?_getD, List.getD_eq_getElem?_getD, List.getElem?_map, List.getElem?_eq_getElem h2]
  rfl
theorem bytesL_in {s : ByteArray} : ∀ x ∈ bytesL s, 0 ≤ x ∧ x ≤ 255 := by
  intro x hx
  unfold bytesL at hx
  obtain ⟨b, _, rfl⟩ := List.mem_map.1 hx
  have := UInt8.toNat_lt b
  omega
theorem fill_at {s : ByteArray} {n : Nat} {c : Int} (hc : 0 ≤ c ∧ c ≤ 255) (hs : s.size ≤ n) {i : Nat} (hi : i < n) : bt (strOf (fillTo (bytesL s) n c)) (i : Int) = if i < s.size then bt s (i : Int) else c := by
  have hl : (bytesL s).length = s.size := Ev.bytesL_len
  rw [bt_strOf (fun x hx => ?_) (by rw [fillTo_len (by omega)]; exact hi)]
  · unfold fillTo
    by_cases h : i < s.size
    · rw [if_pos h, ← bytesL_at h, List.getD_eq_getElem?_getD, List.getD_eq_getElem?_getD, List.getElem?_append_left (by omega)]
    · rw [if_neg h, List.getD_eq_getElem?_getD, List.getElem?_append_right (by omega), List.getElem?_replicate, if_pos (by omega)]
      rfl
  · rcases List.mem_append.1 hx with hx | hx
    · exact bytesL_in x hx
    · rw [List.eq_of_mem_replicate hx]; exact hc
theorem fill_size {s : ByteArray} {n : Nat} {c : Int} (hs : s.size ≤ n) : (strOf (fillTo (bytesL s) n c)).size = n := by
  rw [strOf_size, fillTo_len (by rw [Ev.bytesL_len]; exact hs)]
theorem rv2 {s : ByteArray} (h : s.size = 2) : rv s = if cont (bt s (1 : Nat)) = true then 64 * (bt s 0 - 192) + bt s (1 : Nat) - 128 else -1 := by
  unfold rv vL
  rw [h, if_neg (by omega)]
  simp only [vl, head, List.getD, show (2 : Nat) - 1 = 0 + 1 from rfl]
  by_cases h1 : cont (bt s (1 : Nat)) = true <;> simp_all
theorem rv3 {s : ByteArray} (h : s.size = 3) : rv s = if cont (bt s (1 : Nat)) = true ∧ cont (bt s (2 : Nat)) = true then 64 * (64 * (bt s 0 - 224) + bt s (1 : Nat) - 128) + bt s (2 : Nat) - 128 else -1 := by
  unfold rv vL
  rw [h, if_neg (by omega)]
  simp only [vl, head, List.getD, show (3 : Nat) - 1 = 0 + 1 + 1 from rfl]
  by_cases h1 : cont (bt s (1 : Nat)) = true <;> by_cases h2 : cont (bt s (2 : Nat)) = true <;> simp_all
theorem rv4 {s : ByteArray} (h : s.size = 4) : rv s = if cont (bt s (1 : Nat)) = true ∧ cont (bt s (2 : Nat)) = true ∧ cont (bt s (3 : Nat)) = true then 64 * (64 * (64 * (bt s 0 - 240) + bt s (1 : Nat) - 128) + bt s (2 : Nat) - 128) + bt s (3 : Nat) - 128 else -1 := by
  unfold rv vL
  rw [h, if_neg (by omega)]
  simp only [vl, head, List.getD, show (4 : Nat) - 1 = 0 + 1 + 1 + 1 from rfl]
  by_cases h1 : cont (bt s (1 : Nat)) = true <;> by_cases h2 : cont (bt s (2 : Nat)) = true <;> by_cases h3 : cont (bt s (3 : Nat)) = true <;> simp_all
theorem cont_iff {c : Int} : cont c = true ↔ 128 ≤ c ∧ c ≤ 191 := by simp [cont]
theorem beg2 {s : ByteArray} {n : Nat} (hn : need (bt s 0) = n) (h2 : 2 ≤ n) (hs : 2 ≤ s.size) : beg (s.extract 0 2) n = ok1 s := by
  have hz : (s.extract 0 2).size = 2 := size_pre hs
  have t0 : bt (s.extract 0 2) 0 = bt s 0 := bt_pre (i := 0) (by omega) hs
  have t1 : bt (s.extract 0 2) (1 : Nat) = bt s (1 : Nat) := bt_pre (i := 1) (by omega) hs
  have F : ∀ (c : Int), 0 ≤ c ∧ c ≤ 255 → ∀ i, i < n → bt (strOf (fillTo (bytesL (s.extract 0 2)) n c)) (i : Nat) = if i < 2 then bt (s.extract 0 2) (i : Nat) else c := fun c hc i hi => by
    rw [fill_at hc (by omega) hi, hz]
  have Z : ∀ c, (strOf (fillTo (bytesL (s.extract 0 2)) n c)).size = n := fun c => fill_size (by omega)
  have b1 := bt_ge s (1 : Nat)
  have b2 := bt_lt s (1 : Nat)
  have hN := need_cases (bt s 0)
  have e1 : bt s 1 = bt s (1 : Nat) := rfl
  unfold beg ok1
  rw [hz, e1]
  have ha : allN (fun i => cont (bt (s.extract 0 2) ((i + 1 : Nat) : Int))) (2 - 1) 0 = cont (bt s (1 : Nat)) := by
    show (cont (bt (s.extract 0 2) ((0 + 1 : Nat) : Int)) && true) = _
    rw [Bool.and_true]
    exact congrArg cont t1
  rw [ha]
  have hc8 : cont 128 = true := by decide
  have hc9 : cont 191 = true := by decide
  have f0 : ∀ c, 0 ≤ c ∧ c ≤ 255 → bt (strOf (fillTo (bytesL (s.extract 0 2)) n c)) 0 = bt s 0 := fun c hc => (F c hc 0 (by omega)).trans (by rw [if_pos (by omega)]; exact t0)
  have f1 : ∀ c, 0 ≤ c ∧ c ≤ 255 → bt (strOf (fillTo (bytesL (s.extract 0 2)) n c)) (1 : Nat) = bt s (1 : Nat) := fun c hc => (F c hc 1 (by omega)).trans (by rw [if_pos (by omega)]; exact t1)
  have f2 : ∀ c, 0 ≤ c ∧ c ≤ 255 → 3 ≤ n → bt (strOf (fillTo (bytesL (s.extract 0 2)) n c)) (2 : Nat) = c := fun c hc h => (F c hc 2 (by omega)).trans (by rw [if_neg (by omega)])
  have f3 : ∀ c, 0 ≤ c ∧ c ≤ 255 → 4 ≤ n → bt (strOf (fillTo (bytesL (s.extract 0 2)) n c)) (3 : Nat) = c := fun c hc h => (F c hc 3 (by omega)).trans (by rw [if_neg (by omega)])
  cases hcb : cont (bt s (1 : Nat)) with
  | false =>
    have h1 := lo_ge (bt s 0)
    have h2 := hi_le (bt s 0)
    have : ¬ (128 ≤ bt s (1 : Nat) ∧ bt s (1 : Nat) ≤ 191) := fun h => by rw [cont_iff.2 h] at hcb; cases hcb
    rw [Bool.false_and, eq_comm, Bool.and_eq_false_iff, decide_eq_false_iff_not, decide_eq_false_iff_not]
    omega
  | true =>
    have h1 := cont_iff.1 hcb
    rw [Bool.true_and]
    have hn3 : n = 2 ∨ n = 3 ∨ n = 4 := by omega
    rcases hn3 with rfl | rfl | rfl
    · rw [rv2 (Z 128), rv2 (Z 191), f0 _ (by omega), f0 _ (by omega), f1 _ (by omega), f1 _ (by omega), if_pos hcb]
      rw [Bool.eq_iff_iff, show floor 2 = 128 from rfl]
      simp only [rng, lo, hi, Bool.and_eq_true, Bool.not_eq_true', Bool.or_eq_false_iff, decide_eq_false_iff_not, decide_eq_true_eq, Bool.or_eq_true]
      repeat' split
      all_goals simp only [decide_eq_true_eq]
      all_goals omega
    · rw [rv3 (Z 128), rv3 (Z 191), f0 _ (by omega), f0 _ (by omega), f1 _ (by omega), f1 _ (by omega), f2 _ (by omega) (by omega), f2 _ (by omega) (by omega), if_pos ⟨hcb, hc8⟩, if_pos ⟨hcb, hc9⟩]
      rw [Bool.eq_iff_iff, show floor 3 = 2048 from rfl]
      simp only [rng, lo, hi, Bool.and_eq_true, Bool.not_eq_true', Bool.or_eq_false_iff, decide_eq_false_iff_not, decide_eq_true_eq, Bool.or_eq_true]
      repeat' split
      all_goals simp only [decide_eq_true_eq]
      all_goals omega
    · rw [rv4 (Z 128), rv4 (Z 191), f0 _ (by omega), f0 _ (by omega), f1 _ (by omega), f1 _ (by omega), f2 _ (by omega) (by omega), f2 _ (by omega) (by omega), f3 _ (by omega) (by omega), f3 _ (by omega) (by omega), if_pos ⟨hcb, hc8, hc8⟩, if_pos ⟨hcb, hc9, hc9⟩]
      rw [Bool.eq_iff_iff, show floor 4 = 65536 from rfl]
      simp only [rng, lo, hi, Bool.and_eq_true, Bool.not_eq_true', Bool.or_eq_false_iff, decide_eq_false_iff_not, decide_eq_true_eq, Bool.or_eq_true]
      repeat' split
      all_goals simp only [decide_eq_true_eq]
      all_goals omega
theorem beg3 {s : ByteArray} {n : Nat} (hn : need (bt s 0) = n) (h2 : 3 ≤ n) (hs : 3 ≤ s.size) (ho : ok1 s = true) : beg (s.extract 0 3) n = cont (bt s (2 : Nat)) := by
  have hz : (s.extract 0 3).size = 3 := size_pre hs
  have t0 : bt (s.extract 0 3) 0 = bt s 0 := bt_pre (i := 0) (by omega) hs
  have t1 : bt (s.extract 0 3) (1 : Nat) = bt s (1 : Nat) := bt_pre (i := 1) (by omega) hs
  have t2 : bt (s.extract 0 3) (2 : Nat) = bt s (2 : Nat) := bt_pre (i := 2) (by omega) hs
  have F : ∀ (c : Int), 0 ≤ c ∧ c ≤ 255 → ∀ i, i < n → bt (strOf (fillTo (bytesL (s.extract 0 3)) n c)) (i : Nat) = if i < 3 then bt (s.extract 0 3) (i : Nat) else c := fun c hc i hi => by
    rw [fill_at hc (by omega) hi, hz]
  have Z : ∀ c, (strOf (fillTo (bytesL (s.extract 0 3)) n c)).size = n := fun c => fill_size (by omega)
  have hN := need_cases (bt s 0)
  have b3 := bt_ge s (2 : Nat)
  have hl := lo_ge (bt s 0)
  have hh := hi_le (bt s 0)
  unfold ok1 at ho
  simp only [Bool.and_eq_true, decide_eq_true_eq] at ho
  have e1 : bt s 1 = bt s (1 : Nat) := rfl
  rw [e1] at ho
  have hcb : cont (bt s (1 : Nat)) = true := cont_iff.2 (by omega)
  unfold beg
  rw [hz]
  have ha : allN (fun i => cont (bt (s.extract 0 3) ((i + 1 : Nat) : Int))) (3 - 1) 0 = cont (bt s (2 : Nat)) := by
    show (cont (bt (s.extract 0 3) ((0 + 1 : Nat) : Int)) && (cont (bt (s.extract 0 3) ((1 + 1 : Nat) : Int)) && true)) = _
    rw [Bool.and_true, show cont (bt (s.extract 0 3) ((0 + 1 : Nat) : Int)) = true from (congrArg cont t1).trans hcb, Bool.true_and]
    exact congrArg cont t2
  rw [ha]
  have hc8 : cont 128 = true := by decide
  have hc9 : cont 191 = true := by decide
  have f0 : ∀ c, 0 ≤ c ∧ c ≤ 255 → bt (strOf (fillTo (bytesL (s.extract 0 3)) n c)) 0 = bt s 0 := fun c hc => (F c hc 0 (by omega)).trans (by rw [if_pos (by omega)]; exact t0)
  have f1 : ∀ c, 0 ≤ c ∧ c ≤ 255 → bt (strOf (fillTo (bytesL (s.extract 0 3)) n c)) (1 : Nat) = bt s (1 : Nat) := fun c hc => (F c hc 1 (by omega)).trans (by rw [if_pos (by omega)]; exact t1)
  have f2 : ∀ c, 0 ≤ c ∧ c ≤ 255 → bt (strOf (fillTo (bytesL (s.extract 0 3)) n c)) (2 : Nat) = bt s (2 : Nat) := fun c hc => (F c hc 2 (by omega)).trans (by rw [if_pos (by omega)]; exact t2)
  have f3 : ∀ c, 0 ≤ c ∧ c ≤ 255 → 4 ≤ n → bt (strOf (fillTo (bytesL (s.extract 0 3)) n c)) (3 : Nat) = c := fun c hc h => (F c hc 3 (by omega)).trans (by rw [if_neg (by omega)])
  cases hcb2 : cont (bt s (2 : Nat)) with
  | false => rfl
  | true =>
    have h1 := cont_iff.1 hcb2
    rw [Bool.true_and]
    have hn3 : n = 3 ∨ n = 4 := by omega
    rcases hn3 with rfl | rfl
    · rw [rv3 (Z 128), rv3 (Z 191), f0 _ (by omega), f0 _ (by omega), f1 _ (by omega), f1 _ (by omega), f2 _ (by omega), f2 _ (by omega), if_pos ⟨hcb, hcb2⟩]
      simp only [rng, show floor 3 = 2048 from rfl, Bool.and_eq_true, Bool.not_eq_true', Bool.or_eq_false_iff, decide_eq_false_iff_not, decide_eq_true_eq, Bool.or_eq_true]
      unfold lo hi at ho
      repeat' split at ho
      all_goals omega
    · rw [rv4 (Z 128), rv4 (Z 191), f0 _ (by omega), f0 _ (by omega), f1 _ (by omega), f1 _ (by omega), f2 _ (by omega), f2 _ (by omega), f3 _ (by omega) (by omega), f3 _ (by omega) (by omega), if_pos ⟨hcb, hcb2, hc8⟩, if_pos ⟨hcb, hcb2, hc9⟩]
      simp only [rng, show floor 4 = 65536 from rfl, Bool.and_eq_true, Bool.not_eq_true', Bool.or_eq_false_iff, decide_eq_false_iff_not, decide_eq_true_eq, Bool.or_eq_true]
      unfold lo hi at ho
      repeat' split at ho
      all_goals omega
theorem beg4 {s : ByteArray} (hn : need (bt s 0) = 4) (hs : 4 ≤ s.size) (ho : ok1 s = true) (hc : cont (bt s (2 : Nat)) = true) : beg (s.extract 0 4) 4 = cont (bt s (3 : Nat)) := by
  have hz : (s.extract 0 4).size = 4 := size_pre hs
  have t0 : bt (s.extract 0 4) 0 = bt s 0 := bt_pre (i := 0) (by omega) hs
  have t1 : bt (s.extract 0 4) (1 : Nat) = bt s (1 : Nat) := bt_pre (i := 1) (by omega) hs
  have t2 : bt (s.extract 0 4) (2 : Nat) = bt s (2 : Nat) := bt_pre (i := 2) (by omega) hs
  have t3 : bt (s.extract 0 4) (3 : Nat) = bt s (3 : Nat) := bt_pre (i := 3) (by omega) hs
  have F : ∀ (c : Int), 0 ≤ c ∧ c ≤ 255 → ∀ i, i < 4 → bt (strOf (fillTo (bytesL (s.extract 0 4)) 4 c)) (i : Nat) = bt (s.extract 0 4) (i : Nat) := fun c hc i hi => by
    rw [fill_at hc (by omega) hi, hz, if_pos hi]
  have Z : ∀ c, (strOf (fillTo (bytesL (s.extract 0 4)) 4 c)).size = 4 := fun c => fill_size (by omega)
  have hN := need_cases (bt s 0)
  have hl := lo_ge (bt s 0)
  have hh := hi_le (bt s 0)
  unfold ok1 at ho
  simp only [Bool.and_eq_true, decide_eq_true_eq] at ho
  have e1 : bt s 1 = bt s (1 : Nat) := rfl
  rw [e1] at ho
  have hcb : cont (bt s (1 : Nat)) = true := cont_iff.2 (by omega)
  unfold beg
  rw [hz]
  have ha : allN (fun i => cont (bt (s.extract 0 4) ((i + 1 : Nat) : Int))) (4 - 1) 0 = cont (bt s (3 : Nat)) := by
    show (cont (bt (s.extract 0 4) ((0 + 1 : Nat) : Int)) && (cont (bt (s.extract 0 4) ((1 + 1 : Nat) : Int)) && (cont (bt (s.extract 0 4) ((2 + 1 : Nat) : Int)) && true))) = _
    rw [Bool.and_true, show cont (bt (s.extract 0 4) ((0 + 1 : Nat) : Int)) = true from (congrArg cont t1).trans hcb, show cont (bt (s.extract 0 4) ((1 + 1 : Nat) : Int)) = true from (congrArg cont t2).trans hc, Bool.true_and, Bool.true_and]
    exact congrArg cont t3
  rw [ha]
  have f0 : ∀ c, 0 ≤ c ∧ c ≤ 255 → bt (strOf (fillTo (bytesL (s.extract 0 4)) 4 c)) 0 = bt s 0 := fun c hc => (F c hc 0 (by omega)).trans t0
  have f1 : ∀ c, 0 ≤ c ∧ c ≤ 255 → bt (strOf (fillTo (bytesL (s.extract 0 4)) 4 c)) (1 : Nat) = bt s (1 : Nat) := fun c hc => (F c hc 1 (by omega)).trans t1
  have f2 : ∀ c, 0 ≤ c ∧ c ≤ 255 → bt (strOf (fillTo (bytesL (s.extract 0 4)) 4 c)) (2 : Nat) = bt s (2 : Nat) := fun c hc => (F c hc 2 (by omega)).trans t2
  have f3 : ∀ c, 0 ≤ c ∧ c ≤ 255 → bt (strOf (fillTo (bytesL (s.extract 0 4)) 4 c)) (3 : Nat) = bt s (3 : Nat) := fun c hc => (F c hc 3 (by omega)).trans t3
  cases hcb2 : cont (bt s (3 : Nat)) with
  | false => rfl
  | true =>
    have h1 := cont_iff.1 hcb2
    have h2 := cont_iff.1 hc
    rw [Bool.true_and, rv4 (Z 128), rv4 (Z 191), f0 _ (by omega), f0 _ (by omega), f1 _ (by omega), f1 _ (by omega), f2 _ (by omega), f2 _ (by omega), f3 _ (by omega), f3 _ (by omega), if_pos ⟨hcb, hc, hcb2⟩]
    simp only [rng, show floor 4 = 65536 from rfl, Bool.and_eq_true, Bool.not_eq_true', Bool.or_eq_false_iff, decide_eq_false_iff_not, decide_eq_true_eq, Bool.or_eq_true]
    unfold lo hi at ho
    repeat' split at ho
    all_goals omega
theorem rvx1 {s : ByteArray} (h : 1 ≤ s.size) : rv (s.extract 0 1) = bt s 0 := by
  have hz : (s.extract 0 1).size = 1 := size_pre h
  unfold rv vL
  rw [if_pos hz]
  exact bt_pre (i := 0) (by omega) h
theorem rvx2 {s : ByteArray} (h : 2 ≤ s.size) (h1 : cont (bt s (1 : Nat)) = true) : rv (s.extract 0 2) = val2 s := by
  rw [rv2 (size_pre h), show bt (s.extract 0 2) (1 : Nat) = bt s (1 : Nat) from bt_pre (i := 1) (by omega) h, show bt (s.extract 0 2) 0 = bt s 0 from bt_pre (i := 0) (by omega) h, if_pos h1]
  unfold val2
  show _ = (bt s 0 - 192) * 64 + (bt s (1 : Nat) - 128)
  omega
theorem rvx3 {s : ByteArray} (h : 3 ≤ s.size) (h1 : cont (bt s (1 : Nat)) = true) (h2 : cont (bt s (2 : Nat)) = true) : rv (s.extract 0 3) = val3 s := by
  rw [rv3 (size_pre h), show bt (s.extract 0 3) (1 : Nat) = bt s (1 : Nat) from bt_pre (i := 1) (by omega) h, show bt (s.extract 0 3) (2 : Nat) = bt s (2 : Nat) from bt_pre (i := 2) (by omega) h, show bt (s.extract 0 3) 0 = bt s 0 from bt_pre (i := 0) (by omega) h, if_pos ⟨h1, h2⟩]
  unfold val3
  show _ = (bt s 0 - 224) * 4096 + (bt s (1 : Nat) - 128) * 64 + (bt s (2 : Nat) - 128)
  omega
theorem rvx4 {s : ByteArray} (h : 4 ≤ s.size) (h1 : cont (bt s (1 : Nat)) = true) (h2 : cont (bt s (2 : Nat)) = true) (h3 : cont (bt s (3 : Nat)) = true) : rv (s.extract 0 4) = val4 s := by
  rw [rv4 (size_pre h), show bt (s.extract 0 4) (1 : Nat) = bt s (1 : Nat) from bt_pre (i := 1) (by omega) h, show bt (s.extract 0 4) (2 : Nat) = bt s (2 : Nat) from bt_pre (i := 2) (by omega) h, show bt (s.extract 0 4) (3 : Nat) = bt s (3 : Nat) from bt_pre (i := 3) (by omega) h,
    show bt (s.extract 0 4) 0 = bt s 0 from bt_pre (i := 0) (by omega) h, if_pos ⟨h1, h2, h3⟩]
  unfold val4
  show _ = (bt s 0 - 240) * 262144 + (bt s (1 : Nat) - 128) * 4096 + (bt s (2 : Nat) - 128) * 64 + (bt s (3 : Nat) - 128)
  omega
theorem ok1_cont {s : ByteArray} (ho : ok1 s = true) : cont (bt s (1 : Nat)) = true := by
  have hl := lo_ge (bt s 0)
  have hh := hi_le (bt s 0)
  unfold ok1 at ho
  simp only [Bool.and_eq_true, decide_eq_true_eq] at ho
  exact cont_iff.2 ⟨by have := ho.1; show 128 ≤ bt s 1; omega, by have := ho.2; show bt s 1 ≤ 191; omega⟩
theorem firstR_eq (s : ByteArray) : firstR s = first s := by
  have c2 : bt s 2 = bt s (2 : Nat) := rfl
  have c3 : bt s 3 = bt s (3 : Nat) := rfl
  unfold firstR first
  by_cases h0 : s.size = 0
  · have : full s = false := by unfold full; rw [decide_eq_true h0]; rfl
    rw [if_pos h0, this]; rfl
  rw [if_neg h0]
  have d0 : decide (s.size = 0) = false := decide_eq_false h0
  rcases need_cases (bt s 0) with ⟨hn, hb⟩ | hn | ⟨hn, hb⟩ | ⟨hn, hb⟩ | ⟨hn, hb⟩
  · have f : full s = true := by unfold full; rw [d0, hn, decide_eq_true (show (1 : Int) ≤ (s.size : Int) by omega)]; rfl
    have d : dec s = (bt s 0, 1) := by unfold dec; rw [d0, hn]; rfl
    have l : isL s = true := by unfold isL; rw [d, decide_eq_false (show ¬ (bt s 0, (1 : Int)).1 = 65533 by show ¬ bt s 0 = 65533; omega)]; rfl
    rw [if_neg (by omega), f, l, d, hn]
    show (if pref s 1 0 1 = 1 then (rv (s.extract 0 1), (1 : Int), (0 : Int)) else if pref s 1 0 1 = s.size then (0, 0, 2) else (0, ((pref s 1 0 1 : Nat) : Int), (4 : Int))) = _
    rw [if_pos (show pref s 1 0 1 = 1 from rfl), rvx1 (by omega)]
    rfl
  · have f : full s = true := by unfold full; rw [d0, hn, decide_eq_true (show (0 : Int) ≤ (s.size : Int) by omega)]; rfl
    have d : dec s = (65533, 1) := by unfold dec; rw [d0, hn]; rfl
    have l : isL s = false := by unfold isL; rw [d]; rfl
    have b : bad s = 1 := by unfold bad; rw [hn]; rfl
    rw [if_pos hn, f, l, b]; rfl
  · rw [if_neg (by omega), hn]
    show (if pref s 2 1 1 = 2 then (rv (s.extract 0 2), (2 : Int), (0 : Int)) else if pref s 2 1 1 = s.size then (0, 0, 2) else (0, ((pref s 2 1 1 : Nat) : Int), (4 : Int))) = _
    by_cases h1 : 1 < s.size
    · have f : full s = true := by unfold full; rw [d0, hn, decide_eq_true (show (2 : Int) ≤ (s.size : Int) by omega)]; rfl
      have dz : decide ((s.size : Int) < 2) = false := decide_eq_false (by omega)
      cases ho : ok1 s with
      | true =>
        have p : pref s 2 1 1 = 2 := by simp only [pref, decide_eq_true h1, beg2 (n := 2) hn (by omega) (by omega), ho, Bool.and_self, cond_true]
        have d : dec s = (val2 s, 2) := by unfold dec; rw [d0, hn, dz, ho]; rfl
        have l : isL s = true := by unfold isL; rw [d, decide_eq_true (show (1 : Int) < ((val2 s, (2 : Int)) : Int × Int).2 from (by decide : (1 : Int) < 2)), Bool.or_true]
        rw [p, if_pos rfl, rvx2 (by omega) (ok1_cont ho), f, l, d]
        rfl
      | false =>
        have p : pref s 2 1 1 = 1 := by simp only [pref, decide_eq_true h1, beg2 (n := 2) hn (by omega) (by omega), ho, Bool.and_false, cond_false]
        have d : dec s = (65533, 1) := by unfold dec; rw [d0, hn, dz, ho]; rfl
        have l : isL s = false := by unfold isL; rw [d]; rfl
        have b : bad s = 1 := by unfold bad; rw [hn, ho]; rfl
        rw [p, if_neg (by omega), if_neg (by omega), f, l, b]; rfl
    · have p : pref s 2 1 1 = 1 := by simp only [pref, decide_eq_false h1, Bool.false_and, cond_false]
      have f : full s = false := by unfold full; rw [d0, hn, decide_eq_false (show ¬ (2 : Int) ≤ (s.size : Int) by omega), decide_eq_false h1, decide_eq_false (show ¬ 2 < s.size by omega)]; rfl
      rw [p, if_neg (by omega), if_pos (by omega), f]; rfl
  · rw [if_neg (by omega), hn]
    show (if pref s 3 2 1 = 3 then (rv (s.extract 0 3), (3 : Int), (0 : Int)) else if pref s 3 2 1 = s.size then (0, 0, 2) else (0, ((pref s 3 2 1 : Nat) : Int), (4 : Int))) = _
    by_cases h1 : 1 < s.size
    · cases ho : ok1 s with
      | true =>
        by_cases h2 : 2 < s.size
        · have f : full s = true := by unfold full; rw [d0, hn, decide_eq_true (show (3 : Int) ≤ (s.size : Int) by omega)]; rfl
          have dz : decide ((s.size : Int) < 3) = false := decide_eq_false (by omega)
          cases hc : cont (bt s (2 : Nat)) with
          | true =>
            have p : pref s 3 2 1 = 3 := by simp only [pref, decide_eq_true h1, decide_eq_true h2, beg2 (n := 3) hn (by omega) (by omega), beg3 (n := 3) hn (by omega) (by omega) ho, ho, hc, Bool.and_self, cond_true]
            have d : dec s = (val3 s, 3) := by unfold dec; rw [d0, hn, dz, ho, c2, hc]; rfl
            have l : isL s = true := by unfold isL; rw [d, decide_eq_true (show (1 : Int) < ((val3 s, (3 : Int)) : Int × Int).2 from (by decide : (1 : Int) < 3)), Bool.or_true]
            rw [p, if_pos rfl, rvx3 (by omega) (ok1_cont ho) hc, f, l, d]
            rfl
          | false =>
            have p : pref s 3 2 1 = 2 := by simp only [pref, decide_eq_true h1, decide_eq_true h2, beg2 (n := 3) hn (by omega) (by omega), beg3 (n := 3) hn (by omega) (by omega) ho, ho, hc, Bool.and_self, Bool.and_false, cond_true, cond_false]
            have d : dec s = (65533, 1) := by unfold dec; rw [d0, hn, dz, ho, c2, hc]; rfl
            have l : isL s = false := by unfold isL; rw [d]; rfl
            have b : bad s = 2 := by unfold bad; rw [hn, ho, c2, hc]; rfl
            rw [p, if_neg (by omega), if_neg (by omega), f, l, b]; rfl
        · have p : pref s 3 2 1 = 2 := by simp only [pref, decide_eq_true h1, decide_eq_false h2, beg2 (n := 3) hn (by omega) (by omega), ho, Bool.and_self, Bool.false_and, cond_true, cond_false]
          have f : full s = false := by unfold full; rw [d0, hn, decide_eq_false (show ¬ (3 : Int) ≤ (s.size : Int) by omega), decide_eq_true h1, decide_eq_false h2, ho]; rfl
          rw [p, if_neg (by omega), if_pos (by omega), f]; rfl
      | false =>
        have p : pref s 3 2 1 = 1 := by simp only [pref, decide_eq_true h1, beg2 (n := 3) hn (by omega) (by omega), ho, Bool.and_false, cond_false]
        have f : full s = true := by
          unfold full
          rw [d0, decide_eq_true h1, ho]
          cases decide (need (bt s 0) ≤ (s.size : Int)) <;> rfl
        have d : dec s = (65533, 1) := by
          unfold dec
          rw [d0, hn, ho]
          cases decide ((s.size : Int) < 3) <;> rfl
        have l : isL s = false := by unfold isL; rw [d]; rfl
        have b : bad s = 1 := by unfold bad; rw [hn, ho]; rfl
        rw [p, if_neg (by omega), if_neg (by omega), f, l, b]; rfl
    · have p : pref s 3 2 1 = 1 := by simp only [pref, decide_eq_false h1, Bool.false_and, cond_false]
      have f : full s = false := by unfold full; rw [d0, hn, decide_eq_false (show ¬ (3 : Int) ≤ (s.size : Int) by omega), decide_eq_false h1, decide_eq_false (show ¬ 2 < s.size by omega)]; rfl
      rw [p, if_neg (by omega), if_pos (by omega), f]; rfl
  · rw [if_neg (by omega), hn]
    show (if pref s 4 3 1 = 4 then (rv (s.extract 0 4), (4 : Int), (0 : Int)) else if pref s 4 3 1 = s.size then (0, 0, 2) else (0, ((pref s 4 3 1 : Nat) : Int), (4 : Int))) = _
    by_cases h1 : 1 < s.size
    · cases ho : ok1 s with
      | true =>
        by_cases h2 : 2 < s.size
        · cases hc : cont (bt s (2 : Nat)) with
          | true =>
            by_cases h3 : 3 < s.size
            · have f : full s = true := by unfold full; rw [d0, hn, decide_eq_true (show (4 : Int) ≤ (s.size : Int) by omega)]; rfl
              have dz : decide ((s.size : Int) < 4) = false := decide_eq_false (by omega)
              cases hd : cont (bt s (3 : Nat)) with
              | true =>
                have p : pref s 4 3 1 = 4 := by simp only [pref, decide_eq_true h1, decide_eq_true h2, decide_eq_true h3, beg2 (n := 4) hn (by omega) (by omega), beg3 (n := 4) hn (by omega) (by omega) ho, beg4 hn (by omega) ho hc, ho, hc, hd, Bool.and_self, cond_true]
                have d : dec s = (val4 s, 4) := by unfold dec; rw [d0, hn, dz, ho, c2, hc, c3, hd]; rfl
                have l : isL s = true := by unfold isL; rw [d, decide_eq_true (show (1 : Int) < ((val4 s, (4 : Int)) : Int × Int).2 from (by decide : (1 : Int) < 4)), Bool.or_true]
                rw [p, if_pos rfl, rvx4 (by omega) (ok1_cont ho) hc hd, f, l, d]
                rfl
              | false =>
                have p : pref s 4 3 1 = 3 := by simp only [pref, decide_eq_true h1, decide_eq_true h2, decide_eq_true h3, beg2 (n := 4) hn (by omega) (by omega), beg3 (n := 4) hn (by omega) (by omega) ho, beg4 hn (by omega) ho hc, ho, hc, hd, Bool.and_self, Bool.and_false, cond_true, cond_false]
                have d : dec s = (65533, 1) := by unfold dec; rw [d0, hn, dz, ho, c2, hc, c3, hd]; rfl
                have l : isL s = false := by unfold isL; rw [d]; rfl
                have b : bad s = 3 := by unfold bad; rw [hn, ho, c2, hc]; rfl
                rw [p, if_neg (by omega), if_neg (by omega), f, l, b]; rfl
            · have p : pref s 4 3 1 = 3 := by simp only [pref, decide_eq_true h1, decide_eq_true h2, decide_eq_false h3, beg2 (n := 4) hn (by omega) (by omega), beg3 (n := 4) hn (by omega) (by omega) ho, ho, hc, Bool.and_self, Bool.false_and, cond_true, cond_false]
              have f : full s = false := by unfold full; rw [d0, hn, decide_eq_false (show ¬ (4 : Int) ≤ (s.size : Int) by omega), decide_eq_true h1, decide_eq_true h2, ho, c2, hc]; rfl
              rw [p, if_neg (by omega), if_pos (by omega), f]; rfl
          | false =>
            have p : pref s 4 3 1 = 2 := by simp only [pref, decide_eq_true h1, decide_eq_true h2, beg2 (n := 4) hn (by omega) (by omega), beg3 (n := 4) hn (by omega) (by omega) ho, ho, hc, Bool.and_self, Bool.and_false, cond_true, cond_false]
            have f : full s = true := by
              unfold full
              rw [d0, decide_eq_true h1, decide_eq_true h2, ho, c2, hc]
              cases decide (need (bt s 0) ≤ (s.size : Int)) <;> rfl
            have d : dec s = (65533, 1) := by
              unfold dec
              rw [d0, hn, ho, c2, hc]
              cases decide ((s.size : Int) < 4) <;> rfl
            have l : isL s = false := by unfold isL; rw [d]; rfl
            have b : bad s = 2 := by unfold bad; rw [hn, ho, c2, hc]; rfl
            rw [p, if_neg (by omega), if_neg (by omega), f, l, b]; rfl
        · have p : pref s 4 3 1 = 2 := by simp only [pref, decide_eq_true h1, decide_eq_false h2, beg2 (n := 4) hn (by omega) (by omega), ho, Bool.and_self, Bool.false_and, cond_true, cond_false]
          have f : full s = false := by unfold full; rw [d0, hn, decide_eq_false (show ¬ (4 : Int) ≤ (s.size : Int) by omega), decide_eq_true h1, decide_eq_false h2, ho]; rfl
          rw [p, if_neg (by omega), if_pos (by omega), f]; rfl
      | false =>
        have p : pref s 4 3 1 = 1 := by simp only [pref, decide_eq_true h1, beg2 (n := 4) hn (by omega) (by omega), ho, Bool.and_false, cond_false]
        have f : full s = true := by
          unfold full
          rw [d0, decide_eq_true h1, ho]
          cases decide (need (bt s 0) ≤ (s.size : Int)) <;> rfl
        have d : dec s = (65533, 1) := by
          unfold dec
          rw [d0, hn, ho]
          cases decide ((s.size : Int) < 4) <;> rfl
        have l : isL s = false := by unfold isL; rw [d]; rfl
        have b : bad s = 1 := by unfold bad; rw [hn, ho]; rfl
        rw [p, if_neg (by omega), if_neg (by omega), f, l, b]; rfl
    · have p : pref s 4 3 1 = 1 := by simp only [pref, decide_eq_false h1, Bool.false_and, cond_false]
      have f : full s = false := by unfold full; rw [d0, hn, decide_eq_false (show ¬ (4 : Int) ≤ (s.size : Int) by omega), decide_eq_false h1, decide_eq_false (show ¬ 2 < s.size by omega)]; rfl
      rw [p, if_neg (by omega), if_pos (by omega), f]; rfl
end U
namespace Go.Proofs.YtmnbcnhpklejcaaDoor
open Go Go.Ev Go.RowKit
abbrev w83' : FSpec := s83 (fun x => decide (ByteArray.size x.1 ≤ 1048576)) fun x => U.first x.1
theorem wk83' : SpecOK Tryd.prog E0 83 w83' := by
  have e : w83' = w83 := by unfold w83' w83 s83; congr 1; funext x y; exact (U.firstR_eq x.1).symm
  rw [e]
  exact wk83
def d123 (a : List Cell) (b : Int) : Tr (Bool) :=
  let v1 : Int := ((↑a.length : Int))
  let v2 : Int := (b - (1 : Int))
  let v3 : Int := (b + (1 : Int))
  Tr.ite (inB b a.length)
    (Tr.ite (decide ((rget celk a b).snd.fst = (2 : Int)))
      (Tr.ite (decide (IntKind.i64.wrap v3 = v1)) (Tr.ret true) (Tr.ite (inB (IntKind.i64.wrap v3) a.length) (Tr.ret !decide ((rget celk a (IntKind.i64.wrap v3)).snd.fst = (0 : Int))) Tr.fail))
      (Tr.ite (inB b a.length)
        (Tr.ite (decide ((rget celk a b).snd.fst = (0 : Int)))
          (Tr.ite (decide (b = (0 : Int))) (Tr.ret true) (Tr.ite (inB (IntKind.i64.wrap v2) a.length) (Tr.ret !decide ((rget celk a (IntKind.i64.wrap v2)).snd.fst = (2 : Int))) Tr.fail)) (Tr.ret false))
        Tr.fail))
    Tr.fail
def e123 (r : Bool) : FRes := { rs := Slot.av (AV.one (Leaf.dat Kd.bool r)), upd := [], new := [] }
@[reducible] def a123 : List AK := [AK.d celk.sl, AK.d (.int .i64)]
@[reducible] def b123 : List BK := []
theorem t123 (a : List Cell) (b : Int) : evFn (E0) Tryd.f123 [PM.data Kd.bool] (akAV a123 (a, b, ())) (bkBs b123 ()) = (d123 a b).map e123 := by kernel_rfl
def s123 (C : akT a123 → Bool) (G : akT a123 → Bool) : FSpec := aspec a123 b123 e123 (fun x _ => C x) (fun x _ => G x)
theorem k123 {C : akT a123 → Bool} {G : akT a123 → Bool} (hd : ∀ (a : List Cell) (b : Int), C (a, b, ()) = true → (d123 a b).val = some (G (a, b, ()))) (IO : ItOK Tryd.prog (E0) := by exact itOK_none rfl) (L : ∀ c, Tryd.f123.body = some c → LsOK (evI 2) ((E0).lend 0) c := by exact fun c _ => LsOK_none rfl c) : SpecOK Tryd.prog E0 123 (s123 C G) :=
  aspec_ok (ak := a123) (bl := b123) (e := e123) (c := fun x _ => C x) (g := fun x _ => G x) (E0 := E0) (E := E0) tab .nil rfl rfl hm Tryd.func123 (by kernel_rfl) [PM.data Kd.bool] (fun X Y H => by obtain ⟨a, ⟨b, _⟩⟩ := X; exact val_of (t123 a b) (hd a b H)) IO L
abbrev G28 : List (Nat × FSpec) := [(37, w37), (83, w83'), (84, w84)]
theorem AG28 : AllFn Tryd.prog E0 G28 := .cons wk37 (.cons wk83' (.cons wk84 .nil))
def live28 (key : Nat) : Lv :=
  bif Nat.beq key 10 then { ls := [4, 5] } else bif Nat.beq key 1010 then { ls := [2, 5] } else
  { ls := [] }
abbrev M28 (ls : Nat → VS → Option (Tr (Ex × VS))) : Env := (E0.withFns G28).loops live28 ls
@[reducible] def p28_0 : LP := { n := 73, sl := [.d (Kd.str), .d (.int .i64)], bl := [] }
def B28_0 (x0 : ByteArray) (x1 : Int) : Tr (p28_0.T ⊕ (Int ⊕ Int)) :=
  let v1 : Int := ((U.first x0).fst)
  let v2 : Int := ((U.first x0).snd.snd)
  let v3 : Int := ((U.first x0).snd.fst)
  Tr.ite (decide ((0 : Int) < (↑x0.size : Int)))
    (Tr.ite (decide (x0.size ≤ (1048576 : Nat)))
      (Tr.ite (!decide (v2 = (0 : Int))) (Tr.ret (Sum.inr (Sum.inl x1)))
        (Tr.ite (!decide (U.width v1 = (0 : Int))) (Tr.ret (Sum.inr (Sum.inl x1)))
          (Tr.ite (decide ((0 : Int) ≤ v3 ∧ v3 ≤ (↑x0.size : Int))) (Tr.ret (Sum.inl ((x0.extract v3.toNat x0.size, IntKind.i64.wrap (x1 + (1 : Int)), ()), ()))) Tr.fail)))
      Tr.fail)
    (Tr.ret (Sum.inr (Sum.inr x1)))
def X28_0 : (Int ⊕ Int) → Ex × VS
  | (.inl r) => Prod.mk Ex.ret { n := 73, v := [Slot.av (AV.one (Leaf.kb false)), Slot.av (AV.one (Leaf.dat (.int .i64) r))], h := [] }
  | (.inr r) => Prod.mk (Ex.exit ( 0)) { n := 73, v := [Slot.av (AV.one Leaf.undef), Slot.av (AV.one (Leaf.dat (.int .i64) r))], h := [] }
def b28_0 : p28_0.T → Tr (p28_0.T ⊕ (Int ⊕ Int)) := fun ⟨⟨x0, ⟨x1, _⟩⟩, _⟩ => B28_0 x0 x1
theorem h28_0 (ls : Nat → VS → Option (Tr (Ex × VS))) (x : p28_0.T) : (evC (evI 2) (lc Tryd.f28 0) (Env.lend (M28 ls) 0) (unV (live28 10) (p28_0.V x))).map (decL 0 (live28 10) (live28 1010)) = (b28_0 x).map (encR p28_0.V X28_0) := by
  obtain ⟨⟨x0, ⟨x1, _⟩⟩, _⟩ := x; kernel_rfl
theorem c28_0 (x : p28_0.T) : canV 0 (live28 10) (unV (live28 10) (p28_0.V x)) = p28_0.V x := by
  obtain ⟨⟨x0, ⟨x1, _⟩⟩, _⟩ := x; kernel_rfl
theorem l28_0 {T : p28_0.T → Tr (Int ⊕ Int)} {ls : Nat → VS → Option (Tr (Ex × VS))} (hls : ∀ x, (Env.lend (M28 ls) 0).ls 10 x = p28_0.ls (fun a => (T a).map X28_0) x) (hS : ∀ x r, (T x).val = some r → Rounds b28_0 x r) : LoopOK (evI 2) (Env.lend (M28 ls) 0) (lc Tryd.f28 0) :=
  loopA 10 (live28 10) (live28 1010) p28_0 b28_0 X28_0 T (by kernel_rfl) rfl rfl hls (h28_0 ls) c28_0 hS
end Go.Proofs.YtmnbcnhpklejcaaDoor
namespace U
def mL (s : ByteArray) (k : Nat) (n : Int) : Int ⊕ Int := match marksL k s n with
  | .inl p => .inl p.2
  | .inr n => .inr n
theorem marksL_bad : ∀ (k : Nat) (s : ByteArray) (n : Int) (p : Int × Int), marksL k s n = .inl p → p.1 = -1
  | 0, s, n, p, h => by cases h
  | k + 1, s, n, p, h => by
    simp only [marksL] at h
    split at h
    · cases h
    · split at h
      · exact marksL_bad k _ _ p h
      · cases h; rfl
theorem marksL_ge : ∀ (k : Nat) (s : ByteArray) (n m : Int), marksL k s n = .inr m → n ≤ m
  | 0, s, n, m, h => by cases h; omega
  | k + 1, s, n, m, h => by
    simp only [marksL] at h
    split at h
    · cases h; omega
    · split at h
      · have := marksL_ge k _ _ m h; omega
      · cases h
end U
namespace Go.Proofs.YtmnbcnhpklejcaaDoor
def T28 (x : p28_0.T) : Tr (Int ⊕ Int) := .ite (decide (ByteArray.size x.1.1 ≤ 1048576 ∧ x.1.2.1 = 0)) (.spl (U.mL x.1.1 (ByteArray.size x.1.1) 0) 0 0) .fail
abbrev E28 : Env := M28 fun key x => bif Nat.beq key 10 then p28_0.ls (fun a => (T28 a).map X28_0) x else none
theorem r28 : ∀ (k : Nat) (s : ByteArray) (n : Nat), s.size ≤ k → n + k ≤ 1048576 → Rounds b28_0 ((s, (n : Int), ()), ()) (U.mL s k n)
  | 0, s, n, h1, h2 => by
    refine .exit ?_
    simp only [b28_0, B28_0, Tr.val, show ¬ ((0 : Int) < (s.size : Int)) by omega, decide_false, cond_false]
    rfl
  | k + 1, s, n, h1, h2 => by
    by_cases h0 : s.size = 0
    · refine .exit ?_
      simp only [b28_0, B28_0, Tr.val, show ¬ ((0 : Int) < (s.size : Int)) by omega, decide_false, cond_false]
      unfold U.mL U.marksL
      rw [if_pos h0]
    · have hp : (0 : Int) < (s.size : Int) := by omega
      have hsz : s.size ≤ 1048576 := by omega
      unfold U.mL U.marksL
      rw [if_neg h0]
      by_cases h3 : (U.first s).2.2 = 0
      · by_cases h4 : U.width (U.first s).1 = 0
        · obtain ⟨a, b⟩ := U.first_ok h3
          rw [if_pos ⟨h3, h4⟩]
          refine .step (y := ((s.extract (U.first s).2.1.toNat s.size, ((n + 1 : Nat) : Int), ()), ())) ?_ ?_
          · have hb : (0 : Int) ≤ (U.first s).2.1 ∧ (U.first s).2.1 ≤ (s.size : Int) := ⟨by omega, b⟩
            simp only [b28_0, B28_0, Tr.val, h3, h4, hp, hsz, hb, decide_true, decide_false, Bool.not_false, Bool.not_true, cond_true, cond_false, wrap64_nat (show n ≤ 1048576 by omega), and_self]
          · refine r28 k _ (n + 1) ?_ (by omega)
            rw [← bl_len, bl_ext, List.length_drop, List.length_take, bl_len]
            omega
        · rw [if_neg (fun h => h4 h.2)]
          refine .exit ?_
          simp only [b28_0, B28_0, Tr.val, h3, h4, hp, hsz, decide_true, decide_false, Bool.not_false, Bool.not_true, cond_true, cond_false]
      · rw [if_neg (fun h => h3 h.1)]
        refine .exit ?_
        simp only [b28_0, B28_0, Tr.val, h3, hp, hsz, decide_true, decide_false, Bool.not_false, Bool.not_true, cond_true, cond_false]
theorem L28 : LoopOK (evI 2) (E28.lend 0) (lc Tryd.f28 0) := by
  refine l28_0 (T := T28) (fun x => rfl) ?_
  rintro ⟨⟨s, n, z⟩, z'⟩ r h
  obtain ⟨h1, h2⟩ := pre_val h
  rw [Tr.val_spl] at h2
  cases h2
  have h1 := of_decide_eq_true h1
  have h3 : n = (0 : Int) := h1.2
  subst h3
  exact r28 _ s 0 (Nat.le_refl _) (by have := h1.1; dsimp at this; omega)
def d28 (a1 : ByteArray) (a2 : Int) (a31 : Int) (a32 : Int) (a33 : Int) : Tr (Bool) :=
  let v1 : Int := ((U.first a1).fst)
  let v2 : Int := ((U.first a1).snd.snd)
  let v3 : Int := ((U.first a1).snd.fst)
  let v4 : ByteArray := (a1.extract v3.toNat a1.size)
  let v5 : Int := ((U.mL v4 v4.size (0 : Int)).getRight?.getD (0 : Int))
  Tr.ite (!U.look (a31, a32, a33, ())) (Tr.ret false)
    (Tr.ite (decide (a2 < (0 : Int))) (Tr.ret false)
      (Tr.ite (decide ((2 : Int) < a2)) (Tr.ret false)
        (Tr.ite (decide (a1 = { data := #[] })) (Tr.ret (decide (a2 < (2 : Int))))
          (Tr.ite (decide (a1.size ≤ (1048576 : Nat)))
            (Tr.ite (!decide (v2 = (0 : Int))) (Tr.ret false)
              (Tr.ite (decide (a2 = (0 : Int))) (Tr.ret false)
                (Tr.ite (!decide (U.width v1 = a2)) (Tr.ret false)
                  (Tr.ite (decide ((0 : Int) ≤ v3 ∧ v3 ≤ (↑a1.size : Int)))
                    (Tr.ite (decide (v4.size ≤ (1048576 : Nat) ∧ (0 : Int) = (0 : Int))) (Tr.ite (U.mL v4 v4.size (0 : Int)).isLeft (Tr.ret false) (Tr.ret (decide (v5 ≤ (2 : Int))))) Tr.fail)
                    Tr.fail))))
            Tr.fail))))
def e28 (r : Bool) : FRes := { rs := Slot.av (AV.one (Leaf.dat Kd.bool r)), upd := [], new := [] }
@[reducible] def a28 : List AK := [AK.d celk]
@[reducible] def b28 : List BK := []
theorem t28 (a1 : ByteArray) (a2 : Int) (a31 : Int) (a32 : Int) (a33 : Int) : evFn (E28) Tryd.f28 [PM.data Kd.bool] (akAV a28 ((a1, a2, (a31, a32, a33, ()), ()), ())) (bkBs b28 ()) = (d28 a1 a2 a31 a32 a33).map e28 := by kernel_rfl
def s28 (C : akT a28 → Bool) (G : akT a28 → Bool) : FSpec := aspec a28 b28 e28 (fun x _ => C x) (fun x _ => G x)
theorem k28 {C : akT a28 → Bool} {G : akT a28 → Bool} (hd : ∀ (a1 : ByteArray) (a2 : Int) (a31 : Int) (a32 : Int) (a33 : Int), C ((a1, a2, (a31, a32, a33, ()), ()), ()) = true → (d28 a1 a2 a31 a32 a33).val = some (G ((a1, a2, (a31, a32, a33, ()), ()), ()))) (IO : ItOK Tryd.prog (E28) := by exact itOK_none rfl) (L : ∀ c, Tryd.f28.body = some c → LsOK (evI 2) ((E28).lend 0) c := by exact fun c _ => LsOK_none rfl c) : SpecOK Tryd.prog E0 28 (s28 C G) :=
  aspec_ok (ak := a28) (bl := b28) (e := e28) (c := fun x _ => C x) (g := fun x _ => G x) (E0 := E0) (E := E28) tab AG28 rfl rfl hm Tryd.func28 (by kernel_rfl) [PM.data Kd.bool] (fun X Y H => by obtain ⟨⟨a1, ⟨a2, ⟨⟨a31, ⟨a32, ⟨a33, _⟩⟩⟩, _⟩⟩⟩, _⟩ := X; exact val_of (t28 a1 a2 a31 a32 a33) (hd a1 a2 a31 a32 a33 H)) IO L
abbrev w28 : FSpec := s28 (fun x => decide (ByteArray.size x.1.1 ≤ 1048576)) fun x => U.cellR x.1
theorem wk28 : SpecOK Tryd.prog E0 28 w28 := by
  refine k28 (fun s w f g h H => ?_) (L := ls_ok (lcs := [lc Tryd.f28 0]) (rgs := []) (by kernel_rfl) (by kernel_rfl) L28 trivial)
  have H' : s.size ≤ 1048576 := of_decide_eq_true H
  show _ = some (U.cellR (s, w, (f, g, h, ()), ()))
  unfold U.cellR
  cases h5 : U.look (f, g, h, ()) with
  | false =>
    by_cases h0 : s.size = 0
    · simp only [d28, Tr.val, h5, Bool.not_false, cond_true, if_pos h0, Bool.false_and]
    · simp only [d28, Tr.val, h5, Bool.not_false, cond_true, if_neg h0, Bool.false_and, ite_self]
  | true =>
    by_cases h0 : s.size = 0
    · have := ba_nil h0
      subst this
      simp only [d28, Tr.val, h5, Bool.not_true, cond_false, if_pos h0, Bool.true_and, decide_true, cond_true, U.inn]
      by_cases w0 : w < 0
      · simp [w0, show ¬ 0 ≤ w by omega]
      · by_cases w2 : 2 < w
        · simp [w0, w2, show ¬ w ≤ 1 by omega]
        · by_cases w3 : w < 2
          · simp [w0, w2, w3, show 0 ≤ w by omega, show w ≤ 1 by omega]
          · simp [w0, w2, w3, show ¬ w ≤ 1 by omega]
    · have h1 := ba_ne h0
      by_cases h2 : (U.first s).2.2 = 0
      · obtain ⟨a, b⟩ := U.first_ok h2
        have hb : (0 : Int) ≤ (U.first s).2.1 ∧ (U.first s).2.1 ≤ (s.size : Int) := ⟨by omega, b⟩
        have hs : (s.extract (U.first s).2.1.toNat s.size).size ≤ 1048576 := by
          rw [← bl_len, bl_ext, List.length_drop, List.length_take, bl_len]
          omega
        by_cases w0 : w < 0
        · simp [d28, Tr.val, h5, w0, h0, U.inn, show ¬ 1 ≤ w by omega]
        by_cases w2 : 2 < w
        · simp [d28, Tr.val, h5, w0, w2, h0, U.inn, show ¬ w ≤ 2 by omega]
        by_cases w1 : w = 0
        · subst w1
          simp [d28, Tr.val, h5, h0, h1, h2, H', U.inn]
        have hw : U.inn w 1 2 = true := by unfold U.inn; rw [decide_eq_true (show 1 ≤ w by omega), decide_eq_true (show w ≤ 2 by omega)]; rfl
        by_cases h4 : U.width (U.first s).1 = w
        · simp only [d28, Tr.val, h5, h0, h1, h2, h4, w0, w1, w2, hw, hb, hs, H', decide_true, decide_false, cond_true, cond_false, Bool.not_true, Bool.not_false, if_true, if_false, and_self, Bool.true_and]
          unfold U.mL U.marks
          cases hm : U.marksL (s.extract (U.first s).2.1.toNat s.size).size (s.extract (U.first s).2.1.toNat s.size) 0 with
          | inl p =>
            have := U.marksL_bad _ _ _ _ hm
            simp [this, U.inn]
          | inr m =>
            have := U.marksL_ge _ _ _ _ hm
            simp [U.inn, this]
            try rfl
        · simp only [d28, Tr.val, h5, h0, h1, h2, h4, w0, w1, w2, hw, H', decide_true, decide_false, cond_true, cond_false, Bool.not_true, Bool.not_false, if_false, and_false]
      · by_cases w0 : w < 0
        · simp only [d28, Tr.val, h5, w0, h2, if_neg h0, decide_true, cond_true, cond_false, Bool.not_true, false_and, if_false]
        by_cases w2 : 2 < w
        · simp only [d28, Tr.val, h5, w0, w2, h2, if_neg h0, decide_true, decide_false, cond_true, cond_false, Bool.not_true, false_and, if_false]
        simp only [d28, Tr.val, h5, h1, h2, w0, w2, H', if_neg h0, decide_true, decide_false, cond_true, cond_false, Bool.not_true, Bool.not_false, if_false, false_and]
abbrev w123 : FSpec := s123 (fun x => decide (0 ≤ (x.2.1 : Int) ∧ (x.2.1 : Int) < (List.length (α := Cell) x.1 : Int) ∧ List.length (α := Cell) x.1 ≤ 1048576)) fun x => !U.whole x.1 x.2.1.toNat
theorem wk123 : SpecOK Tryd.prog E0 123 w123 := by
  refine k123 fun l i H => ?_
  obtain ⟨h0, h1, h2⟩ := of_decide_eq_true H
  dsimp only at h0 h1 h2
  obtain ⟨n, rfl⟩ := Int.eq_ofNat_of_zero_le h0
  show _ = some (!U.whole l n)
  have hn : n < l.length := Int.ofNat_lt.1 h1
  have w1 : IntKind.i64.wrap ((n : Int) + 1) = ((n + 1 : Nat) : Int) := wrap64_nat (by omega)
  unfold U.whole d123
  simp only [Tr.val, inB_nat hn, cond_true, w1, cw_eq]
  by_cases a : U.cw l n = 2
  · by_cases b : n + 1 < l.length
    · have i1 : inB ((n + 1 : Nat) : Int) l.length = true := inB_nat b
      have i2 : decide (((n + 1 : Nat) : Int) = (l.length : Int)) = false := decide_eq_false (by omega)
      simp only [a, b, i1, i2, cw_eq, decide_true, cond_true, cond_false, if_true, Bool.true_and]
    · have i2 : decide (((n + 1 : Nat) : Int) = (l.length : Int)) = true := decide_eq_true (by omega)
      simp only [a, b, i2, decide_true, decide_false, cond_true, if_true, Bool.false_and, Bool.not_false]
  · by_cases b : U.cw l n = 0
    · by_cases c : 0 < n
      · have w2 : IntKind.i64.wrap ((n : Int) - 1) = ((n - 1 : Nat) : Int) := by
          rw [wrap64_id (by omega) (by omega)]
          omega
        have i1 : inB ((n - 1 : Nat) : Int) l.length = true := inB_nat (by omega)
        have i2 : decide ((n : Int) = 0) = false := decide_eq_false (by omega)
        have a0 : ¬ (0 : Int) = 2 := by decide
        simp only [b, c, w2, i1, i2, cw_eq, a0, decide_true, decide_false, cond_true, cond_false, if_true, if_false, Bool.true_and]
      · have : n = 0 := by omega
        subst this
        simp [a, b]
    · simp [a, b]
abbrev G71 : List (Nat × FSpec) := [(28, w28), (123, w123)]
theorem AG71 : AllFn Tryd.prog E0 G71 := .cons wk28 (.cons wk123 .nil)
def live71 (key : Nat) : Lv :=
  bif Nat.beq key 2 then { ls := [1, 2, 8, 9, 10] } else bif Nat.beq key 1002 then { ls := [1, 2, 4] } else
  { ls := [] }
abbrev M71 (ls : Nat → VS → Option (Tr (Ex × VS))) : Env := (E0.withFns G71).loops live71 ls
@[reducible] def p71_0 : LP := { n := 30, sl := [.d (.int .i64), .c (Leaf.ptr ( 0) ( 0)), .d (celk.sl), .d (.int .i64), .d (.int .i64)], bl := [(0, .box [.d (celk.sl), .d (Kd.bool)])] }
def B71_0 (x0 : Int) (x2 : List Cell) (x3 : Int) (x4 : Int) (h0_0 : List Cell) (h0_1 : Bool) : Tr (p71_0.T ⊕ (Int × List Cell × Bool ⊕ Int × List Cell × Bool)) :=
  let v1 : Int := ((↑h0_0.length : Int))
  Tr.ite (decide (x4 < x3))
    (Tr.ite (inB x4 x2.length)
      (Tr.ite (decide (ByteArray.size (rget celk x2 x4).fst ≤ (1048576 : Nat)))
        (Tr.ite (!U.cellR (rget celk x2 x4)) (Tr.ret (Sum.inr (Sum.inl (x0, h0_0, h0_1))))
          (Tr.ite (decide ((0 : Int) ≤ x4 ∧ x4 < v1 ∧ h0_0.length ≤ (1048576 : Nat)))
            (Tr.ite (!U.whole h0_0 x4.toNat) (Tr.ret (Sum.inr (Sum.inl (x0, h0_0, h0_1)))) (Tr.ret (Sum.inl ((x0, x2, x3, IntKind.i64.wrap (x4 + (1 : Int)), ()), (h0_0, h0_1, ()), ())))) Tr.fail))
        Tr.fail)
      Tr.fail)
    (Tr.ret (Sum.inr (Sum.inr (x0, h0_0, h0_1))))
def X71_0 : (Int × List Cell × Bool ⊕ Int × List Cell × Bool) → Ex × VS
  | (.inl r) => Prod.mk Ex.ret { n := 30, v := [Slot.av (AV.one (Leaf.dat (.int .i64) r.fst)), Slot.av (AV.one (Leaf.ptr ( 0) ( 0))), Slot.av (AV.one (Leaf.kb false))], h := [( 0, Blk.box [Leaf.dat celk.sl r.snd.fst, Leaf.dat Kd.bool r.snd.snd])] }
  | (.inr r) => Prod.mk (Ex.exit ( 0)) { n := 30, v := [Slot.av (AV.one (Leaf.dat (.int .i64) r.fst)), Slot.av (AV.one (Leaf.ptr ( 0) ( 0))), Slot.av (AV.one Leaf.undef)], h := [( 0, Blk.box [Leaf.dat celk.sl r.snd.fst, Leaf.dat Kd.bool r.snd.snd])] }
def b71_0 : p71_0.T → Tr (p71_0.T ⊕ (Int × List Cell × Bool ⊕ Int × List Cell × Bool)) := fun ⟨⟨x0, ⟨x2, ⟨x3, ⟨x4, _⟩⟩⟩⟩, ⟨⟨h0_0, ⟨h0_1, _⟩⟩, _⟩⟩ => B71_0 x0 x2 x3 x4 h0_0 h0_1
theorem h71_0 (ls : Nat → VS → Option (Tr (Ex × VS))) (x : p71_0.T) : (evC (evI 2) (lc Tryd.f71 0) (Env.lend (M71 ls) 0) (unV (live71 2) (p71_0.V x))).map (decL 0 (live71 2) (live71 1002)) = (b71_0 x).map (encR p71_0.V X71_0) := by
  obtain ⟨⟨x0, ⟨x2, ⟨x3, ⟨x4, _⟩⟩⟩⟩, ⟨⟨h0_0, ⟨h0_1, _⟩⟩, _⟩⟩ := x; kernel_rfl
theorem c71_0 (x : p71_0.T) : canV 0 (live71 2) (unV (live71 2) (p71_0.V x)) = p71_0.V x := by
  obtain ⟨⟨x0, ⟨x2, ⟨x3, ⟨x4, _⟩⟩⟩⟩, ⟨⟨h0_0, ⟨h0_1, _⟩⟩, _⟩⟩ := x; kernel_rfl
theorem l71_0 {T : p71_0.T → Tr (Int × List Cell × Bool ⊕ Int × List Cell × Bool)} {ls : Nat → VS → Option (Tr (Ex × VS))} (hls : ∀ x, (Env.lend (M71 ls) 0).ls 2 x = p71_0.ls (fun a => (T a).map X71_0) x) (hS : ∀ x r, (T x).val = some r → Rounds b71_0 x r) : LoopOK (evI 2) (Env.lend (M71 ls) 0) (lc Tryd.f71 0) :=
  loopA 2 (live71 2) (live71 1002) p71_0 b71_0 X71_0 T (by kernel_rfl) rfl rfl hls (h71_0 ls) c71_0 hS
def T71 (x : p71_0.T) : Tr (Int × List Cell × Bool ⊕ Int × List Cell × Bool) :=
  .ite (decide ((x.1.2.2.1 : Int) = (List.length (α := Cell) x.1.2.1 : Int) ∧ (x.1.2.2.2.1 : Int) = 0 ∧ List.length (α := Cell) x.1.2.1 ≤ List.length (α := Cell) x.2.1.1 ∧ List.length (α := Cell) x.2.1.1 ≤ 1048576) && U.okc x.1.2.1)
    (.ite (allN (fun i => U.cellR (List.getD (α := Cell) x.1.2.1 i U.dC) && U.whole x.2.1.1 i) (List.length (α := Cell) x.1.2.1) 0) (.ret (.inr (x.1.1, x.2.1.1, x.2.1.2.1))) (.ret (.inl (x.1.1, x.2.1.1, x.2.1.2.1)))) .fail
abbrev E71 : Env := M71 fun key x => bif Nat.beq key 2 then p71_0.ls (fun a => (T71 a).map X71_0) x else none
theorem L71 : LoopOK (evI 2) (E71.lend 0) (lc Tryd.f71 0) := by
  refine l71_0 (T := T71) (fun x => rfl) ?_
  rintro ⟨⟨c, l, n, i, z⟩, ⟨m, s, z1⟩, z2⟩ r h
  obtain ⟨h1, h2⟩ := pre_val h
  rw [Bool.and_eq_true] at h1
  obtain ⟨h1, hok⟩ := h1
  obtain ⟨e1, e2, e3, e4⟩ := of_decide_eq_true h1
  dsimp only at e1 e2 e3 e4 hok h2
  subst e1
  subst e2
  have := Rounds.all (B := b71_0) (N := l.length) (fun i => ((c, l, (l.length : Int), (i : Int), ()), (m, s, ()), ())) (fun i => U.cellR (l.getD i U.dC) && U.whole m i) (.inl (c, m, s)) (.inr (c, m, s)) (fun i hi => ?_) ?_
  · cases ha : allN (fun i => U.cellR (l.getD i U.dC) && U.whole m i) l.length 0 <;> simp only [ha, Tr.val, cond_true, cond_false] at h2 this <;> cases h2 <;> exact this
  · have h3 := U.okc_at hok hi
    simp only [b71_0, B71_0, Tr.val, inB_nat hi, rgetC, h3, Int.toNat_natCast, show ((i : Int) < (l.length : Int)) by omega, show ((0 : Int) ≤ (i : Int) ∧ (i : Int) < (m.length : Int) ∧ m.length ≤ 1048576) by omega, decide_true, cond_true, wrap64_nat (show i ≤ 1048576 by omega)]
    cases U.cellR (l.getD i U.dC) <;> cases U.whole m i <;> rfl
  · simp only [b71_0, B71_0, Tr.val, show ¬ ((l.length : Int) < (l.length : Int)) by omega, decide_false, cond_false]
def d71 (a1 : List Cell) (a2 : Bool) (b : Int) : Tr (Bool) :=
  let v1 : Int := ((↑a1.length : Int))
  let v2 : Int := ((↑a1.length : Int))
  Tr.ite (decide (v2 = v1 ∧ (0 : Int) = (0 : Int) ∧ a1.length ≤ a1.length ∧ a1.length ≤ (1048576 : Nat)) && U.okc a1)
    (Tr.ite (allN (fun (i : Nat) => U.cellR (a1.getD i U.dC) && U.whole a1 i) a1.length (0 : Nat)) (Tr.ret (decide (v2 = b))) (Tr.ret false)) Tr.fail
def e71 (r : Bool) : FRes := { rs := Slot.av (AV.one (Leaf.dat Kd.bool r)), upd := [], new := [] }
@[reducible] def a71 : List AK := [AK.d link, AK.d (.int .i64)]
@[reducible] def b71 : List BK := []
theorem t71 (a1 : List Cell) (a2 : Bool) (b : Int) : evFn (E71) Tryd.f71 [PM.data Kd.bool] (akAV a71 ((a1, a2, ()), b, ())) (bkBs b71 ()) = (d71 a1 a2 b).map e71 := by kernel_rfl
def s71 (C : akT a71 → Bool) (G : akT a71 → Bool) : FSpec := aspec a71 b71 e71 (fun x _ => C x) (fun x _ => G x)
theorem k71 {C : akT a71 → Bool} {G : akT a71 → Bool} (hd : ∀ (a1 : List Cell) (a2 : Bool) (b : Int), C ((a1, a2, ()), b, ()) = true → (d71 a1 a2 b).val = some (G ((a1, a2, ()), b, ()))) (IO : ItOK Tryd.prog (E71) := by exact itOK_none rfl) (L : ∀ c, Tryd.f71.body = some c → LsOK (evI 2) ((E71).lend 0) c := by exact fun c _ => LsOK_none rfl c) : SpecOK Tryd.prog E0 71 (s71 C G) :=
  aspec_ok (ak := a71) (bl := b71) (e := e71) (c := fun x _ => C x) (g := fun x _ => G x) (E0 := E0) (E := E71) tab AG71 rfl rfl hm Tryd.func71 (by kernel_rfl) [PM.data Kd.bool] (fun X Y H => by obtain ⟨⟨a1, ⟨a2, _⟩⟩, ⟨b, _⟩⟩ := X; exact val_of (t71 a1 a2 b) (hd a1 a2 b H)) IO L
abbrev w71 : FSpec := s71 (fun x => U.okc x.1.1) fun x => U.fitC x.1.1 && decide ((List.length (α := Cell) x.1.1 : Int) = (x.2.1 : Int))
theorem wk71 : SpecOK Tryd.prog E0 71 w71 := by
  refine k71 (fun l s n H => ?_) (L := ls_ok (lcs := [lc Tryd.f71 0]) (rgs := []) (by kernel_rfl) (by kernel_rfl) L71 trivial)
  have H : U.okc l = true := H
  have hl := U.okc_len H
  show _ = some (U.fitC l && decide ((l.length : Int) = n))
  unfold U.fitC
  simp only [d71, Tr.val, H, hl, Nat.le_refl, and_self, decide_true, Bool.and_self, cond_true]
  cases allN (fun i => U.cellR (l.getD i U.dC) && U.whole l i) l.length 0 <;> simp
def live24 (key : Nat) : Lv :=
  bif Nat.beq key 2 then { ls := [5, 6, 7] } else bif Nat.beq key 1002 then { ls := [2] } else
  { ls := [] }
abbrev M24 (ls : Nat → VS → Option (Tr (Ex × VS))) : Env := (E0.withFns [(71, w71)]).loops live24 ls
@[reducible] def p24_0 : LP := { n := 30, sl := [.d (link.sl), .d (.int .i64), .d (.int .i64)], bl := [] }
def B24_0 (x0 : List Line) (x1 : Int) (x2 : Int) : Tr (p24_0.T ⊕ (Unit ⊕ Unit)) :=
  let v1 : Int := ((↑(List.length (rget link x0 x2).fst) : Int))
  let v2 : Int := ((↑(List.length (rget link x0 x2).fst) : Int))
  Tr.ite (decide (x2 < x1))
    (Tr.ite (inB x2 x0.length)
      (Tr.ite (decide (v2 < (1 : Int))) (Tr.ret (Sum.inr (Sum.inl ())))
        (Tr.ite (decide ((80 : Int) < v2)) (Tr.ret (Sum.inr (Sum.inl ())))
          (Tr.ite (U.okc (rget link x0 x2).fst)
            (Tr.ite (!(U.fitC (rget link x0 x2).fst && decide (v1 = v2))) (Tr.ret (Sum.inr (Sum.inl ()))) (Tr.ret (Sum.inl ((x0, x1, IntKind.i64.wrap (x2 + (1 : Int)), ()), ())))) Tr.fail)))
      Tr.fail)
    (Tr.ret (Sum.inr (Sum.inr ())))
def X24_0 : (Unit ⊕ Unit) → Ex × VS
  | (.inl r) => Prod.mk Ex.ret { n := 30, v := [Slot.av (AV.one (Leaf.kb false))], h := [] }
  | (.inr r) => Prod.mk (Ex.exit ( 0)) { n := 30, v := [Slot.av (AV.one Leaf.undef)], h := [] }
def b24_0 : p24_0.T → Tr (p24_0.T ⊕ (Unit ⊕ Unit)) := fun ⟨⟨x0, ⟨x1, ⟨x2, _⟩⟩⟩, _⟩ => B24_0 x0 x1 x2
theorem h24_0 (ls : Nat → VS → Option (Tr (Ex × VS))) (x : p24_0.T) : (evC (evI 2) (lc Tryd.f24 0) (Env.lend (M24 ls) 0) (unV (live24 2) (p24_0.V x))).map (decL 0 (live24 2) (live24 1002)) = (b24_0 x).map (encR p24_0.V X24_0) := by
  obtain ⟨⟨x0, ⟨x1, ⟨x2, _⟩⟩⟩, _⟩ := x; kernel_rfl
theorem c24_0 (x : p24_0.T) : canV 0 (live24 2) (unV (live24 2) (p24_0.V x)) = p24_0.V x := by
  obtain ⟨⟨x0, ⟨x1, ⟨x2, _⟩⟩⟩, _⟩ := x; kernel_rfl
theorem l24_0 {T : p24_0.T → Tr (Unit ⊕ Unit)} {ls : Nat → VS → Option (Tr (Ex × VS))} (hls : ∀ x, (Env.lend (M24 ls) 0).ls 2 x = p24_0.ls (fun a => (T a).map X24_0) x) (hS : ∀ x r, (T x).val = some r → Rounds b24_0 x r) : LoopOK (evI 2) (Env.lend (M24 ls) 0) (lc Tryd.f24 0) :=
  loopA 2 (live24 2) (live24 1002) p24_0 b24_0 X24_0 T (by kernel_rfl) rfl rfl hls (h24_0 ls) c24_0 hS
def T26 (x : p26_0.T) : Tr (Unit ⊕ Unit) :=
  .ite (decide ((x.1.2.2.1 : Int) = (List.length (α := Line) x.1.1 : Int) ∧ (x.1.2.2.2.1 : Int) = 0 ∧ List.length (α := Line) x.1.1 = List.length (α := Line) x.1.2.1) && (decide (List.length (α := Line) x.1.1 ≤ 1048576) && List.all (α := Line) x.1.1 fun y => decide (y.1.length ≤ 1048576)))
    (.ite (U.eqLs x.1.1 x.1.2.1) (.ret (.inr ())) (.ret (.inl ()))) .fail
abbrev E26 : Env := M26 fun key x => bif Nat.beq key 4 then p26_0.ls (fun a => (T26 a).map X26_0) x else none
theorem L26 : LoopOK (evI 2) (E26.lend 0) (lc Tryd.f26 0) := by
  refine l26_0 (T := T26) (fun x => rfl) ?_
  rintro ⟨⟨l, m, n, i, z⟩, z3⟩ r h
  obtain ⟨g1, g2⟩ := pre_val h
  rw [Bool.and_eq_true, Bool.and_eq_true] at g1
  obtain ⟨g1, g3, g4⟩ := g1
  obtain ⟨e1, e2, e3⟩ := of_decide_eq_true g1
  have g3 : List.length (α := Line) l ≤ 1048576 := of_decide_eq_true g3
  dsimp only at e1 e2 e3 g2
  subst e1; subst e2
  have := Rounds.all (B := b26_0) (N := List.length (α := Line) l) (fun i => ((l, m, (List.length (α := Line) l : Int), (i : Int), ()), ())) (fun i => U.eqL (List.getD (α := Line) l i U.dL) (List.getD (α := Line) m i U.dL)) (.inl ()) (.inr ()) (fun i hi => ?_) ?_
  · have e : allN (fun i => U.eqL (List.getD (α := Line) l i U.dL) (List.getD (α := Line) m i U.dL)) (List.length (α := Line) l) 0 = U.eqLs l m := by
      unfold U.eqLs
      rw [decide_eq_true e3, Bool.true_and]
    rw [e] at this
    cases hd : U.eqLs l m <;> simp only [hd, Tr.val, cond_true, cond_false] at g2 this <;> cases g2 <;> exact this
  · have i2 : inB (i : Int) (List.length (α := Line) m) = true := inB_nat (by omega)
    have i3 : (List.getD (α := Line) l i U.dL).1.length ≤ 1048576 := by
      rw [getD_el hi]
      exact of_decide_eq_true (List.all_eq_true.1 g4 _ (List.getElem_mem hi))
    simp only [b26_0, B26_0, Tr.val, inB_nat hi, i2, i3, rgetL, show ((i : Int) < (List.length (α := Line) l : Int)) by omega, decide_true, cond_true, wrap64_nat (show i ≤ 1048576 by omega)]
    cases U.eqL (List.getD (α := Line) l i U.dL) (List.getD (α := Line) m i U.dL) <;> rfl
  · simp only [b26_0, B26_0, Tr.val, show ¬ ((List.length (α := Line) l : Int) < (List.length (α := Line) l : Int)) by omega, decide_false, cond_false]
def d26 (a : List Line) (b : List Line) : Tr (Bool) :=
  let v1 : Int := ((↑a.length : Int))
  let v2 : Int := ((↑a.length : Int))
  let v3 : Int := ((↑b.length : Int))
  Tr.ite (!decide (v2 = v3)) (Tr.ret false)
    (Tr.ite (decide (v2 = v1 ∧ (0 : Int) = (0 : Int) ∧ a.length = b.length) && (decide (a.length ≤ (1048576 : Nat)) && a.all fun (y : Line) => decide (y.fst.length ≤ (1048576 : Nat))))
      (Tr.ite (U.eqLs a b) (Tr.ret true) (Tr.ret false)) Tr.fail)
def e26 (r : Bool) : FRes := { rs := Slot.av (AV.one (Leaf.dat Kd.bool r)), upd := [], new := [] }
@[reducible] def a26 : List AK := [AK.d link.sl, AK.d link.sl]
@[reducible] def b26 : List BK := []
theorem t26 (a : List Line) (b : List Line) : evFn (E26) Tryd.f26 [PM.data Kd.bool] (akAV a26 (a, b, ())) (bkBs b26 ()) = (d26 a b).map e26 := by kernel_rfl
def s26 (C : akT a26 → Bool) (G : akT a26 → Bool) : FSpec := aspec a26 b26 e26 (fun x _ => C x) (fun x _ => G x)
theorem k26 {C : akT a26 → Bool} {G : akT a26 → Bool} (hd : ∀ (a : List Line) (b : List Line), C (a, b, ()) = true → (d26 a b).val = some (G (a, b, ()))) (IO : ItOK Tryd.prog (E26) := by exact itOK_none rfl) (L : ∀ c, Tryd.f26.body = some c → LsOK (evI 2) ((E26).lend 0) c := by exact fun c _ => LsOK_none rfl c) : SpecOK Tryd.prog E0 26 (s26 C G) :=
  aspec_ok (ak := a26) (bl := b26) (e := e26) (c := fun x _ => C x) (g := fun x _ => G x) (E0 := E0) (E := E26) tab (.cons wk25 .nil) rfl rfl hm Tryd.func26 (by kernel_rfl) [PM.data Kd.bool] (fun X Y H => by obtain ⟨a, ⟨b, _⟩⟩ := X; exact val_of (t26 a b) (hd a b H)) IO L
abbrev w26 : FSpec := s26 (fun x => decide (List.length (α := Line) x.1 ≤ 1048576) && List.all (α := Line) x.1 fun y => decide (y.1.length ≤ 1048576)) fun x => U.eqLs x.1 x.2.1
theorem wk26 : SpecOK Tryd.prog E0 26 w26 := by
  refine k26 (fun l m H => ?_) (L := ls_ok (lcs := [lc Tryd.f26 0]) (rgs := []) (by kernel_rfl) (by kernel_rfl) L26 trivial)
  have H : (decide (l.length ≤ 1048576) && l.all fun y => decide (y.1.length ≤ 1048576)) = true := H
  show _ = some (U.eqLs l m)
  by_cases h1 : l.length = m.length
  · have h2 : decide ((l.length : Int) = (m.length : Int)) = true := decide_eq_true (by omega)
    simp only [d26, Tr.val, h2, h1 ▸ H, h1, decide_true, Bool.not_true, Bool.and_self, cond_true, cond_false, and_self]
    cases U.eqLs l m <;> rfl
  · have h2 : decide ((l.length : Int) = (m.length : Int)) = false := decide_eq_false (by omega)
    simp only [d26, Tr.val, h2, Bool.not_false, cond_true, U.eqLs, decide_eq_false h1, Bool.false_and]
def T24 (x : p24_0.T) : Tr (Unit ⊕ Unit) :=
  .ite (decide ((x.1.2.1 : Int) = (List.length (α := Line) x.1.1 : Int) ∧ (x.1.2.2.1 : Int) = 0) && U.okl x.1.1)
    (.ite (List.any (α := Line) x.1.1 fun y => U.odd y.1) (.ret (.inl ())) (.ret (.inr ()))) .fail
abbrev E24 : Env := M24 fun key x => bif Nat.beq key 2 then p24_0.ls (fun a => (T24 a).map X24_0) x else none
theorem L24 : LoopOK (evI 2) (E24.lend 0) (lc Tryd.f24 0) := by
  refine l24_0 (T := T24) (fun x => rfl) ?_
  rintro ⟨⟨l, n, i, z⟩, z3⟩ r h
  obtain ⟨g1, g2⟩ := pre_val h
  rw [Bool.and_eq_true] at g1
  obtain ⟨g1, g3⟩ := g1
  obtain ⟨e1, e2⟩ := of_decide_eq_true g1
  dsimp only at e1 e2 g2 g3
  subst e1; subst e2
  have hl := U.okl_len g3
  have := Rounds.all (B := b24_0) (N := l.length) (fun i => ((l, (l.length : Int), (i : Int), ()), ())) (fun i => !U.odd (l.getD i U.dL).1) (.inl ()) (.inr ()) (fun i hi => ?_) ?_
  · have e : allN (fun i => !U.odd (l.getD i U.dL).1) l.length 0 = !(l.any fun y => U.odd y.1) := by
      rw [allN_list (q := fun y : Line => !U.odd y.1), List.not_any_eq_all_not]
    rw [e] at this
    cases hd : (List.any (α := Line) l fun y => U.odd y.1) <;> simp only [hd, Tr.val, Bool.not_true, Bool.not_false, cond_true, cond_false] at g2 this <;> cases g2 <;> exact this
  · have h3 := U.okl_at g3 hi
    simp only [b24_0, B24_0, Tr.val, inB_nat hi, rgetL, h3, show ((i : Int) < (l.length : Int)) by omega, decide_true, cond_true, wrap64_nat (show i ≤ 1048576 by omega), Bool.and_true]
    unfold U.odd
    by_cases h4 : ((l.getD i U.dL).1.length : Int) < 1
    · simp only [h4, show ¬ 1 ≤ (l.getD i U.dL).1.length by omega, decide_true, decide_false, cond_true, Bool.false_and, Bool.not_false, Bool.not_true, cond_false]
    · by_cases h5 : (80 : Int) < ((l.getD i U.dL).1.length : Int)
      · simp only [h4, h5, show ¬ (l.getD i U.dL).1.length ≤ 80 by omega, decide_true, decide_false, cond_true, cond_false, Bool.false_and, Bool.and_false, Bool.not_false, Bool.not_true]
      · simp only [h4, h5, show (l.getD i U.dL).1.length ≤ 80 by omega, show 1 ≤ (l.getD i U.dL).1.length by omega, decide_true, decide_false, cond_false, Bool.true_and, Bool.not_not]
        cases U.fitC (l.getD i U.dL).1 <;> rfl
  · simp only [b24_0, B24_0, Tr.val, show ¬ ((l.length : Int) < (l.length : Int)) by omega, decide_false, cond_false]
def d24 (a : List Line) : Tr (Bool) :=
  let v1 : Int := ((↑a.length : Int))
  let v2 : Int := ((↑a.length : Int))
  Tr.ite (decide (v2 = v1 ∧ (0 : Int) = (0 : Int)) && U.okl a) (Tr.ite (a.any fun (y : Line) => U.odd y.fst) (Tr.ret false) (Tr.ret true)) Tr.fail
def e24 (r : Bool) : FRes := { rs := Slot.av (AV.one (Leaf.dat Kd.bool r)), upd := [], new := [] }
@[reducible] def a24 : List AK := [AK.d link.sl]
@[reducible] def b24 : List BK := []
theorem t24 (a : List Line) : evFn (E24) Tryd.f24 [PM.data Kd.bool] (akAV a24 (a, ())) (bkBs b24 ()) = (d24 a).map e24 := by kernel_rfl
def s24 (C : akT a24 → Bool) (G : akT a24 → Bool) : FSpec := aspec a24 b24 e24 (fun x _ => C x) (fun x _ => G x)
theorem k24 {C : akT a24 → Bool} {G : akT a24 → Bool} (hd : ∀ (a : List Line), C (a, ()) = true → (d24 a).val = some (G (a, ()))) (IO : ItOK Tryd.prog (E24) := by exact itOK_none rfl) (L : ∀ c, Tryd.f24.body = some c → LsOK (evI 2) ((E24).lend 0) c := by exact fun c _ => LsOK_none rfl c) : SpecOK Tryd.prog E0 24 (s24 C G) :=
  aspec_ok (ak := a24) (bl := b24) (e := e24) (c := fun x _ => C x) (g := fun x _ => G x) (E0 := E0) (E := E24) tab (.cons wk71 .nil) rfl rfl hm Tryd.func24 (by kernel_rfl) [PM.data Kd.bool] (fun X Y H => by obtain ⟨a, _⟩ := X; exact val_of (t24 a) (hd a H)) IO L
abbrev w24 : FSpec := s24 (fun x => U.okl x.1) fun x => !(List.any (α := Line) x.1 fun y => U.odd y.1)
theorem wk24 : SpecOK Tryd.prog E0 24 w24 := by
  refine k24 (fun l H => ?_) (L := ls_ok (lcs := [lc Tryd.f24 0]) (rgs := []) (by kernel_rfl) (by kernel_rfl) L24 trivial)
  have H : U.okl l = true := H
  show _ = some (!(l.any fun y => U.odd y.1))
  simp only [d24, Tr.val, H, decide_true, and_self, Bool.and_self, cond_true]
  cases l.any fun y => U.odd y.1 <;> rfl
def d21 (a1 : Int) (a2 : List Line) : Tr (Bool) :=
  let v1 : Int := ((↑a2.length : Int))
  Tr.ite (decide ((0 : Int) ≤ a1))
    (Tr.ite (decide (a1 ≤ (40 : Int))) (Tr.ite (decide (v1 ≤ a1)) (Tr.ite (U.okl a2) (Tr.ret !a2.any fun (y : Line) => U.odd y.fst) Tr.fail) (Tr.ret false)) (Tr.ret false)) (Tr.ret false)
def e21 (r : Bool) : FRes := { rs := Slot.av (AV.one (Leaf.dat Kd.bool r)), upd := [], new := [] }
@[reducible] def a21 : List AK := [AK.d bakk]
@[reducible] def b21 : List BK := []
theorem t21 (a1 : Int) (a2 : List Line) : evFn (E0.withFns [((24 : Nat), w24)]) Tryd.f21 [PM.data Kd.bool] (akAV a21 ((a1, a2, ()), ())) (bkBs b21 ()) = (d21 a1 a2).map e21 := by kernel_rfl
def s21 (C : akT a21 → Bool) (G : akT a21 → Bool) : FSpec := aspec a21 b21 e21 (fun x _ => C x) (fun x _ => G x)
theorem k21 {C : akT a21 → Bool} {G : akT a21 → Bool} (hd : ∀ (a1 : Int) (a2 : List Line), C ((a1, a2, ()), ()) = true → (d21 a1 a2).val = some (G ((a1, a2, ()), ()))) (IO : ItOK Tryd.prog (E0.withFns [((24 : Nat), w24)]) := by exact itOK_none rfl) (L : ∀ c, Tryd.f21.body = some c → LsOK (evI 2) ((E0.withFns [((24 : Nat), w24)]).lend 0) c := by exact fun c _ => LsOK_none rfl c) : SpecOK Tryd.prog E0 21 (s21 C G) :=
  aspec_ok (ak := a21) (bl := b21) (e := e21) (c := fun x _ => C x) (g := fun x _ => G x) (E0 := E0) (E := E0.withFns [((24 : Nat), w24)]) tab (.cons wk24 .nil) rfl rfl hm Tryd.func21 (by kernel_rfl) [PM.data Kd.bool] (fun X Y H => by obtain ⟨⟨a1, ⟨a2, _⟩⟩, _⟩ := X; exact val_of (t21 a1 a2) (hd a1 a2 H)) IO L
abbrev w21 : FSpec := s21 (fun x => U.okl x.1.2.1) fun x => keepB x.1
theorem wk21 : SpecOK Tryd.prog E0 21 w21 := by
  refine k21 fun n l H => ?_
  have H : U.okl l = true := H
  show _ = some (keepB (n, l, ()))
  unfold keepB
  by_cases h1 : 0 ≤ n <;> by_cases h2 : n ≤ 40 <;> by_cases h3 : (l.length : Int) ≤ n <;> simp [d21, Tr.val, H, h1, h2, h3]
def d23 (a1 : Int) (a2 : List Line) (b1 : Int) (b2 : List Line) : Tr (Bool) :=
  Tr.ite (decide (a1 = b1)) (Tr.ite (decide (a2.length ≤ (1048576 : Nat)) && a2.all fun (y : Line) => decide (y.fst.length ≤ (1048576 : Nat))) (Tr.ret (U.eqLs a2 b2)) Tr.fail) (Tr.ret false)
def e23 (r : Bool) : FRes := { rs := Slot.av (AV.one (Leaf.dat Kd.bool r)), upd := [], new := [] }
@[reducible] def a23 : List AK := [AK.d bakk, AK.d bakk]
@[reducible] def b23 : List BK := []
theorem t23 (a1 : Int) (a2 : List Line) (b1 : Int) (b2 : List Line) : evFn (E0.withFns [((26 : Nat), w26)]) Tryd.f23 [PM.data Kd.bool] (akAV a23 ((a1, a2, ()), (b1, b2, ()), ())) (bkBs b23 ()) = (d23 a1 a2 b1 b2).map e23 := by kernel_rfl
def s23 (C : akT a23 → Bool) (G : akT a23 → Bool) : FSpec := aspec a23 b23 e23 (fun x _ => C x) (fun x _ => G x)
theorem k23 {C : akT a23 → Bool} {G : akT a23 → Bool} (hd : ∀ (a1 : Int) (a2 : List Line) (b1 : Int) (b2 : List Line), C ((a1, a2, ()), (b1, b2, ()), ()) = true → (d23 a1 a2 b1 b2).val = some (G ((a1, a2, ()), (b1, b2, ()), ()))) (IO : ItOK Tryd.prog (E0.withFns [((26 : Nat), w26)]) := by exact itOK_none rfl) (L : ∀ c, Tryd.f23.body = some c → LsOK (evI 2) ((E0.withFns [((26 : Nat), w26)]).lend 0) c := by exact fun c _ => LsOK_none rfl c) : SpecOK Tryd.prog E0 23 (s23 C G) :=
  aspec_ok (ak := a23) (bl := b23) (e := e23) (c := fun x _ => C x) (g := fun x _ => G x) (E0 := E0) (E := E0.withFns [((26 : Nat), w26)]) tab (.cons wk26 .nil) rfl rfl hm Tryd.func23 (by kernel_rfl) [PM.data Kd.bool] (fun X Y H => by obtain ⟨⟨a1, ⟨a2, _⟩⟩, ⟨⟨b1, ⟨b2, _⟩⟩, _⟩⟩ := X; exact val_of (t23 a1 a2 b1 b2) (hd a1 a2 b1 b2 H)) IO L
def d82 (a : ByteArray) : Tr (List Cell × Bool) :=
  Tr.ret ([(a, (1 : Int), ((0 : Int), (0 : Int), (0 : Int), ()), ())], false)
def e82 (r : List Cell × Bool) : FRes := { rs := Slot.av (AV.agg [Leaf.dat celk.sl r.fst, Leaf.dat Kd.bool r.snd]), upd := [], new := [] }
@[reducible] def a82 : List AK := [AK.d Kd.str]
@[reducible] def b82 : List BK := []
theorem t82 (a : ByteArray) : evFn (E0) Tryd.f82 [PM.data link] (akAV a82 (a, ())) (bkBs b82 ()) = (d82 a).map e82 := by kernel_rfl
def s82' (G : akT a82 → List Cell × Bool) : FSpec := aspec0 a82 b82 e82 (fun x _ => G x)
theorem k82' {G : akT a82 → List Cell × Bool} (hd : ∀ (a : ByteArray), (d82 a).val = some (G (a, ()))) (IO : ItOK Tryd.prog (E0) := by exact itOK_none rfl) (L : ∀ c, Tryd.f82.body = some c → LsOK (evI 2) ((E0).lend 0) c := by exact fun c _ => LsOK_none rfl c) : SpecOK Tryd.prog E0 82 (s82' G) :=
  aspec0_ok (ak := a82) (bl := b82) (e := e82) (g := fun x _ => G x) (E0 := E0) (E := E0) tab .nil rfl rfl hm Tryd.func82 (by kernel_rfl) [PM.data link] (fun X Y => by obtain ⟨a, _⟩ := X; exact val_of (t82 a) (hd a)) IO L
end Go.Proofs.YtmnbcnhpklejcaaDoor

end
section
set_option linter.unusedVariables false
set_option linter.unusedSimpArgs false
set_option maxRecDepth 20000
open Go Go.Ev
namespace Go.Proofs.YtmnbcnhpklejcaaDoor
open Go.RowKit
abbrev okls (l : List Line) : Bool := decide (List.length (α := Line) l ≤ 1048576) && List.all (α := Line) l fun y => decide (y.1.length ≤ 1048576)
abbrev w23 : FSpec := s23 (fun x => okls x.1.2.1) fun x => decide ((x.1.1 : Int) = x.2.1.1) && U.eqLs x.1.2.1 x.2.1.2.1
theorem wk23 : SpecOK Tryd.prog E0 23 w23 := by
  refine k23 fun n l m k H => ?_
  have H : okls l = true := H
  show _ = some (decide (n = m) && U.eqLs l k)
  unfold okls at H
  by_cases h : n = m <;> simp only [d23, Tr.val, H, h, decide_true, decide_false, cond_true, cond_false, Bool.true_and, Bool.false_and]
abbrev w82 : FSpec := s82' fun x => ([(x.1, (1 : Int), ((0 : Int), (0 : Int), (0 : Int), ()), ())], false)
theorem wk82 : SpecOK Tryd.prog E0 82 w82 := by
  refine k82' fun a => ?_
  rfl
abbrev G22 : List (Nat × FSpec) := [(17, w17), (19, w19), (82, w82)]
theorem AG22 : AllFn Tryd.prog E0 G22 := .cons wk17 (.cons wk19 (.cons wk82 .nil))
def d22 : Tr (Bool) :=
  Tr.ite true (Tr.ite true (Tr.ite true (Tr.ite true (Tr.ite true (Tr.ite true (Tr.ite true (Tr.ret true) Tr.fail) (Tr.ret false)) (Tr.ret false)) (Tr.ret false)) (Tr.ret false)) Tr.fail) Tr.fail
def e22 (r : Bool) : FRes := { rs := Slot.av (AV.one (Leaf.dat Kd.bool r)), upd := [], new := [] }
@[reducible] def a22 : List AK := []
@[reducible] def b22 : List BK := []
theorem t22 : evFn (E0.withFns G22) Tryd.f22 [PM.data Kd.bool] (akAV a22 ()) (bkBs b22 ()) = (d22).map e22 := by kernel_rfl
def s22' (G : akT a22 → Bool) : FSpec := aspec0 a22 b22 e22 (fun x _ => G x)
theorem k22' {G : akT a22 → Bool} (hd : (d22).val = some (G ())) (IO : ItOK Tryd.prog (E0.withFns G22) := by exact itOK_none rfl) (L : ∀ c, Tryd.f22.body = some c → LsOK (evI 2) ((E0.withFns G22).lend 0) c := by exact fun c _ => LsOK_none rfl c) : SpecOK Tryd.prog E0 22 (s22' G) :=
  aspec0_ok (ak := a22) (bl := b22) (e := e22) (g := fun x _ => G x) (E0 := E0) (E := E0.withFns G22) tab AG22 rfl rfl hm Tryd.func22 (by kernel_rfl) [PM.data Kd.bool] (fun X Y => by exact val_of (t22) (hd)) IO L
abbrev w22 : FSpec := s22' fun _ => true
theorem wk22 : SpecOK Tryd.prog E0 22 w22 := by
  refine k22' ?_
  rfl
abbrev G3L : List (Nat × FSpec) := [(15, w15), (16, w16), (17, w17), (18, w18), (19, w19), (20, w20), (21, w21), (22, w22), (23, w23), (24, w24), (25, w25), (26, w26)]
theorem AG3L : AllFn Tryd.prog E0 G3L := .cons wk15 (.cons wk16 (.cons wk17 (.cons wk18 (.cons wk19 (.cons wk20 (.cons wk21 (.cons wk22 (.cons wk23 (.cons wk24 (.cons wk25 (.cons wk26 .nil)))))))))))
def e3 (r : Bool) : FRes := { rs := Slot.av (AV.one (Leaf.dat Kd.bool r)), upd := [], new := [] }
@[reducible] def a3 : List AK := [AK.d bakk, AK.d link.sl, AK.d (.int .i64)]
def d4 (a1 : Int) (a2 : List Line) (b : List Line) (c : Int) : Tr (Bool) :=
  let v1 : List U.Ln := (U.few b (50 : Nat))
  let v2 : Int := ((↑v1.length : Int))
  let v3 : List U.Ln := (U.few a2 (42 : Nat))
  let v4 : Int := (v2 + (1 : Int))
  let v5 : Int := (c.tmod (IntKind.i64.wrap v4) + v2)
  let v6 : Int := (IntKind.i64.wrap v5 + (1 : Int))
  let v7 : Int := ((IntKind.i64.wrap v6).tmod (IntKind.i64.wrap v4))
  let v8 : List Line := (sub v1 v7.toNat v1.length)
  let v9 : List Line := (sub v1 (0 : Nat) v7.toNat)
  let v10 : Int := ((U.rawPush (a1, v3, ()) v1).fst)
  let v11 : Int := ((U.rawPush (a1, v3, ()) v9).fst)
  let v12 : List Line := ((U.rawPush (a1, v3, ()) v1).snd.fst)
  let v13 : Int := ((↑v12.length : Int))
  let v14 : Int := ((U.rawPush (a1, v3, ()) v1).snd.snd)
  let v15 : List Line := ((U.rawPush (a1, v3, ()) v9).snd.fst)
  let v16 : Int := ((U.rawPush (v11, v15, ()) v8).fst)
  let v17 : Int := ((U.rawPush (v11, v15, ()) v8).snd.snd)
  let v18 : Int := ((U.rawPush (a1, v3, ()) v9).snd.snd)
  let v19 : List Line := ((U.rawTake (v10, v12, ()) v2).snd.fst)
  let v20 : Int := ((↑v19.length : Int))
  let v21 : List Line := ((U.rawTake (v10, v12, ()) v2).snd.snd.fst)
  let v22 : Int := ((↑v21.length : Int))
  let v23 : Int := (v2 - v22)
  let v24 : Int := (v13 - v22)
  let v25 : Int := ((U.rawTake (v10, v12, ()) v2).snd.snd.snd)
  Tr.ite true
    (Tr.ite (!decide (IntKind.i64.wrap v4 = (0 : Int)))
      (Tr.ite (!decide (IntKind.i64.wrap v4 = (0 : Int)))
        (Tr.ite (U.okl v3 && U.okl v1 && decide (v3.length + v1.length ≤ (1048576 : Nat)))
          (Tr.ite (!decide (v14 = (0 : Int))) (Tr.ite true (Tr.ite (okls v12) (Tr.ret (decide (v10 = (0 : Int)) && U.eqLs v12 [])) Tr.fail) (Tr.ret false))
            (Tr.ite (decide ((0 : Int) ≤ v7 ∧ v7 ≤ v2))
              (Tr.ite (U.okl v3 && U.okl v9 && decide (v3.length + v9.length ≤ (1048576 : Nat)))
                (Tr.ite (decide ((0 : Int) ≤ v7 ∧ v7 ≤ v2))
                  (Tr.ite (U.okl v15 && U.okl v8 && decide (v15.length + v8.length ≤ (1048576 : Nat)))
                    (Tr.ite (U.okl v12)
                      (Tr.ite (!decide (v18 = (0 : Int))) (Tr.ret false)
                        (Tr.ite (!decide (v17 = (0 : Int))) (Tr.ret false)
                          (Tr.ite (!decide (v25 = (0 : Int))) (Tr.ret false)
                            (Tr.ite (okls v12)
                              (Tr.ite (!(decide (v10 = v16) && U.eqLs v12 (U.rawPush (v11, v15, ()) v8).snd.fst)) (Tr.ret false)
                                (Tr.ite (decide (a1 < v13)) (Tr.ret false)
                                  (Tr.ite (!decide (v22 = minI v2 a1)) (Tr.ret false)
                                    (Tr.ite (U.okl v19)
                                      (Tr.ite (!keepB ((U.rawTake (v10, v12, ()) v2).fst, v19, ())) (Tr.ret false)
                                        (Tr.ite false (Tr.ret false)
                                          (Tr.ite (decide ((0 : Int) ≤ IntKind.i64.wrap v23 ∧ IntKind.i64.wrap v23 ≤ v2))
                                            (Tr.ite (decide (v21.length ≤ (1048576 : Nat)) && v21.all fun (y : Line) => decide (y.fst.length ≤ (1048576 : Nat)))
                                              (Tr.ite (U.eqLs v21 (sub v1 (IntKind.i64.wrap v23).toNat v1.length)) (Tr.ret (decide (v20 = IntKind.i64.wrap v24))) (Tr.ret false)) Tr.fail)
                                            Tr.fail)))
                                      Tr.fail))))
                              Tr.fail))))
                      Tr.fail)
                    Tr.fail)
                  Tr.fail)
                Tr.fail)
              Tr.fail))
          Tr.fail)
        Tr.fail)
      Tr.fail)
    Tr.fail
def e4 (r : Bool) : FRes := { rs := Slot.av (AV.one (Leaf.dat Kd.bool r)), upd := [], new := [] }
@[reducible] def a4 : List AK := [AK.d bakk, AK.d link.sl, AK.d (.int .i64)]
@[reducible] def b4 : List BK := []
theorem t4 (a1 : Int) (a2 : List Line) (b : List Line) (c : Int) : evFn (E0.withFns G3L) Tryd.f4 [PM.data Kd.bool] (akAV a4 ((a1, a2, ()), b, c, ())) (bkBs b4 ()) = (d4 a1 a2 b c).map e4 := by kernel_rfl
def s4 (C : akT a4 → Bool) (G : akT a4 → Bool) : FSpec := aspec a4 b4 e4 (fun x _ => C x) (fun x _ => G x)
theorem k4 {C : akT a4 → Bool} {G : akT a4 → Bool} (hd : ∀ (a1 : Int) (a2 : List Line) (b : List Line) (c : Int), C ((a1, a2, ()), b, c, ()) = true → (d4 a1 a2 b c).val = some (G ((a1, a2, ()), b, c, ()))) (IO : ItOK Tryd.prog (E0.withFns G3L) := by exact itOK_none rfl) (L : ∀ c, Tryd.f4.body = some c → LsOK (evI 2) ((E0.withFns G3L).lend 0) c := by exact fun c _ => LsOK_none rfl c) : SpecOK Tryd.prog E0 4 (s4 C G) :=
  aspec_ok (ak := a4) (bl := b4) (e := e4) (c := fun x _ => C x) (g := fun x _ => G x) (E0 := E0) (E := E0.withFns G3L) tab AG3L rfl rfl hm Tryd.func4 (by kernel_rfl) [PM.data Kd.bool] (fun X Y H => by obtain ⟨⟨a1, ⟨a2, _⟩⟩, ⟨b, ⟨c, _⟩⟩⟩ := X; exact val_of (t4 a1 a2 b c) (hd a1 a2 b c H)) IO L
end Go.Proofs.YtmnbcnhpklejcaaDoor
namespace U
open Go.Proofs.YtmnbcnhpklejcaaDoor
theorem cutC_size (c : Cl) : (cutC c).1.size ≤ 20 := by
  show (c.1.extract 0 (min c.1.size 20)).size ≤ 20
  rw [← bl_len, bl_ext, List.length_drop, List.length_take, bl_len]
  omega
theorem cutL_ok (l : List Cl) : okc (cutL l) = true := by
  unfold okc cutL
  rw [Bool.and_eq_true, decide_eq_true_eq, List.all_eq_true]
  refine ⟨by rw [List.length_map, List.length_take]; omega, fun x hx => ?_⟩
  obtain ⟨y, _, rfl⟩ := List.mem_map.1 hx
  exact decide_eq_true (by have := cutC_size y; omega)
theorem few_len (l : List Ln) (n : Nat) : (few l n).length ≤ n := by unfold few; rw [List.length_map, List.length_take]; omega
theorem few_ok (l : List Ln) {n : Nat} (hn : n ≤ 1000) : okl (few l n) = true := by
  have := few_len l n
  unfold okl
  rw [Bool.and_eq_true, decide_eq_true_eq, List.all_eq_true]
  refine ⟨by omega, fun x hx => ?_⟩
  unfold few at hx
  obtain ⟨y, _, rfl⟩ := List.mem_map.1 hx
  exact cutL_ok _
theorem eqLs_refl (l : List Ln) : eqLs l l = true := eqLs_iff.2 rfl
end U
namespace Go.Proofs.YtmnbcnhpklejcaaDoor
end Go.Proofs.YtmnbcnhpklejcaaDoor

end
section
set_option linter.unusedVariables false
set_option linter.unusedSimpArgs false
set_option maxRecDepth 20000
open Go Go.Ev
namespace Go.Proofs.YtmnbcnhpklejcaaDoor
open Go.RowKit
def d88 (a1 : Int) (a2 : Int) (a3 : Int) : Tr (ByteArray × Int × Int × Int × Int) :=
  Tr.ret (ByteArray.empty, (1 : Int), (0 : Int), a2, (0 : Int))
def e88 (r : ByteArray × Int × Int × Int × Int) : FRes := { rs := Slot.av (AV.agg [Leaf.dat Kd.str r.fst, Leaf.dat (.int .i64) r.snd.fst, Leaf.dat (.int .i64) r.snd.snd.fst, Leaf.dat (.int .i64) r.snd.snd.snd.fst, Leaf.dat (.int .i64) r.snd.snd.snd.snd]), upd := [], new := [] }
@[reducible] def a88 : List AK := [AK.d attk]
@[reducible] def b88 : List BK := []
theorem t88 (a1 : Int) (a2 : Int) (a3 : Int) : evFn (E0) Tryd.f88 [PM.data celk] (akAV a88 ((a1, a2, a3, ()), ())) (bkBs b88 ()) = (d88 a1 a2 a3).map e88 := by kernel_rfl
def s88' (G : akT a88 → ByteArray × Int × Int × Int × Int) : FSpec := aspec0 a88 b88 e88 (fun x _ => G x)
theorem k88' {G : akT a88 → ByteArray × Int × Int × Int × Int} (hd : ∀ (a1 : Int) (a2 : Int) (a3 : Int), (d88 a1 a2 a3).val = some (G ((a1, a2, a3, ()), ()))) (IO : ItOK Tryd.prog (E0) := by exact itOK_none rfl) (L : ∀ c, Tryd.f88.body = some c → LsOK (evI 2) ((E0).lend 0) c := by exact fun c _ => LsOK_none rfl c) : SpecOK Tryd.prog E0 88 (s88' G) :=
  aspec0_ok (ak := a88) (bl := b88) (e := e88) (g := fun x _ => G x) (E0 := E0) (E := E0) tab .nil rfl rfl hm Tryd.func88 (by kernel_rfl) [PM.data celk] (fun X Y => by obtain ⟨⟨a1, ⟨a2, ⟨a3, _⟩⟩⟩, _⟩ := X; exact val_of (t88 a1 a2 a3) (hd a1 a2 a3)) IO L
abbrev w88 : FSpec := s88' fun x => (ByteArray.empty, (1 : Int), (0 : Int), x.1.2.1, (0 : Int))
theorem wk88 : SpecOK Tryd.prog E0 88 w88 := k88' fun a b c => rfl
namespace R
end R
end Go.Proofs.YtmnbcnhpklejcaaDoor
namespace U
def blank (a : Int × Int × Int × Unit) : Cl := (ByteArray.empty, 1, (0, a.2.1, 0, ()), ())
end U
namespace Go.Proofs.YtmnbcnhpklejcaaDoor
def d179 (a : Int) (b : Int) : Tr (Int × Int) :=
  let v1 : Int := (b.fdiv (4294967296 : Int))
  let v2 : Int := (a.fdiv (4294967296 : Int))
  let v3 : Int := ((↑(BitVec.ofInt (64 : Nat) a &&& BitVec.ofInt (64 : Nat) (4294967295 : Int)).toNat : Int))
  let v4 : Int := ((↑(BitVec.ofInt (64 : Nat) b &&& BitVec.ofInt (64 : Nat) (4294967295 : Int)).toNat : Int))
  let v5 : Int := (v2 * IntKind.u64.wrap v4)
  let v6 : Int := (IntKind.u64.wrap v3 * IntKind.u64.wrap v4)
  let v7 : Int := ((IntKind.u64.wrap v6).fdiv (4294967296 : Int))
  let v8 : Int := (IntKind.u64.wrap v5 + v7)
  Tr.ite true
    (Tr.ite true
      (Tr.ite true
        (Tr.ite true
          (Tr.ite true
            (Tr.ret
              (IntKind.u64.wrap
                  (IntKind.u64.wrap (IntKind.u64.wrap (v2 * v1) + (IntKind.u64.wrap v8).fdiv (4294967296 : Int)) +
                    (IntKind.u64.wrap
                          (IntKind.u64.wrap (↑(BitVec.ofInt (64 : Nat) (IntKind.u64.wrap v8) &&& BitVec.ofInt (64 : Nat) (4294967295 : Int)).toNat : Int) +
                            IntKind.u64.wrap (IntKind.u64.wrap v3 * v1))).fdiv
                      (4294967296 : Int)),
                IntKind.u64.wrap (a * b)))
            Tr.fail)
          Tr.fail)
        Tr.fail)
      Tr.fail)
    Tr.fail
def e179 (r : Int × Int) : FRes := { rs := Slot.tup [AV.one (Leaf.dat (Kd.int IntKind.u64) r.fst), AV.one (Leaf.dat (Kd.int IntKind.u64) r.snd)], upd := [], new := [] }
@[reducible] def a179 : List AK := [AK.d (Kd.int IntKind.u64), AK.d (Kd.int IntKind.u64)]
@[reducible] def b179 : List BK := []
theorem t179 (a : Int) (b : Int) : evFn (E0) Tryd.f179 [PM.data (Kd.int IntKind.u64), PM.data (Kd.int IntKind.u64)] (akAV a179 (a, b, ())) (bkBs b179 ()) = (d179 a b).map e179 := by kernel_rfl
def s179 (C : akT a179 → Bool) (G : akT a179 → Int × Int) : FSpec := aspec a179 b179 e179 (fun x _ => C x) (fun x _ => G x)
theorem k179 {C : akT a179 → Bool} {G : akT a179 → Int × Int} (hd : ∀ (a : Int) (b : Int), C (a, b, ()) = true → (d179 a b).val = some (G (a, b, ()))) (IO : ItOK Tryd.prog (E0) := by exact itOK_none rfl) (L : ∀ c, Tryd.f179.body = some c → LsOK (evI 2) ((E0).lend 0) c := by exact fun c _ => LsOK_none rfl c) : SpecOK Tryd.prog E0 179 (s179 C G) :=
  aspec_ok (ak := a179) (bl := b179) (e := e179) (c := fun x _ => C x) (g := fun x _ => G x) (E0 := E0) (E := E0) tab .nil rfl rfl hm Tryd.func179 (by kernel_rfl) [PM.data (Kd.int IntKind.u64), PM.data (Kd.int IntKind.u64)] (fun X Y H => by obtain ⟨a, ⟨b, _⟩⟩ := X; exact val_of (t179 a b) (hd a b H)) IO L
abbrev w179 : FSpec := s179 (fun x => decide ((x.1 : Int) = 1 ∧ 0 ≤ (x.2.1 : Int) ∧ (x.2.1 : Int) < 128)) fun x => ((0 : Int), x.2.1)
theorem wk179 : SpecOK Tryd.prog E0 179 w179 := by
  refine k179 fun a b H => ?_
  obtain ⟨h1, h2, h3⟩ := of_decide_eq_true H
  dsimp only at h1 h2 h3
  subst h1
  obtain ⟨n, rfl⟩ := Int.eq_ofNat_of_zero_le h2
  have hn : n < 128 := Int.ofNat_lt.1 h3
  have : ∀ m : Fin 128, (d179 1 (m.val : Int)).val = some ((0 : Int), (m.val : Int)) := by decide +kernel
  exact this ⟨n, hn⟩
def d172 (a : Int) (b : Int) : Tr (Int × Int) :=
  Tr.ite (decide (a = (1 : Int) ∧ (0 : Int) ≤ b ∧ b < (128 : Int))) (Tr.ret ((0 : Int), b)) Tr.fail
def e172 (r : Int × Int) : FRes := { rs := Slot.tup [AV.one (Leaf.dat (Kd.int IntKind.u64) r.fst), AV.one (Leaf.dat (Kd.int IntKind.u64) r.snd)], upd := [], new := [] }
@[reducible] def a172 : List AK := [AK.d (Kd.int IntKind.u64), AK.d (Kd.int IntKind.u64)]
@[reducible] def b172 : List BK := []
theorem t172 (a : Int) (b : Int) : evFn (E0.withFns [((179 : Nat), w179)]) Tryd.f172 [PM.data (Kd.int IntKind.u64), PM.data (Kd.int IntKind.u64)] (akAV a172 (a, b, ())) (bkBs b172 ()) = (d172 a b).map e172 := by kernel_rfl
def s172 (C : akT a172 → Bool) (G : akT a172 → Int × Int) : FSpec := aspec a172 b172 e172 (fun x _ => C x) (fun x _ => G x)
theorem k172 {C : akT a172 → Bool} {G : akT a172 → Int × Int} (hd : ∀ (a : Int) (b : Int), C (a, b, ()) = true → (d172 a b).val = some (G (a, b, ()))) (IO : ItOK Tryd.prog (E0.withFns [((179 : Nat), w179)]) := by exact itOK_none rfl) (L : ∀ c, Tryd.f172.body = some c → LsOK (evI 2) ((E0.withFns [((179 : Nat), w179)]).lend 0) c := by exact fun c _ => LsOK_none rfl c) : SpecOK Tryd.prog E0 172 (s172 C G) :=
  aspec_ok (ak := a172) (bl := b172) (e := e172) (c := fun x _ => C x) (g := fun x _ => G x) (E0 := E0) (E := E0.withFns [((179 : Nat), w179)]) tab (.cons wk179 .nil) rfl rfl hm Tryd.func172 (by kernel_rfl) [PM.data (Kd.int IntKind.u64), PM.data (Kd.int IntKind.u64)] (fun X Y H => by obtain ⟨a, ⟨b, _⟩⟩ := X; exact val_of (t172 a b) (hd a b H)) IO L
abbrev w172 : FSpec := s172 (fun x => decide ((x.1 : Int) = 1 ∧ 0 ≤ (x.2.1 : Int) ∧ (x.2.1 : Int) < 128)) fun x => ((0 : Int), x.2.1)
theorem wk172 : SpecOK Tryd.prog E0 172 w172 := by
  refine k172 fun a b H => ?_
  obtain ⟨h1, h2, h3⟩ := of_decide_eq_true H
  dsimp only at h1 h2 h3
  simp only [d172, Tr.val, h1, h2, h3, and_self, decide_true, cond_true]
end Go.Proofs.YtmnbcnhpklejcaaDoor
namespace U
end U
namespace Go.Proofs.YtmnbcnhpklejcaaDoor
namespace GR
end GR
abbrev gridk : Kd := .pr (.int .i64) (.pr (.sl link) .un)
end Go.Proofs.YtmnbcnhpklejcaaDoor
namespace U
end U
namespace Go.Proofs.YtmnbcnhpklejcaaDoor
end Go.Proofs.YtmnbcnhpklejcaaDoor
namespace U
end U
namespace Go.Proofs.YtmnbcnhpklejcaaDoor
end Go.Proofs.YtmnbcnhpklejcaaDoor
namespace U
end U
namespace Go.Proofs.YtmnbcnhpklejcaaDoor
namespace P
end P
@[reducible] def a33 : List AK := [AK.d gridk, AK.d (.int .i64), AK.d (.int .i64), AK.d celk]
end Go.Proofs.YtmnbcnhpklejcaaDoor
namespace U
end U
namespace Go.Proofs.YtmnbcnhpklejcaaDoor
def live162 (key : Nat) : Lv :=
  bif Nat.beq key 8 then { ls := [7, 8] } else bif Nat.beq key 1008 then { ls := [7] } else
  bif Nat.beq key 8888 then { ls := [41, 44] } else
  { ls := [] }
abbrev M162 (ls : Nat → VS → Option (Tr (Ex × VS))) : Env := (E0.withFns [(172, w172)]).loops live162 ls
@[reducible] def p162_0 : LP := { n := 48, sl := [.c (Leaf.row ( 0)), .d (.int .i64)], bl := [(0, .row 48 (celk))] }
def B162_0 (x1 : Int) (h0 : List Cell) : Tr (p162_0.T ⊕ (List Cell)) :=
  let v1 : Int := ((↑h0.length : Int))
  let v2 : Int := (vwHi v1 none - vwLo (some x1))
  let v3 : Int := (vwHi v1 (some x1) - (0 : Int))
  let v4 : List Cell := (sub h0 (0 : Nat) ((0 : Nat) + v3.toNat))
  Tr.ite (decide (x1 < v1))
    (Tr.ite (vwOK v1 (some x1) none)
      (Tr.ite (vwOK v1 none (some x1)) (Tr.ret (Sum.inl ((IntKind.i64.wrap (x1 + (↑(v4.length.min v2.toNat) : Int)), ()), putAt h0 (vwLo (some x1)).toNat (List.take v2.toNat v4), ()))) Tr.fail) Tr.fail)
    (Tr.ret (Sum.inr h0))
def X162_0 (r : (List Cell)) : Ex × VS := Prod.mk (Ex.exit ( 0)) { n := 48, v := [Slot.av (AV.one (Leaf.row ( 0)))], h := [( 0, Blk.row ( 48) celk r)] }
def b162_0 : p162_0.T → Tr (p162_0.T ⊕ (List Cell)) := fun ⟨⟨x1, _⟩, ⟨h0, _⟩⟩ => B162_0 x1 h0
theorem h162_0 (ls : Nat → VS → Option (Tr (Ex × VS))) (x : p162_0.T) : (evC (evI 2) (lc Tryd.f162 0) (Env.lend (M162 ls) 0) (unV (live162 8) (p162_0.V x))).map (decL 0 (live162 8) (live162 1008)) = (b162_0 x).map (encR p162_0.V X162_0) := by
  obtain ⟨⟨x1, _⟩, ⟨h0, _⟩⟩ := x; kernel_rfl
theorem c162_0 (x : p162_0.T) : canV 0 (live162 8) (unV (live162 8) (p162_0.V x)) = p162_0.V x := by
  obtain ⟨⟨x1, _⟩, ⟨h0, _⟩⟩ := x; kernel_rfl
theorem l162_0 {T : p162_0.T → Tr (List Cell)} {ls : Nat → VS → Option (Tr (Ex × VS))} (hls : ∀ x, (Env.lend (M162 ls) 0).ls 8 x = p162_0.ls (fun a => (T a).map X162_0) x) (hS : ∀ x r, (T x).val = some r → Rounds b162_0 x r) : LoopOK (evI 2) (Env.lend (M162 ls) 0) (lc Tryd.f162 0) :=
  loopA 8 (live162 8) (live162 1008) p162_0 b162_0 X162_0 T (by kernel_rfl) rfl rfl hls (h162_0 ls) c162_0 hS
def T162 (x : p162_0.T) : Tr (List Cell) :=
  .ite (decide ((x.1.1 : Int) = 1 ∧ 1 ≤ List.length (α := Cell) x.2.1 ∧ List.length (α := Cell) x.2.1 ≤ 1048576)) (.ret (List.replicate (List.length (α := Cell) x.2.1) (List.getD (α := Cell) x.2.1 0 U.dC))) .fail
abbrev E162 : Env := M162 fun key x => bif Nat.beq key 8 then p162_0.ls (fun a => (T162 a).map X162_0) x else none
theorem rep162 (c : Cell) (N : Nat) (hN : N ≤ 1048576) : ∀ (k n : Nat) (h : List Cell), N - n ≤ k → 1 ≤ n → n ≤ N → h.length = N → h.take n = List.replicate n c → Rounds b162_0 (((n : Int), ()), h, ()) (List.replicate N c) := by
  intro k
  induction k with
  | zero =>
    intro n h h1 h2 h3 h4 h5
    have : n = N := by omega
    subst this
    rw [← h5, List.take_of_length_le (by omega)]
    refine .exit ?_
    simp only [b162_0, B162_0, Tr.val, h4, show ¬ ((n : Int) < (n : Int)) by omega, decide_false, cond_false]
  | succ k ih =>
    intro n h h1 h2 h3 h4 h5
    by_cases hn : n = N
    · exact ih n h (by omega) h2 h3 h4 h5
    · have e1 : vwHi (N : Int) none - vwLo (some (n : Int)) = ((N - n : Nat) : Int) := by simp only [vwHi, vwLo]; omega
      have e2 : vwOK (N : Int) (some (n : Int)) none = true := by
        show decide (0 ≤ (n : Int) ∧ (n : Int) ≤ (N : Int) ∧ (N : Int) ≤ (N : Int)) = true
        exact decide_eq_true (by omega)
      have e3 : vwOK (N : Int) none (some (n : Int)) = true := by
        show decide ((0 : Int) ≤ 0 ∧ (0 : Int) ≤ (n : Int) ∧ (n : Int) ≤ (N : Int)) = true
        exact decide_eq_true (by omega)
      have e4 : vwHi (N : Int) (some (n : Int)) - 0 = (n : Int) := by simp only [vwHi]; omega
      have e5 : sub h 0 (0 + n) = List.replicate n c := by unfold sub; rw [Nat.zero_add, List.drop_zero, h5]
      obtain ⟨m, hm, m1, m2, m3⟩ : ∃ m, n.min (N - n) = m ∧ m ≤ n ∧ m ≤ N - n ∧ 1 ≤ m := ⟨_, rfl, Nat.min_le_left _ _, Nat.min_le_right _ _, by
        have : n.min (N - n) = min n (N - n) := rfl
        omega⟩
      have e6 : IntKind.i64.wrap ((n : Int) + (m : Int)) = ((n + m : Nat) : Int) := by
        rw [w64 (by omega) (by omega)]
        omega
      have e7 : List.take (N - n) (List.replicate n c) = List.replicate m c := by
        rw [List.take_replicate, ← hm]
        congr 1
        exact Nat.min_comm _ _
      refine .step (y := ((((n + m : Nat) : Int), ()), putAt h n (List.replicate m c), ())) ?_ (ih (n + m) _ (by omega) (by omega) (by omega) ?_ ?_)
      · simp only [b162_0, B162_0, Tr.val, h4, show ((n : Int) < (N : Int)) by omega, e1, e2, e3, e4, e5, Int.toNat_natCast, List.length_replicate, hm, e6, e7, decide_true, cond_true]
        rfl
      · simp only [putAt, List.length_append, List.length_take, List.length_drop, List.length_replicate]
        omega
      · unfold putAt
        rw [h5, ← List.append_assoc, List.replicate_append_replicate, List.take_left' (by rw [List.length_replicate])]
theorem L162 : LoopOK (evI 2) (E162.lend 0) (lc Tryd.f162 0) := by
  refine l162_0 (T := T162) (fun x => rfl) ?_
  rintro ⟨⟨n, z⟩, h, z2⟩ r hh
  obtain ⟨g1, g2⟩ := pre_val hh
  obtain ⟨e1, e2, e3⟩ := of_decide_eq_true g1
  dsimp only at e1 e2 e3 g2
  subst e1
  cases g2
  refine rep162 (h.getD 0 U.dC) h.length e3 h.length 1 h (by omega) (by omega) e2 rfl ?_
  cases h with
  | nil => simp at e2
  | cons x h => rfl
def d162 (a : List Cell) (b : Int) : Tr (List Cell) :=
  let v1 : Int := ((↑a.length : Int))
  let v2 : List Cell := (List.replicate (IntKind.i64.wrap (IntKind.u64.wrap b)).toNat (ByteArray.empty, (0 : Int), ((0 : Int), (0 : Int), (0 : Int), ()), ()))
  let v3 : List Cell := (List.take v2.length a)
  let v4 : List Cell := (putAt v2 (0 : Nat) v3)
  let v5 : Int := ((↑(a.length.min v2.length) : Int))
  Tr.ite (decide (b < (0 : Int))) Tr.fail
    (Tr.ite (decide (IntKind.u64.wrap v1 = (1 : Int) ∧ (0 : Int) ≤ IntKind.u64.wrap b ∧ IntKind.u64.wrap b < (128 : Int)))
      (Tr.ite false Tr.fail
        (Tr.ite (decide ((9223372036854775807 : Int) < IntKind.u64.wrap b)) Tr.fail
          (Tr.ite
            (decide
              ((0 : Int) ≤ IntKind.i64.wrap (IntKind.u64.wrap b) ∧
                IntKind.i64.wrap (IntKind.u64.wrap b) ≤ IntKind.i64.wrap (IntKind.u64.wrap b) ∧ (IntKind.i64.wrap (IntKind.u64.wrap b)).toNat * (48 : Nat) ≤ (140737488355328 : Nat)))
            (Tr.ite (decide (v5 = (1 : Int) ∧ (1 : Nat) ≤ v4.length ∧ v4.length ≤ (1048576 : Nat))) (Tr.ret (List.replicate v4.length (v4.getD (0 : Nat) U.dC))) Tr.fail) Tr.fail)))
      Tr.fail)
def e162 (r : List Cell) : FRes := { rs := Slot.av (AV.one (Leaf.dat celk.sl r)), upd := [], new := [] }
@[reducible] def a162 : List AK := [AK.d celk.sl, AK.d (.int .i64)]
@[reducible] def b162 : List BK := []
theorem t162 (a : List Cell) (b : Int) : evFn (E162) Tryd.f162 [PM.data celk.sl] (akAV a162 (a, b, ())) (bkBs b162 ()) = (d162 a b).map e162 := by kernel_rfl
def s162 (C : akT a162 → Bool) (G : akT a162 → List Cell) : FSpec := aspec a162 b162 e162 (fun x _ => C x) (fun x _ => G x)
theorem k162 {C : akT a162 → Bool} {G : akT a162 → List Cell} (hd : ∀ (a : List Cell) (b : Int), C (a, b, ()) = true → (d162 a b).val = some (G (a, b, ()))) (IO : ItOK Tryd.prog (E162) := by exact itOK_none rfl) (L : ∀ c, Tryd.f162.body = some c → LsOK (evI 2) ((E162).lend 0) c := by exact fun c _ => LsOK_none rfl c) : SpecOK Tryd.prog E0 162 (s162 C G) :=
  aspec_ok (ak := a162) (bl := b162) (e := e162) (c := fun x _ => C x) (g := fun x _ => G x) (E0 := E0) (E := E162) tab (.cons wk172 .nil) rfl rfl hm Tryd.func162 (by kernel_rfl) [PM.data celk.sl] (fun X Y H => by obtain ⟨a, ⟨b, _⟩⟩ := X; exact val_of (t162 a b) (hd a b H)) IO L
abbrev w162 : FSpec := s162 (fun x => decide (List.length (α := Cell) x.1 = 1 ∧ 1 ≤ (x.2.1 : Int) ∧ (x.2.1 : Int) < 128)) fun x => List.replicate x.2.1.toNat (List.getD (α := Cell) x.1 0 U.dC)
theorem wk162 : SpecOK Tryd.prog E0 162 w162 := by
  refine k162 (fun l n H => ?_) (L := ls_ok (lcs := [lc Tryd.f162 0]) (rgs := []) (by kernel_rfl) (by kernel_rfl) L162 trivial)
  have H : (l.length = 1 ∧ (1 : Int) ≤ n ∧ (n : Int) < 128) := of_decide_eq_true H
  obtain ⟨h1, h2, h3⟩ := H
  obtain ⟨m, rfl⟩ := Int.eq_ofNat_of_zero_le (a := n) (Int.le_trans (by decide) h2)
  have h4 : 1 ≤ m ∧ m < 128 := by omega
  have u1 : IntKind.u64.wrap (m : Int) = (m : Int) := by simp [IntKind.wrap, IntKind.signed, IntKind.bits]; omega
  have u2 : IntKind.i64.wrap (m : Int) = (m : Int) := w64 (by omega) (by omega)
  have u3 : IntKind.u64.wrap 1 = 1 := by decide
  match l, h1 with
  | [x], _ =>
    have e1 : List.take m [x] = [x] := List.take_of_length_le (by simp; omega)
    show _ = some (List.replicate m x)
    have e2 : Nat.min 1 m = 1 := Nat.min_eq_left h4.1
    have e3 : (putAt (List.replicate m ((ByteArray.empty, (0 : Int), ((0 : Int), (0 : Int), (0 : Int), ()), ()) : Cell)) 0 [x]).length = m := by
      simp only [putAt, List.length_append, List.length_take, List.length_drop, List.length_replicate, List.length_cons, List.length_nil]
      omega
    have e4 : ∀ (q : List Cell), (putAt q 0 [x]).getD 0 U.dC = x := fun q => rfl
    have a1 : (0 : Int) ≤ (m : Int) := by omega
    have a2 : (m : Int) < 128 := by omega
    have a3 : (m : Int) ≤ (m : Int) := by omega
    have a4 : m * 48 ≤ 140737488355328 := by omega
    have a5 : 1 ≤ m := by omega
    have a6 : m ≤ 1048576 := by omega
    simp only [d162, Tr.val, u1, u2, Int.toNat_natCast, List.length_replicate, List.length_cons, List.length_nil, Nat.zero_add, e1, e2, e4, show ((1 : Nat) : Int) = 1 from rfl, u3, show ¬ ((m : Int) < 0) by omega, show ¬ ((9223372036854775807 : Int) < (m : Int)) by omega, decide_true, decide_false, cond_true, cond_false]
    simp only [e3, a1, a2, a3, a4, a5, a6, and_self, true_and, decide_true, cond_true]
end Go.Proofs.YtmnbcnhpklejcaaDoor
namespace U
end U
namespace Go.Proofs.YtmnbcnhpklejcaaDoor
end Go.Proofs.YtmnbcnhpklejcaaDoor

end
section
set_option linter.unusedVariables false
set_option linter.unusedSimpArgs false
set_option maxRecDepth 20000
open Go Go.Ev
namespace U
end U
namespace Go.Proofs.YtmnbcnhpklejcaaDoor
open Go.RowKit
def e5 (r : Bool) : FRes := { rs := Slot.av (AV.one (Leaf.dat Kd.bool r)), upd := [], new := [] }
@[reducible] def a5 : List AK := [AK.d link]
end Go.Proofs.YtmnbcnhpklejcaaDoor
namespace U
end U
namespace Go.Proofs.YtmnbcnhpklejcaaDoor
end Go.Proofs.YtmnbcnhpklejcaaDoor

end
section
set_option linter.unusedVariables false
set_option linter.unusedSimpArgs false
set_option maxRecDepth 20000
open Go Go.Ev
namespace Go.Proofs.YtmnbcnhpklejcaaDoor
open Go.RowKit
@[reducible] def a32 : List AK := [AK.d gridk]
end Go.Proofs.YtmnbcnhpklejcaaDoor
namespace U
end U
namespace Go.Proofs.YtmnbcnhpklejcaaDoor
end Go.Proofs.YtmnbcnhpklejcaaDoor
namespace U
end U
namespace Go.Proofs.YtmnbcnhpklejcaaDoor
namespace Er
end Er
end Go.Proofs.YtmnbcnhpklejcaaDoor
namespace U
end U
namespace Go.Proofs.YtmnbcnhpklejcaaDoor
end Go.Proofs.YtmnbcnhpklejcaaDoor
namespace U
end U
namespace Go.Proofs.YtmnbcnhpklejcaaDoor
end Go.Proofs.YtmnbcnhpklejcaaDoor
namespace U
end U
namespace Go.Proofs.YtmnbcnhpklejcaaDoor
end Go.Proofs.YtmnbcnhpklejcaaDoor
namespace U
end U
namespace Go.Proofs.YtmnbcnhpklejcaaDoor
end Go.Proofs.YtmnbcnhpklejcaaDoor

end
section
set_option linter.unusedVariables false
set_option linter.unusedSimpArgs false
set_option maxRecDepth 20000
set_option maxHeartbeats 8000000
open Go Go.Ev
namespace Go.Proofs.YtmnbcnhpklejcaaDoor
open Go.RowKit
def e6 (r : Bool) : FRes := { rs := Slot.av (AV.one (Leaf.dat Kd.bool r)), upd := [], new := [] }
@[reducible] def a6 : List AK := [AK.d gridk, AK.d (.int .i64), AK.d (.int .i64), AK.d (.int .i64), AK.d celk, AK.d attk, AK.d Kd.bool]
theorem eqLs_refl (l : List U.Ln) : U.eqLs l l = true := U.eqLs_iff.2 rfl
end Go.Proofs.YtmnbcnhpklejcaaDoor

end
section
set_option linter.unusedVariables false
set_option linter.unusedSimpArgs false
set_option maxRecDepth 20000
set_option maxHeartbeats 4000000
open Go Go.Ev
namespace U
end U
namespace Go.Proofs.YtmnbcnhpklejcaaDoor
open Go.RowKit
namespace In
end In
namespace De
end De
end Go.Proofs.YtmnbcnhpklejcaaDoor
namespace U
def downL (l : List Ln) (t b m : Nat) (x : Ln) : List Ln := l.take t ++ (List.replicate m x ++ ((l.take (b + 1 - m)).drop t ++ l.drop (b + 1)))
def bareL (c : Int) (a : Int × Int × Int × Unit) : Ln := (List.replicate c.toNat (blank a), false, ())
def cnt (t b n : Int) : Nat := min n.toNat (b.toNat + 1 - t.toNat)
end U
namespace Go.Proofs.YtmnbcnhpklejcaaDoor
end Go.Proofs.YtmnbcnhpklejcaaDoor

end
section
set_option linter.unusedVariables false
set_option linter.unusedSimpArgs false
set_option maxRecDepth 20000
set_option maxHeartbeats 4000000
open Go Go.Ev
namespace U
end U
namespace Go.Proofs.YtmnbcnhpklejcaaDoor
open Go.RowKit
abbrev goOK (t b c : Int) (N : Nat) : Bool := decide (0 ≤ t ∧ t ≤ b ∧ b < (N : Int) ∧ N ≤ 1000 ∧ 0 ≤ c ∧ c ≤ 1000)
def e64 (r : Int × List U.Ln) : FRes := { rs := Slot.av (AV.agg [Leaf.dat (.int .i64) r.fst, Leaf.dat (Kd.sl link) r.snd]), upd := [], new := [] }
@[reducible] def a64 : List AK := [AK.d gridk, AK.d (.int .i64), AK.d (.int .i64), AK.d (.int .i64), AK.d attk]
@[reducible] def b64 : List BK := []
def s64 (C : akT a64 → Bool) (G : akT a64 → Int × List U.Ln) : FSpec := aspec a64 b64 e64 (fun x _ => C x) (fun x _ => G x)
abbrev w64 : FSpec := s64 (fun x => decide (0 ≤ (x.2.2.2.1 : Int)) && goOK x.2.1 x.2.2.1 x.1.1 (List.length (α := Line) x.1.2.1)) fun x => (x.1.1, U.downL x.1.2.1 x.2.1.toNat x.2.2.1.toNat (U.cnt x.2.1 x.2.2.1 x.2.2.2.1) (U.bareL x.1.1 x.2.2.2.2.1))
def e10 (r : Bool) : FRes := { rs := Slot.av (AV.one (Leaf.dat Kd.bool r)), upd := [], new := [] }
end Go.Proofs.YtmnbcnhpklejcaaDoor

end
section
set_option linter.unusedVariables false
set_option linter.unusedSimpArgs false
set_option maxRecDepth 20000
set_option maxHeartbeats 4000000
open Go Go.Ev
namespace Go.Proofs.YtmnbcnhpklejcaaDoor
open Go.RowKit
def w161 : FSpec := { ps := [.raw], g := fun args bs => match args with
  | [.one (.ptr 0 0)] => some { rs := .av (.one (.ptr 0 0)), upd := bs }
  | _ => none }
theorem wk161 : SpecOK Tryd.prog E0 161 w161 := by
  intro F O args bs r hr
  unfold w161 at hr
  simp only at hr
  split at hr
  · cases hr
    intro hc w K A vs H hv
    cases hv with
    | cons h0 h1 =>
      cases h1
      rename_i v
      refine .inl ⟨v, w, ?_, K, A, by rw [List.append_nil]; exact H, by rw [List.append_nil]; exact Ext.refl _ _ _ _, by rw [List.append_nil]; exact h0, rfl⟩
      rw [run_callFunc_extern Tryd.func161 (by kernel_rfl) (by kernel_rfl) (by kernel_rfl) (e := Extern.AbiNoEscape.same) (by kernel_rfl)]
      rw [Lib.run_noEscape]
      rfl
  · cases hr
def live149 (key : Nat) : Lv :=
  { ls := [] }
def d149 (h0_u : Bool) (h1 : List Int) : Tr (Bool × List Int) :=
  Tr.ite (!h0_u) (Tr.ret (true, h1)) (Tr.ite (!h0_u) Tr.fail (Tr.ret (h0_u, h1)))
def e149 (r : Bool × List Int) : FRes := { rs := Slot.tup [], upd := [Blk.tb ( 132) r.fst [Leaf.srow ( 1)], Blk.row ( 5) (Kd.int IntKind.u8) r.snd], new := [] }
@[reducible] def a149 : List AK := [AK.c (Leaf.ptr (0 : Nat) (0 : Nat))]
@[reducible] def b149 : List BK := [BK.tb (132 : TypeId) [SK.c (Leaf.srow (1 : Nat))], BK.row (5 : TypeId) (Kd.int IntKind.u8)]
theorem t149 (h0_u : Bool) (h1 : List Int) : evFn (Env.loops (Env.withFns E0 [((161 : Nat), w161)]) live149 fun (x : Nat) (x_1 : VS) => none) Tryd.f149 [] (akAV a149 ()) (bkBs b149 ((h0_u, ()), h1, ())) = (d149 h0_u h1).map e149 := by kernel_rfl
def s149' (G : akT a149 → bksT b149 → Bool × List Int) : FSpec := aspec0 a149 b149 e149 (G)
theorem k149' {G : akT a149 → bksT b149 → Bool × List Int} (hd : ∀ (h0_u : Bool) (h1 : List Int), (d149 h0_u h1).val = some (G () ((h0_u, ()), h1, ()))) (IO : ItOK Tryd.prog (Env.loops (Env.withFns E0 [((161 : Nat), w161)]) live149 fun (x : Nat) (x_1 : VS) => none) := by exact itOK_none rfl) (L : ∀ c, Tryd.f149.body = some c → LsOK (evI 2) ((Env.loops (Env.withFns E0 [((161 : Nat), w161)]) live149 fun (x : Nat) (x_1 : VS) => none).lend 2) c := by exact fun c _ => LsOK_none rfl c) : SpecOK Tryd.prog E0 149 (s149' G) :=
  aspec0_ok (ak := a149) (bl := b149) (e := e149) (g := G) (E0 := E0) (E := Env.loops (Env.withFns E0 [((161 : Nat), w161)]) live149 fun (x : Nat) (x_1 : VS) => none) tab (.cons wk161 .nil) rfl rfl hm Tryd.func149 (by kernel_rfl) [] (fun X Y => by obtain ⟨⟨h0_u, _⟩, ⟨h1, _⟩⟩ := Y; exact val_of (t149 h0_u h1) (hd h0_u h1)) IO L
abbrev w149 : FSpec := s149' fun _ y => (true, y.2.1)
theorem wk149 : SpecOK Tryd.prog E0 149 w149 := k149' fun u h => by cases u <;> rfl
namespace Z
def d149 (h0_u : Bool) : Tr (Bool) :=
  Tr.ite (!h0_u) (Tr.ret true) (Tr.ite (!h0_u) Tr.fail (Tr.ret h0_u))
def e149 (r : Bool) : FRes := { rs := Slot.tup [], upd := [Blk.tb ( 132) r [Leaf.nils]], new := [] }
@[reducible] def a149 : List AK := [AK.c (Leaf.ptr (0 : Nat) (0 : Nat))]
@[reducible] def b149 : List BK := [BK.tb (132 : TypeId) [SK.c Leaf.nils]]
theorem t149 (h0_u : Bool) : evFn (Env.withFns E0 [((161 : Nat), w161)]) Tryd.f149 [] (akAV a149 ()) (bkBs b149 ((h0_u, ()), ())) = (d149 h0_u).map e149 := by kernel_rfl
def s149' (G : akT a149 → bksT b149 → Bool) : FSpec := aspec0 a149 b149 e149 (G)
theorem k149' {G : akT a149 → bksT b149 → Bool} (hd : ∀ (h0_u : Bool), (d149 h0_u).val = some (G () ((h0_u, ()), ()))) (IO : ItOK Tryd.prog (Env.withFns E0 [((161 : Nat), w161)]) := by exact itOK_none rfl) (L : ∀ c, Tryd.f149.body = some c → LsOK (evI 2) ((Env.withFns E0 [((161 : Nat), w161)]).lend 1) c := by exact fun c _ => LsOK_none rfl c) : SpecOK Tryd.prog E0 149 (s149' G) :=
  aspec0_ok (ak := a149) (bl := b149) (e := e149) (g := G) (E0 := E0) (E := Env.withFns E0 [((161 : Nat), w161)]) tab (.cons wk161 .nil) rfl rfl hm Tryd.func149 (by kernel_rfl) [] (fun X Y => by obtain ⟨⟨h0_u, _⟩, _⟩ := Y; exact val_of (t149 h0_u) (hd h0_u)) IO L
abbrev w149 : FSpec := s149' fun _ _ => true
theorem wk149 : SpecOK Tryd.prog E0 149 w149 := k149' fun u => by cases u <;> rfl
end Z
def live112 (key : Nat) : Lv :=
  bif Nat.beq key 9996 then { ls := [14] } else
  { ls := [] }
def d112 (b : ByteArray) (h0_u : Bool) (h1 : List Int) : Tr (Int × Bool × List Int) :=
  Tr.ite (decide (List.length h1 + ByteArray.size b ≤ (140737488355328 : Nat))) (Tr.ret ((↑(ByteArray.size b) : Int), true, h1 ++ bytesL b)) Tr.fail
def e112 (r : Int × Bool × List Int) : FRes := { rs := Slot.tup [AV.one (Leaf.dat (.int .i64) r.fst), AV.one Leaf.nili], upd := [Blk.tb ( 132) r.snd.fst [Leaf.srow ( 2)], Blk.dead], new := [Blk.row ( 5) (Kd.int IntKind.u8) r.snd.snd] }
@[reducible] def a112 : List AK := [AK.c (Leaf.ptr (0 : Nat) (0 : Nat)), AK.d Kd.str]
@[reducible] def b112 : List BK := [BK.tb (132 : TypeId) [SK.c (Leaf.srow (1 : Nat))], BK.row (5 : TypeId) (Kd.int IntKind.u8)]
theorem t112 (b : ByteArray) (h0_u : Bool) (h1 : List Int) : evFn (Env.loops (Env.withFns E0 [((149 : Nat), w149)]) live112 fun (x : Nat) (x_1 : VS) => none) Tryd.f112 [PM.data (.int .i64), PM.raw] (akAV a112 (b, ())) (bkBs b112 ((h0_u, ()), h1, ())) = (d112 b h0_u h1).map e112 := by kernel_rfl
def s112 (C : akT a112 → bksT b112 → Bool) (G : akT a112 → bksT b112 → Int × Bool × List Int) : FSpec := aspec a112 b112 e112 (C) (G)
theorem k112 {C : akT a112 → bksT b112 → Bool} {G : akT a112 → bksT b112 → Int × Bool × List Int} (hd : ∀ (b : ByteArray) (h0_u : Bool) (h1 : List Int), C (b, ()) ((h0_u, ()), h1, ()) = true → (d112 b h0_u h1).val = some (G (b, ()) ((h0_u, ()), h1, ()))) (IO : ItOK Tryd.prog (Env.loops (Env.withFns E0 [((149 : Nat), w149)]) live112 fun (x : Nat) (x_1 : VS) => none) := by exact itOK_none rfl) (L : ∀ c, Tryd.f112.body = some c → LsOK (evI 2) ((Env.loops (Env.withFns E0 [((149 : Nat), w149)]) live112 fun (x : Nat) (x_1 : VS) => none).lend 2) c := by exact fun c _ => LsOK_none rfl c) : SpecOK Tryd.prog E0 112 (s112 C G) :=
  aspec_ok (ak := a112) (bl := b112) (e := e112) (c := C) (g := G) (E0 := E0) (E := Env.loops (Env.withFns E0 [((149 : Nat), w149)]) live112 fun (x : Nat) (x_1 : VS) => none) tab (.cons wk149 .nil) rfl rfl hm Tryd.func112 (by kernel_rfl) [PM.data (.int .i64), PM.raw] (fun X Y H => by obtain ⟨b, _⟩ := X; obtain ⟨⟨h0_u, _⟩, ⟨h1, _⟩⟩ := Y; exact val_of (t112 b h0_u h1) (hd b h0_u h1 H)) IO L
def live113 (key : Nat) : Lv :=
  bif Nat.beq key 9996 then { ls := [14] } else
  { ls := [] }
def d113 (b : Int) (h0_u : Bool) (h1 : List Int) : Tr (Bool × List Int) :=
  Tr.ite (decide ((List.length h1 + (1 : Nat)) * (1 : Nat) ≤ (140737488355328 : Nat))) (Tr.ret (true, h1 ++ [b])) Tr.fail
def e113 (r : Bool × List Int) : FRes := { rs := Slot.av (AV.one Leaf.nili), upd := [Blk.tb ( 132) r.fst [Leaf.srow ( 2)], Blk.dead], new := [Blk.row ( 5) (Kd.int IntKind.u8) r.snd] }
@[reducible] def a113 : List AK := [AK.c (Leaf.ptr (0 : Nat) (0 : Nat)), AK.d (Kd.int IntKind.u8)]
@[reducible] def b113 : List BK := [BK.tb (132 : TypeId) [SK.c (Leaf.srow (1 : Nat))], BK.row (5 : TypeId) (Kd.int IntKind.u8)]
theorem t113 (b : Int) (h0_u : Bool) (h1 : List Int) : evFn (Env.loops (Env.withFns E0 [((149 : Nat), w149)]) live113 fun (x : Nat) (x_1 : VS) => none) Tryd.f113 [PM.raw] (akAV a113 (b, ())) (bkBs b113 ((h0_u, ()), h1, ())) = (d113 b h0_u h1).map e113 := by kernel_rfl
def s113 (C : akT a113 → bksT b113 → Bool) (G : akT a113 → bksT b113 → Bool × List Int) : FSpec := aspec a113 b113 e113 (C) (G)
theorem k113 {C : akT a113 → bksT b113 → Bool} {G : akT a113 → bksT b113 → Bool × List Int} (hd : ∀ (b : Int) (h0_u : Bool) (h1 : List Int), C (b, ()) ((h0_u, ()), h1, ()) = true → (d113 b h0_u h1).val = some (G (b, ()) ((h0_u, ()), h1, ()))) (IO : ItOK Tryd.prog (Env.loops (Env.withFns E0 [((149 : Nat), w149)]) live113 fun (x : Nat) (x_1 : VS) => none) := by exact itOK_none rfl) (L : ∀ c, Tryd.f113.body = some c → LsOK (evI 2) ((Env.loops (Env.withFns E0 [((149 : Nat), w149)]) live113 fun (x : Nat) (x_1 : VS) => none).lend 2) c := by exact fun c _ => LsOK_none rfl c) : SpecOK Tryd.prog E0 113 (s113 C G) :=
  aspec_ok (ak := a113) (bl := b113) (e := e113) (c := C) (g := G) (E0 := E0) (E := Env.loops (Env.withFns E0 [((149 : Nat), w149)]) live113 fun (x : Nat) (x_1 : VS) => none) tab (.cons wk149 .nil) rfl rfl hm Tryd.func113 (by kernel_rfl) [PM.raw] (fun X Y H => by obtain ⟨b, _⟩ := X; obtain ⟨⟨h0_u, _⟩, ⟨h1, _⟩⟩ := Y; exact val_of (t113 b h0_u h1) (hd b h0_u h1 H)) IO L
def live114 (key : Nat) : Lv :=
  { ls := [] }
def d114 (h0_u : Bool) (h1 : List Int) : Tr (ByteArray × Bool) :=
  let v1 : Int := ((↑(List.length h1) : Int))
  let v2 : Int := ((↑(List.length h1) : Int))
  Tr.ite (decide (v2 = v1)) (Tr.ret (strOf h1, h0_u)) Tr.fail
def e114 (r : ByteArray × Bool) : FRes := { rs := Slot.av (AV.one (Leaf.dat Kd.str r.fst)), upd := [Blk.tb ( 132) r.snd [Leaf.srow ( 1)], Blk.dead], new := [] }
@[reducible] def a114 : List AK := [AK.c (Leaf.ptr (0 : Nat) (0 : Nat))]
@[reducible] def b114 : List BK := [BK.tb (132 : TypeId) [SK.c (Leaf.srow (1 : Nat))], BK.row (5 : TypeId) (Kd.int IntKind.u8)]
theorem t114 (h0_u : Bool) (h1 : List Int) : evFn (Env.loops (Env.withFns E0 [((149 : Nat), w149)]) live114 fun (x : Nat) (x_1 : VS) => none) Tryd.f114 [PM.data Kd.str] (akAV a114 ()) (bkBs b114 ((h0_u, ()), h1, ())) = (d114 h0_u h1).map e114 := by kernel_rfl
def s114' (G : akT a114 → bksT b114 → ByteArray × Bool) : FSpec := aspec0 a114 b114 e114 (G)
theorem k114' {G : akT a114 → bksT b114 → ByteArray × Bool} (hd : ∀ (h0_u : Bool) (h1 : List Int), (d114 h0_u h1).val = some (G () ((h0_u, ()), h1, ()))) (IO : ItOK Tryd.prog (Env.loops (Env.withFns E0 [((149 : Nat), w149)]) live114 fun (x : Nat) (x_1 : VS) => none) := by exact itOK_none rfl) (L : ∀ c, Tryd.f114.body = some c → LsOK (evI 2) ((Env.loops (Env.withFns E0 [((149 : Nat), w149)]) live114 fun (x : Nat) (x_1 : VS) => none).lend 2) c := by exact fun c _ => LsOK_none rfl c) : SpecOK Tryd.prog E0 114 (s114' G) :=
  aspec0_ok (ak := a114) (bl := b114) (e := e114) (g := G) (E0 := E0) (E := Env.loops (Env.withFns E0 [((149 : Nat), w149)]) live114 fun (x : Nat) (x_1 : VS) => none) tab (.cons wk149 .nil) rfl rfl hm Tryd.func114 (by kernel_rfl) [PM.data Kd.str] (fun X Y => by obtain ⟨⟨h0_u, _⟩, ⟨h1, _⟩⟩ := Y; exact val_of (t114 h0_u h1) (hd h0_u h1)) IO L
abbrev w112 : FSpec := s112 (fun x y => decide (List.length (α := Int) y.2.1 + ByteArray.size x.1 ≤ 140737488355328)) fun x y => ((ByteArray.size x.1 : Int), true, List.append (α := Int) y.2.1 (bytesL x.1))
theorem wk112 : SpecOK Tryd.prog E0 112 w112 := k112 fun b u h H => by
  simp only [d112, Tr.val, H, cond_true]
  rfl
abbrev w113 : FSpec := s113 (fun _ y => decide (List.length (α := Int) y.2.1 + 1 ≤ 140737488355328)) fun x y => (true, List.append (α := Int) y.2.1 [x.1])
theorem wk113 : SpecOK Tryd.prog E0 113 w113 := k113 fun b u h H => by
  have H : h.length + 1 ≤ 140737488355328 := of_decide_eq_true H
  simp only [d113, Tr.val, Nat.mul_one, H, decide_true, cond_true]
  rfl
abbrev w114 : FSpec := s114' fun _ y => (strOf y.2.1, y.1.1)
theorem wk114 : SpecOK Tryd.prog E0 114 w114 := k114' fun u h => by
  simp only [d114, Tr.val, decide_true, cond_true]
end Go.Proofs.YtmnbcnhpklejcaaDoor
namespace U
open Go.Proofs.YtmnbcnhpklejcaaDoor
def sayC (c : ByteArray × Int × (Int × Int × Int × Unit) × Unit) : List Int := bytesL c.1 ++ bif (decide (c.1 = (⟨#[]⟩ : ByteArray)) && decide (c.2.1 = 1)) then [32] else []
def sayL (l : List (ByteArray × Int × (Int × Int × Int × Unit) × Unit)) : List Int := l.flatMap sayC
end U
namespace Go.Proofs.YtmnbcnhpklejcaaDoor
end Go.Proofs.YtmnbcnhpklejcaaDoor

end
section
set_option linter.unusedVariables false
set_option linter.unusedSimpArgs false
set_option maxRecDepth 20000
set_option maxHeartbeats 4000000
open Go Go.Ev
namespace U
open Go.Proofs.YtmnbcnhpklejcaaDoor
theorem strOf_app (a b : List Int) : strOf (a ++ b) = strOf a ++ strOf b := by
  apply ByteArray.ext
  simp [strOf]
theorem strOf_bytes (s : ByteArray) : strOf (bytesL s) = s := by
  apply ByteArray.ext
  unfold strOf bytesL
  rw [List.map_map]
  have e : ((fun n : Int => UInt8.ofNat n.toNat) ∘ fun b : UInt8 => (b.toNat : Int)) = id := by
    funext b
    simp
  rw [e, List.map_id]
theorem say_fold2 (l : List Cl) : ∀ (s : ByteArray), l.foldl (fun s c => s ++ strOf (sayC c)) s = s ++ strOf (sayL l) := by
  induction l with
  | nil => intro s; apply ByteArray.ext; simp [sayL, strOf]
  | cons c l ih =>
    intro s
    rw [List.foldl_cons, ih]
    unfold sayL
    rw [List.flatMap_cons, strOf_app, ByteArray.append_assoc]
theorem sayC_text (c : ByteArray × Int × (Int × Int × Int × Unit) × Unit) (h : (decide (c.1 = (⟨#[]⟩ : ByteArray)) && decide (c.2.1 = 1)) = false) : strOf (sayC c) = c.1 := by
  unfold sayC
  rw [h, cond_false, List.append_nil, strOf_bytes]
theorem sayC_blank (c : ByteArray × Int × (Int × Int × Int × Unit) × Unit) (h : (decide (c.1 = (⟨#[]⟩ : ByteArray)) && decide (c.2.1 = 1)) = true) : strOf (sayC c) = ⟨#[32]⟩ := by
  unfold sayC
  rw [h, cond_true]
  rw [Bool.and_eq_true] at h
  rw [of_decide_eq_true h.1]
  rfl
end U
namespace Go.Proofs.YtmnbcnhpklejcaaDoor
open Go.RowKit
def live57 (key : Nat) : Lv :=
  bif Nat.beq key 3 then { ls := [3, 6, 7, 8] } else bif Nat.beq key 1003 then { ls := [3] } else
  { ls := [] }
abbrev M57 (ls : Nat → VS → Option (Tr (Ex × VS))) : Env := E0.loops live57 ls
@[reducible] def p57_0 : LP := { n := 28, sl := [.d (Kd.str), .d (Kd.sl celk), .d (.int .i64), .d (.int .i64)], bl := [] }
def B57_0 (x0 : ByteArray) (x1 : List Cell) (x2 : Int) (x3 : Int) : Tr (p57_0.T ⊕ (ByteArray)) :=
  let v1 : ByteArray := (x0 ++ { data := #[OfNat.ofNat (32 : Nat)] })
  Tr.ite (decide (x3 < x2))
    (Tr.ite (inB x3 (List.length x1))
      (Tr.ite (decide ((rget celk x1 x3).fst = { data := #[] }))
        (Tr.ite (decide ((rget celk x1 x3).snd.fst = (1 : Int)))
          (Tr.ite (decide (ByteArray.size x0 + (1 : Nat) ≤ (9223372036854775807 : Nat)))
            (Tr.ite (decide (ByteArray.size v1 + ByteArray.size (rget celk x1 x3).fst ≤ (9223372036854775807 : Nat)))
              (Tr.ret (Sum.inl ((v1 ++ (rget celk x1 x3).fst, x1, x2, IntKind.wrap IntKind.i64 (x3 + (1 : Int)), ()), ()))) Tr.fail)
            Tr.fail)
          (Tr.ite (decide (ByteArray.size x0 + ByteArray.size (rget celk x1 x3).fst ≤ (9223372036854775807 : Nat)))
            (Tr.ret (Sum.inl ((x0 ++ (rget celk x1 x3).fst, x1, x2, IntKind.wrap IntKind.i64 (x3 + (1 : Int)), ()), ()))) Tr.fail))
        (Tr.ite (decide (ByteArray.size x0 + ByteArray.size (rget celk x1 x3).fst ≤ (9223372036854775807 : Nat)))
          (Tr.ret (Sum.inl ((x0 ++ (rget celk x1 x3).fst, x1, x2, IntKind.wrap IntKind.i64 (x3 + (1 : Int)), ()), ()))) Tr.fail))
      Tr.fail)
    (Tr.ret (Sum.inr x0))
def X57_0 (r : (ByteArray)) : Ex × VS := Prod.mk (Ex.exit ( 0)) { n := 28, v := [Slot.av (AV.one (Leaf.dat Kd.str r))], h := [] }
def b57_0 : p57_0.T → Tr (p57_0.T ⊕ (ByteArray)) := fun ⟨⟨x0, ⟨x1, ⟨x2, ⟨x3, _⟩⟩⟩⟩, _⟩ => B57_0 x0 x1 x2 x3
theorem h57_0 (ls : Nat → VS → Option (Tr (Ex × VS))) (x : p57_0.T) : (evC (evI 2) (lc Tryd.f57 0) (Env.lend (M57 ls) 0) (unV (live57 3) (p57_0.V x))).map (decL 0 (live57 3) (live57 1003)) = (b57_0 x).map (encR p57_0.V X57_0) := by
  obtain ⟨⟨x0, ⟨x1, ⟨x2, ⟨x3, _⟩⟩⟩⟩, _⟩ := x; kernel_rfl
theorem c57_0 (x : p57_0.T) : canV 0 (live57 3) (unV (live57 3) (p57_0.V x)) = p57_0.V x := by
  obtain ⟨⟨x0, ⟨x1, ⟨x2, ⟨x3, _⟩⟩⟩⟩, _⟩ := x; kernel_rfl
theorem l57_0 {T : p57_0.T → Tr (ByteArray)} {ls : Nat → VS → Option (Tr (Ex × VS))} (hls : ∀ x, (Env.lend (M57 ls) 0).ls 3 x = p57_0.ls (fun a => (T a).map X57_0) x) (hS : ∀ x r, (T x).val = some r → Rounds b57_0 x r) : LoopOK (evI 2) (Env.lend (M57 ls) 0) (lc Tryd.f57 0) :=
  loopA 3 (live57 3) (live57 1003) p57_0 b57_0 X57_0 T (by kernel_rfl) rfl rfl hls (h57_0 ls) c57_0 hS
def T57 (x : p57_0.T) : Tr ByteArray :=
  .ite (decide ((x.1.2.2.2.1 : Int) = 0 ∧ (x.1.2.2.1 : Int) = (List.length (α := Cell) x.1.2.1 : Int) ∧ List.length (α := Cell) x.1.2.1 ≤ 1048576 ∧ ByteArray.size x.1.1 + List.length (α := Int) (U.sayL x.1.2.1) ≤ 140737488355328))
    (.ret (x.1.1 ++ strOf (U.sayL x.1.2.1))) .fail
abbrev E57 : Env := M57 fun key x => bif Nat.beq key 3 then p57_0.ls (fun a => (T57 a).map X57_0) x else none
theorem L57 : LoopOK (evI 2) (E57.lend 0) (lc Tryd.f57 0) := by
  refine l57_0 (T := T57) (fun x => rfl) ?_
  rintro ⟨⟨h, l, n, j, z⟩, z1⟩ r hh
  obtain ⟨g1, g2⟩ := pre_val hh
  have g1 : (j : Int) = 0 ∧ (n : Int) = (l.length : Int) ∧ l.length ≤ 1048576 ∧ h.size + (U.sayL l).length ≤ 140737488355328 := of_decide_eq_true g1
  obtain ⟨rfl, rfl, e3, e4⟩ := g1
  cases g2
  have := Rounds.fold0 (B := b57_0) l (fun i (s : ByteArray) => ((s, l, (l.length : Int), (i : Int), ()), ())) (fun (s : ByteArray) c => s ++ strOf (U.sayC c)) (fun s => s) (fun i s => s.size + (U.sayL (l.drop i)).length ≤ 140737488355328) h (by show h.size + (U.sayL (l.drop 0)).length ≤ _; rw [List.drop_zero]; exact e4) (fun i s hi hv => ?_) (fun s hv => ?_)
  · rw [U.say_fold2] at this
    exact this
  · have e : rget celk l (i : Int) = l[i] := by rw [rgetC]; exact getD_el hi
    have hd : l.drop i = l[i] :: l.drop (i + 1) := List.drop_eq_getElem_cons hi
    have hv : s.size + (U.sayL (l.drop i)).length ≤ 140737488355328 := hv
    rw [hd] at hv
    have h5 : (U.sayL (l[i] :: l.drop (i + 1))).length = (U.sayC l[i]).length + (U.sayL (l.drop (i + 1))).length := by unfold U.sayL; rw [List.flatMap_cons, List.length_append]
    rw [h5] at hv
    generalize hc : l[i] = c at *
    generalize hq : (U.sayL (l.drop (i + 1))).length = q at *
    have h6 : (strOf (U.sayC c)).size = (U.sayC c).length := by simp [strOf, ByteArray.size]
    have w : IntKind.wrap IntKind.i64 ((i : Int) + 1) = ((i + 1 : Nat) : Int) := wrap64_nat (show i ≤ 1048576 by omega)
    refine ⟨?_, by show (s ++ strOf (U.sayC c)).size + q ≤ _; rw [ByteArray.size_append, h6]; omega⟩
    have lt : decide ((i : Int) < (l.length : Int)) = true := decide_eq_true (by omega)
    cases hb : (decide (c.1 = (⟨#[]⟩ : ByteArray)) && decide (c.2.1 = 1)) with
    | true =>
      rw [U.sayC_blank c hb]
      rw [Bool.and_eq_true] at hb
      obtain ⟨hb1, hb2⟩ := hb
      have hb3 : c.1 = (⟨#[]⟩ : ByteArray) := of_decide_eq_true hb1
      have h7 : (U.sayC c).length = 1 := by unfold U.sayC; rw [hb1, hb2, hb3]; rfl
      have h8 : s.size + 1 ≤ 9223372036854775807 := by omega
      have h9 : (s ++ (⟨#[OfNat.ofNat 32]⟩ : ByteArray)).size + c.1.size ≤ 9223372036854775807 := by rw [ByteArray.size_append, hb3]; show s.size + 1 + 0 ≤ _; omega
      have h10 : (s ++ (⟨#[OfNat.ofNat 32]⟩ : ByteArray)) ++ c.1 = s ++ ⟨#[32]⟩ := by rw [hb3]; apply ByteArray.ext; simp
      simp only [b57_0, B57_0, Tr.val, inB_nat hi, e, hb1, hb2, h8, h9, h10, w, lt, decide_true, cond_true]
    | false =>
      have h7 : (U.sayC c).length = c.1.size := by rw [← h6, U.sayC_text c hb]
      have h8 : s.size + c.1.size ≤ 9223372036854775807 := by omega
      rw [U.sayC_text c hb]
      cases hb1 : decide (c.1 = (⟨#[]⟩ : ByteArray)) with
      | true =>
        rw [hb1, Bool.true_and] at hb
        simp only [b57_0, B57_0, Tr.val, inB_nat hi, e, hb, hb1, h8, w, lt, decide_true, cond_true, cond_false]
      | false =>
        simp only [b57_0, B57_0, Tr.val, inB_nat hi, e, hb1, h8, w, lt, decide_true, cond_true, cond_false]
  · simp only [b57_0, B57_0, Tr.val, show ¬ ((l.length : Int) < (l.length : Int)) by omega, decide_false, cond_false]
def d57 (a : List Cell) : Tr (ByteArray) :=
  let v1 : Int := ((↑(List.length a) : Int))
  let v2 : Int := ((↑(List.length a) : Int))
  Tr.ite (decide ((0 : Int) = (0 : Int) ∧ v2 = v1 ∧ List.length a ≤ (1048576 : Nat) ∧ (0 : Nat) + List.length (U.sayL a) ≤ (140737488355328 : Nat))) (Tr.ret ({ data := #[] } ++ strOf (U.sayL a)))
    Tr.fail
def e57 (r : ByteArray) : FRes := { rs := Slot.av (AV.one (Leaf.dat Kd.str r)), upd := [], new := [] }
@[reducible] def a57 : List AK := [AK.d (Kd.sl celk)]
@[reducible] def b57 : List BK := []
theorem t57 (a : List Cell) : evFn (E57) Tryd.f57 [PM.data Kd.str] (akAV a57 (a, ())) (bkBs b57 ()) = (d57 a).map e57 := by kernel_rfl
def s57 (C : akT a57 → Bool) (G : akT a57 → ByteArray) : FSpec := aspec a57 b57 e57 (fun x _ => C x) (fun x _ => G x)
theorem k57 {C : akT a57 → Bool} {G : akT a57 → ByteArray} (hd : ∀ (a : List Cell), C (a, ()) = true → (d57 a).val = some (G (a, ()))) (IO : ItOK Tryd.prog (E57) := by exact itOK_none rfl) (L : ∀ c, Tryd.f57.body = some c → LsOK (evI 2) ((E57).lend 0) c := by exact fun c _ => LsOK_none rfl c) : SpecOK Tryd.prog E0 57 (s57 C G) :=
  aspec_ok (ak := a57) (bl := b57) (e := e57) (c := fun x _ => C x) (g := fun x _ => G x) (E0 := E0) (E := E57) tab .nil rfl rfl hm Tryd.func57 (by kernel_rfl) [PM.data Kd.str] (fun X Y H => by obtain ⟨a, _⟩ := X; exact val_of (t57 a) (hd a H)) IO L
abbrev w57 : FSpec := s57 (fun x => decide (List.length (α := Cell) x.1 ≤ 1048576 ∧ List.length (α := Int) (U.sayL x.1) ≤ 140737488355328)) fun x => strOf (U.sayL x.1)
theorem wk57 : SpecOK Tryd.prog E0 57 w57 := by
  refine k57 (fun l H => ?_) (L := ls_ok (lcs := [lc Tryd.f57 0]) (rgs := []) (by kernel_rfl) (by kernel_rfl) L57 trivial)
  have H : l.length ≤ 1048576 ∧ (U.sayL l).length ≤ 140737488355328 := of_decide_eq_true H
  obtain ⟨h1, h2⟩ := H
  have h3 : 0 + (U.sayL l).length ≤ 140737488355328 := by omega
  have h4 : (⟨#[]⟩ : ByteArray) ++ strOf (U.sayL l) = strOf (U.sayL l) := by apply ByteArray.ext; simp
  simp only [d57, Tr.val, h1, h3, h4, and_self, decide_true, cond_true]
def live45 (key : Nat) : Lv :=
  bif Nat.beq key 20028 then { ls := [9999, 0, 5, 6, 7] } else bif Nat.beq key 40028 then { ls := [2] } else
  bif Nat.beq key 25004 then { ls := [9999, 0, 5, 6, 7, 28] } else bif Nat.beq key 45004 then { ls := [11, 12, 13, 14, 15, 16, 17, 18, 19, 20, 21, 22, 23, 24, 25, 26, 27, 28] } else
  bif Nat.beq key 20008 then { ls := [9999, 0, 5, 6, 7] } else bif Nat.beq key 40008 then { ls := [] } else
  bif Nat.beq key 2 then { ls := [0, 5, 6, 7] } else bif Nat.beq key 1002 then { ls := [0, 2] } else
  { ls := [] }
abbrev M45 (ls : Nat → VS → Option (Tr (Ex × VS))) : Env := (E0.withFns [(71, w71)]).loops live45 ls
@[reducible] def p45_0 : LP := { n := 33, sl := [.d (Kd.sl link), .d (Kd.sl link), .d (.int .i64), .d (.int .i64)], bl := [] }
def B45_0 (x0 : List Line) (x1 : List Line) (x2 : Int) (x3 : Int) : Tr (p45_0.T ⊕ (List Line ⊕ List Line)) :=
  let v1 : Int := ((↑(List.length (rget link x1 x3).fst) : Int))
  let v2 : Int := ((↑(List.length (rget link x1 x3).fst) : Int))
  let v3 : Bool := (Kd.eqb (Kd.sl link) x0 x0 && (Kd.eqb (Kd.sl link) x1 x1 && (Kd.eqb (.int .i64) x2 x2 && Kd.eqb (.int .i64) x3 x3)))
  let v4 : Bool := (decide ((80 : Int) < v2))
  let v5 : Bool := (decide (v2 < (1 : Int)))
  Tr.ite (decide (x3 < x2))
    (Tr.ite (inB x3 (List.length x1))
      (Tr.ite ((bif v5 then true else (bif v4 then true else U.okc (rget link x1 x3).fst) && v3) && v3)
        (Tr.ite (bif v5 then true else bif v4 then true else !(U.fitC (rget link x1 x3).fst && decide (v1 = v2))) (Tr.ret (Sum.inr (Sum.inl x0)))
          (Tr.ret (Sum.inl ((x0, x1, x2, IntKind.wrap IntKind.i64 (x3 + (1 : Int)), ()), ()))))
        Tr.fail)
      Tr.fail)
    (Tr.ret (Sum.inr (Sum.inr x0)))
def X45_0 : (List Line ⊕ List Line) → Ex × VS
  | (.inl r) => Prod.mk Ex.ret { n := 33, v := [Slot.av (AV.one (Leaf.dat (Kd.sl link) r)), Slot.av (AV.one (Leaf.kb false))], h := [] }
  | (.inr r) => Prod.mk (Ex.exit ( 0)) { n := 33, v := [Slot.av (AV.one (Leaf.dat (Kd.sl link) r)), Slot.av (AV.one Leaf.undef)], h := [] }
def b45_0 : p45_0.T → Tr (p45_0.T ⊕ (List Line ⊕ List Line)) := fun ⟨⟨x0, ⟨x1, ⟨x2, ⟨x3, _⟩⟩⟩⟩, _⟩ => B45_0 x0 x1 x2 x3
theorem h45_0 (ls : Nat → VS → Option (Tr (Ex × VS))) (x : p45_0.T) : (evC (evI 2) (lc Tryd.f45 0) (Env.lend (M45 ls) 0) (unV (live45 2) (p45_0.V x))).map (decL 0 (live45 2) (live45 1002)) = (b45_0 x).map (encR p45_0.V X45_0) := by
  obtain ⟨⟨x0, ⟨x1, ⟨x2, ⟨x3, _⟩⟩⟩⟩, _⟩ := x; kernel_rfl
theorem c45_0 (x : p45_0.T) : canV 0 (live45 2) (unV (live45 2) (p45_0.V x)) = p45_0.V x := by
  obtain ⟨⟨x0, ⟨x1, ⟨x2, ⟨x3, _⟩⟩⟩⟩, _⟩ := x; kernel_rfl
theorem l45_0 {T : p45_0.T → Tr (List Line ⊕ List Line)} {ls : Nat → VS → Option (Tr (Ex × VS))} (hls : ∀ x, (Env.lend (M45 ls) 0).ls 2 x = p45_0.ls (fun a => (T a).map X45_0) x) (hS : ∀ x r, (T x).val = some r → Rounds b45_0 x r) : LoopOK (evI 2) (Env.lend (M45 ls) 0) (lc Tryd.f45 0) :=
  loopA 2 (live45 2) (live45 1002) p45_0 b45_0 X45_0 T (by kernel_rfl) rfl rfl hls (h45_0 ls) c45_0 hS
end Go.Proofs.YtmnbcnhpklejcaaDoor
namespace U
def mayR (y : Ln) : Bool := !decide ((y.1.length : Int) < 1) && (!decide ((80 : Int) < (y.1.length : Int)) && fitC y.1)
def mayL (l : List Ln) : Bool := allN (fun i => mayR (l.getD i dL)) l.length 0
end U
namespace Go.Proofs.YtmnbcnhpklejcaaDoor
def T45 (x : p45_0.T) : Tr (List Line ⊕ List Line) :=
  .ite (decide ((x.1.2.2.2.1 : Int) = 0 ∧ (x.1.2.2.1 : Int) = (List.length (α := Line) x.1.2.1 : Int)) && U.okl x.1.2.1)
    (.ite (U.mayL x.1.2.1) (.ret (.inr x.1.1)) (.ret (.inl x.1.1))) .fail
abbrev E45 : Env := M45 fun key x => bif Nat.beq key 2 then p45_0.ls (fun a => (T45 a).map X45_0) x else none
theorem L45 : LoopOK (evI 2) (E45.lend 0) (lc Tryd.f45 0) := by
  refine l45_0 (T := T45) (fun x => rfl) ?_
  rintro ⟨⟨l0, l, n, j, z⟩, z1⟩ r hh
  obtain ⟨g1, g2⟩ := pre_val hh
  rw [Bool.and_eq_true] at g1
  obtain ⟨g1, gk⟩ := g1
  have g1 : (j : Int) = 0 ∧ (n : Int) = (l.length : Int) := of_decide_eq_true g1
  obtain ⟨rfl, rfl⟩ := g1
  have e3 : l.length ≤ 1048576 := U.okl_len gk
  have g3 : r = (bif U.mayL l then .inr l0 else .inl l0) := by
    have g2 : (Tr.ite (U.mayL l) (.ret (.inr l0)) (.ret (.inl l0)) : Tr (List Line ⊕ List Line)).val = some r := g2
    cases h : U.mayL l <;> rw [h] at g2 <;> cases g2 <;> rfl
  subst g3
  have := Rounds.all (B := b45_0) (N := l.length) (fun i => ((l0, l, (l.length : Int), (i : Int), ()), ())) (fun i => U.mayR (l.getD i U.dL)) (.inl l0) (.inr l0) (fun i hi => ?_) ?_
  · exact this
  · have ok := U.okl_at gk hi
    have w : IntKind.wrap IntKind.i64 ((i : Int) + 1) = ((i + 1 : Nat) : Int) := wrap64_nat (show i ≤ 1048576 by omega)
    have lt : decide ((i : Int) < (l.length : Int)) = true := decide_eq_true (by omega)
    simp only [b45_0, B45_0, Tr.val, inB_nat hi, rgetL, eqb_self, ok, w, lt, Bool.and_true, Bool.and_self, Bool.cond_self, decide_true, cond_true]
    unfold U.mayR
    generalize decide (((l.getD i U.dL).1.length : Int) < 1) = p
    generalize decide ((80 : Int) < ((l.getD i U.dL).1.length : Int)) = q
    generalize U.fitC (l.getD i U.dL).1 = t
    cases p <;> cases q <;> cases t <;> rfl
  · simp only [b45_0, B45_0, Tr.val, show ¬ ((l.length : Int) < (l.length : Int)) by omega, decide_false, cond_false]
def d45 (a : List Line) : Tr (Bool) :=
  let v1 : Int := ((↑(List.length a) : Int))
  let v2 : Int := ((↑(List.length a) : Int))
  Tr.ite (decide ((0 : Int) = (0 : Int) ∧ v2 = v1) && U.okl a) (Tr.ite (U.mayL a) (Tr.ret (decide (v2 ≤ (200 : Int)))) (Tr.ret false)) Tr.fail
def e45 (r : Bool) : FRes := { rs := Slot.av (AV.one (Leaf.dat Kd.bool r)), upd := [], new := [] }
@[reducible] def a45 : List AK := [AK.d (Kd.sl link)]
@[reducible] def b45 : List BK := []
theorem t45 (a : List Line) : evFn (E45) Tryd.f45 [PM.data Kd.bool] (akAV a45 (a, ())) (bkBs b45 ()) = (d45 a).map e45 := by kernel_rfl
def s45 (C : akT a45 → Bool) (G : akT a45 → Bool) : FSpec := aspec a45 b45 e45 (fun x _ => C x) (fun x _ => G x)
theorem k45 {C : akT a45 → Bool} {G : akT a45 → Bool} (hd : ∀ (a : List Line), C (a, ()) = true → (d45 a).val = some (G (a, ()))) (IO : ItOK Tryd.prog (E45) := by exact itOK_none rfl) (L : ∀ c, Tryd.f45.body = some c → LsOK (evI 2) ((E45).lend 0) c := by exact fun c _ => LsOK_none rfl c) : SpecOK Tryd.prog E0 45 (s45 C G) :=
  aspec_ok (ak := a45) (bl := b45) (e := e45) (c := fun x _ => C x) (g := fun x _ => G x) (E0 := E0) (E := E45) tab (.cons wk71 .nil) rfl rfl hm Tryd.func45 (by kernel_rfl) [PM.data Kd.bool] (fun X Y H => by obtain ⟨a, _⟩ := X; exact val_of (t45 a) (hd a H)) IO L
abbrev w45 : FSpec := s45 (fun x => U.okl x.1) fun x => U.mayL x.1 && decide ((List.length (α := Line) x.1 : Int) ≤ 200)
theorem wk45 : SpecOK Tryd.prog E0 45 w45 := by
  refine k45 (fun l H => ?_) (L := ls_ok (lcs := [lc Tryd.f45 0]) (rgs := []) (by kernel_rfl) (by kernel_rfl) L45 trivial)
  have H : U.okl l = true := H
  show _ = some (U.mayL l && decide ((l.length : Int) ≤ 200))
  simp only [d45, Tr.val, H, and_self, decide_true, Bool.and_self, cond_true]
  cases U.mayL l <;> rfl
end Go.Proofs.YtmnbcnhpklejcaaDoor
namespace U
open Go.Proofs.YtmnbcnhpklejcaaDoor
theorem sayC_len (c : ByteArray × Int × (Int × Int × Int × Unit) × Unit) : (sayC c).length ≤ c.1.size + 1 := by
  unfold sayC
  rw [List.length_append, Go.Ev.bytesL_size]
  cases (decide (c.1 = (⟨#[]⟩ : ByteArray)) && decide (c.2.1 = 1)) <;> simp
theorem sayL_len (l : List Cl) (h : ∀ c ∈ l, c.1.size ≤ 1048576) : (sayL l).length ≤ l.length * 1048577 := by
  induction l with
  | nil => simp [sayL]
  | cons c l ih =>
    have e : (sayL (c :: l)).length = (sayC c).length + (sayL l).length := by unfold sayL; rw [List.flatMap_cons, List.length_append]
    have h1 := sayC_len c
    have h2 := h c (List.mem_cons_self)
    have h3 := ih fun x hx => h x (List.mem_cons_of_mem _ hx)
    rw [e, List.length_cons, Nat.add_mul]
    omega
theorem okc_say {l : List Cl} (h : okc l = true) (k : Nat) : (l.drop k).length ≤ 1048576 ∧ (sayL (l.drop k)).length ≤ 140737488355328 := by
  have h0 := okc_len h
  have h1 : (l.drop k).length ≤ 1048576 := by rw [List.length_drop]; omega
  refine ⟨h1, Nat.le_trans (sayL_len _ fun c hc => ?_) (by omega)⟩
  simp only [okc, Bool.and_eq_true, decide_eq_true_eq, List.all_eq_true] at h
  exact h.2 c (List.mem_of_mem_drop hc)
end U
namespace Go.Proofs.YtmnbcnhpklejcaaDoor
end Go.Proofs.YtmnbcnhpklejcaaDoor

end
section
set_option linter.unusedVariables false
set_option linter.unusedSimpArgs false
set_option maxRecDepth 20000
set_option maxHeartbeats 4000000
open Go Go.Ev
namespace Go.Proofs.YtmnbcnhpklejcaaDoor
open Go.RowKit
def d147 : Tr (ByteArray × Int × Int × Int × Int) :=
  Tr.ret (ByteArray.empty, (1 : Int), (0 : Int), (0 : Int), (0 : Int))
def e147 (r : ByteArray × Int × Int × Int × Int) : FRes := { rs := Slot.av (AV.agg [Leaf.dat Kd.str r.fst, Leaf.dat (.int .i64) r.snd.fst, Leaf.dat (.int .i64) r.snd.snd.fst, Leaf.dat (.int .i64) r.snd.snd.snd.fst, Leaf.dat (.int .i64) r.snd.snd.snd.snd]), upd := [], new := [] }
@[reducible] def a147 : List AK := []
@[reducible] def b147 : List BK := []
theorem t147 : evFn (Env.withFns E0 [((88 : Nat), w88)]) Tryd.f147 [PM.data celk] (akAV a147 ()) (bkBs b147 ()) = (d147).map e147 := by kernel_rfl
def s147' (G : akT a147 → ByteArray × Int × Int × Int × Int) : FSpec := aspec0 a147 b147 e147 (fun x _ => G x)
theorem k147' {G : akT a147 → ByteArray × Int × Int × Int × Int} (hd : (d147).val = some (G ())) (IO : ItOK Tryd.prog (Env.withFns E0 [((88 : Nat), w88)]) := by exact itOK_none rfl) (L : ∀ c, Tryd.f147.body = some c → LsOK (evI 2) ((Env.withFns E0 [((88 : Nat), w88)]).lend 0) c := by exact fun c _ => LsOK_none rfl c) : SpecOK Tryd.prog E0 147 (s147' G) :=
  aspec0_ok (ak := a147) (bl := b147) (e := e147) (g := fun x _ => G x) (E0 := E0) (E := Env.withFns E0 [((88 : Nat), w88)]) tab (.cons wk88 .nil) rfl rfl hm Tryd.func147 (by kernel_rfl) [PM.data celk] (fun X Y => by exact val_of (t147) (hd)) IO L
abbrev w147 : FSpec := s147' fun _ => (ByteArray.empty, (1 : Int), (0 : Int), (0 : Int), (0 : Int))
theorem wk147 : SpecOK Tryd.prog E0 147 w147 := k147' rfl
def live110 (key : Nat) : Lv :=
  bif Nat.beq key 1 then { ls := [0] } else bif Nat.beq key 1001 then { ls := [0] } else
  { ls := [] }
abbrev M110 (ls : Nat → VS → Option (Tr (Ex × VS))) : Env := (E0.withFns [(147, w147)]).loops live110 ls
@[reducible] def p110_0 : LP := { n := 22, sl := [.d (Kd.sl celk)], bl := [] }
def B110_0 (x0 : List Cell) : Tr (p110_0.T ⊕ (List Cell)) :=
  let v1 : Int := ((↑(List.length x0) : Int))
  let v2 : Int := (IntKind.wrap IntKind.i64 (v1 - (1 : Int)))
  Tr.ite (decide ((0 : Int) < v1))
    (Tr.ite (inB v2 (List.length x0))
      (Tr.ite
        (decide ((rget celk x0 v2).fst = ByteArray.empty) &&
          (decide ((rget celk x0 v2).snd.fst = (1 : Int)) &&
            (decide ((rget celk x0 v2).snd.snd.fst.fst = (0 : Int)) && (decide ((rget celk x0 v2).snd.snd.fst.snd.fst = (0 : Int)) && decide ((rget celk x0 v2).snd.snd.fst.snd.snd.fst = (0 : Int))))))
        (Tr.ite (decide ((0 : Int) ≤ v2 ∧ v2 ≤ v1)) (Tr.ret (Sum.inl ((sub x0 (0 : Nat) (Int.toNat v2), ()), ()))) Tr.fail) (Tr.ret (Sum.inr x0)))
      Tr.fail)
    (Tr.ret (Sum.inr x0))
def X110_0 (r : (List Cell)) : Ex × VS := Prod.mk (Ex.exit ( 0)) { n := 22, v := [Slot.av (AV.one (Leaf.dat (Kd.sl celk) r))], h := [] }
def b110_0 : p110_0.T → Tr (p110_0.T ⊕ (List Cell)) := fun ⟨⟨x0, _⟩, _⟩ => B110_0 x0
theorem h110_0 (ls : Nat → VS → Option (Tr (Ex × VS))) (x : p110_0.T) : (evC (evI 2) (lc Tryd.f110 0) (Env.lend (M110 ls) 0) (unV (live110 1) (p110_0.V x))).map (decL 0 (live110 1) (live110 1001)) = (b110_0 x).map (encR p110_0.V X110_0) := by
  obtain ⟨⟨x0, _⟩, _⟩ := x; kernel_rfl
theorem c110_0 (x : p110_0.T) : canV 0 (live110 1) (unV (live110 1) (p110_0.V x)) = p110_0.V x := by
  obtain ⟨⟨x0, _⟩, _⟩ := x; kernel_rfl
theorem l110_0 {T : p110_0.T → Tr (List Cell)} {ls : Nat → VS → Option (Tr (Ex × VS))} (hls : ∀ x, (Env.lend (M110 ls) 0).ls 1 x = p110_0.ls (fun a => (T a).map X110_0) x) (hS : ∀ x r, (T x).val = some r → Rounds b110_0 x r) : LoopOK (evI 2) (Env.lend (M110 ls) 0) (lc Tryd.f110 0) :=
  loopA 1 (live110 1) (live110 1001) p110_0 b110_0 X110_0 T (by kernel_rfl) rfl rfl hls (h110_0 ls) c110_0 hS
end Go.Proofs.YtmnbcnhpklejcaaDoor
namespace U
def isNone (c : ByteArray × Int × (Int × Int × Int × Unit) × Unit) : Bool := decide (c.1 = ByteArray.empty) && (decide (c.2.1 = 1) && (decide (c.2.2.1.1 = 0) && (decide (c.2.2.1.2.1 = 0) && decide (c.2.2.1.2.2.1 = 0))))
def trimR (l : List (ByteArray × Int × (Int × Int × Int × Unit) × Unit)) : List (ByteArray × Int × (Int × Int × Int × Unit) × Unit) := (l.reverse.dropWhile isNone).reverse
theorem trimR_snoc (l : List (ByteArray × Int × (Int × Int × Int × Unit) × Unit)) (a : ByteArray × Int × (Int × Int × Int × Unit) × Unit) : trimR (l ++ [a]) = bif isNone a then trimR l else l ++ [a] := by
  unfold trimR
  rw [List.reverse_append, List.reverse_singleton, List.singleton_append, List.dropWhile_cons]
  cases isNone a
  · simp
  · simp
end U
namespace Go.Proofs.YtmnbcnhpklejcaaDoor
def T110 (x : p110_0.T) : Tr (List Cell) := .ite (decide (List.length (α := Cell) x.1.1 ≤ 1048576)) (.ret (U.trimR x.1.1)) .fail
abbrev E110 : Env := M110 fun key x => bif Nat.beq key 1 then p110_0.ls (fun a => (T110 a).map X110_0) x else none
theorem R110 : ∀ (n : Nat) (l : List Cell), l.length = n → n ≤ 1048576 → Rounds b110_0 ((l, ()), ()) (U.trimR l)
  | 0, l, h, _ => by
    have e : l = [] := List.eq_nil_of_length_eq_zero h
    subst e
    exact .exit (by simp [b110_0, B110_0, Tr.val, U.trimR])
  | n + 1, l, h, hn => by
    rcases List.eq_nil_or_concat l with rfl | ⟨L, a, rfl⟩
    · cases h
    · rw [List.concat_eq_append] at h ⊢
      have hL : L.length = n := by rw [List.length_append, List.length_singleton] at h; omega
      have e0 : (L ++ [a]).length = L.length + 1 := by rw [List.length_append, List.length_singleton]
      have e1 : IntKind.wrap IntKind.i64 (((L.length + 1 : Nat) : Int) - 1) = (L.length : Int) := by rw [Go.Ev.w64 (by omega) (by omega)]; omega
      have e2 : rget celk (L ++ [a]) (L.length : Int) = a := by
        rw [rgetC, getD_el (by rw [e0]; omega)]
        simp
      have e3 : sub (L ++ [a]) 0 (Int.toNat (L.length : Int)) = L := by
        unfold sub
        rw [Int.toNat_natCast, List.drop_zero, List.take_left]
      have e4 : decide ((0 : Int) ≤ (L.length : Int) ∧ (L.length : Int) ≤ ((L.length + 1 : Nat) : Int)) = true := decide_eq_true (by omega)
      have e5 : decide ((0 : Int) < ((L.length + 1 : Nat) : Int)) = true := decide_eq_true (by omega)
      have e6 : inB (L.length : Int) (L.length + 1) = true := inB_nat (by omega)
      have hv : (b110_0 ((L ++ [a], ()), ())).val = bif U.isNone a then some (.inl ((L, ()), ())) else some (.inr (L ++ [a])) := by
        simp only [b110_0, B110_0, Tr.val, e0, e1, e2, e3, e4, e5, e6, cond_true]
        rfl
      rw [U.trimR_snoc]
      cases hb : U.isNone a with
      | true =>
        rw [hb] at hv
        exact .step hv (R110 n L hL (by omega))
      | false =>
        rw [hb] at hv
        exact .exit hv
theorem L110 : LoopOK (evI 2) (E110.lend 0) (lc Tryd.f110 0) := by
  refine l110_0 (T := T110) (fun x => rfl) ?_
  rintro ⟨⟨l, z⟩, z1⟩ r hh
  obtain ⟨g1, g2⟩ := pre_val hh
  have g1 : l.length ≤ 1048576 := of_decide_eq_true g1
  cases g2
  exact R110 _ l rfl g1
def d110 (a : List Cell) : Tr (List Cell) :=
  Tr.ite (decide (List.length a ≤ (1048576 : Nat))) (Tr.ret (U.trimR a)) Tr.fail
def e110 (r : List Cell) : FRes := { rs := Slot.av (AV.one (Leaf.dat (Kd.sl celk) r)), upd := [], new := [] }
@[reducible] def a110 : List AK := [AK.d (Kd.sl celk)]
@[reducible] def b110 : List BK := []
theorem t110 (a : List Cell) : evFn (E110) Tryd.f110 [PM.data (Kd.sl celk)] (akAV a110 (a, ())) (bkBs b110 ()) = (d110 a).map e110 := by kernel_rfl
def s110 (C : akT a110 → Bool) (G : akT a110 → List Cell) : FSpec := aspec a110 b110 e110 (fun x _ => C x) (fun x _ => G x)
theorem k110 {C : akT a110 → Bool} {G : akT a110 → List Cell} (hd : ∀ (a : List Cell), C (a, ()) = true → (d110 a).val = some (G (a, ()))) (IO : ItOK Tryd.prog (E110) := by exact itOK_none rfl) (L : ∀ c, Tryd.f110.body = some c → LsOK (evI 2) ((E110).lend 0) c := by exact fun c _ => LsOK_none rfl c) : SpecOK Tryd.prog E0 110 (s110 C G) :=
  aspec_ok (ak := a110) (bl := b110) (e := e110) (c := fun x _ => C x) (g := fun x _ => G x) (E0 := E0) (E := E110) tab (.cons wk147 .nil) rfl rfl hm Tryd.func110 (by kernel_rfl) [PM.data (Kd.sl celk)] (fun X Y H => by obtain ⟨a, _⟩ := X; exact val_of (t110 a) (hd a H)) IO L
abbrev w110 : FSpec := s110 (fun x => decide (List.length (α := Cell) x.1 ≤ 1048576)) fun x => U.trimR x.1
theorem wk110 : SpecOK Tryd.prog E0 110 w110 := by
  refine k110 (fun l H => ?_) (L := ls_ok (lcs := [lc Tryd.f110 0]) (rgs := []) (by kernel_rfl) (by kernel_rfl) L110 trivial)
  have H : l.length ≤ 1048576 := of_decide_eq_true H
  simp only [d110, Tr.val, H, decide_true, cond_true]
end Go.Proofs.YtmnbcnhpklejcaaDoor

end
section
set_option linter.unusedVariables false
set_option linter.unusedSimpArgs false
set_option maxRecDepth 20000
set_option maxHeartbeats 4000000
open Go Go.Ev
namespace Go.Proofs.YtmnbcnhpklejcaaDoor
open Go.RowKit
def d146 (a : List Line) (b : Int) : Tr (List Line × Int) :=
  Tr.ite (decide (b < (1 : Int))) Tr.fail (Tr.ret (a, b))
def e146 (r : List Line × Int) : FRes := { rs := Slot.av (AV.one (Leaf.fn ( 160) [0, 1])), upd := [], new := [Blk.box [Leaf.dat (Kd.sl link) r.fst], Blk.box [Leaf.dat (.int .i64) r.snd]] }
@[reducible] def a146 : List AK := [AK.d (Kd.sl link), AK.d (.int .i64)]
@[reducible] def b146 : List BK := []
theorem t146 (a : List Line) (b : Int) : evFn (E0) Tryd.f146 [PM.raw] (akAV a146 (a, b, ())) (bkBs b146 ()) = (d146 a b).map e146 := by kernel_rfl
def s146 (C : akT a146 → Bool) (G : akT a146 → List Line × Int) : FSpec := aspec a146 b146 e146 (fun x _ => C x) (fun x _ => G x)
theorem k146 {C : akT a146 → Bool} {G : akT a146 → List Line × Int} (hd : ∀ (a : List Line) (b : Int), C (a, b, ()) = true → (d146 a b).val = some (G (a, b, ()))) (IO : ItOK Tryd.prog (E0) := by exact itOK_none rfl) (L : ∀ c, Tryd.f146.body = some c → LsOK (evI 2) ((E0).lend 0) c := by exact fun c _ => LsOK_none rfl c) : SpecOK Tryd.prog E0 146 (s146 C G) :=
  aspec_ok (ak := a146) (bl := b146) (e := e146) (c := fun x _ => C x) (g := fun x _ => G x) (E0 := E0) (E := E0) tab .nil rfl rfl hm Tryd.func146 (by kernel_rfl) [PM.raw] (fun X Y H => by obtain ⟨a, ⟨b, _⟩⟩ := X; exact val_of (t146 a b) (hd a b H)) IO L
def d111 (a : List Cell) : Tr (List Cell) :=
  Tr.ret a
def e111 (r : List Cell) : FRes := { rs := Slot.av (AV.one (Leaf.fn ( 148) [0])), upd := [], new := [Blk.box [Leaf.dat (Kd.sl celk) r]] }
@[reducible] def a111 : List AK := [AK.d (Kd.sl celk)]
@[reducible] def b111 : List BK := []
theorem t111 (a : List Cell) : evFn (E0) Tryd.f111 [PM.raw] (akAV a111 (a, ())) (bkBs b111 ()) = (d111 a).map e111 := by kernel_rfl
def s111' (G : akT a111 → List Cell) : FSpec := aspec0 a111 b111 e111 (fun x _ => G x)
theorem k111' {G : akT a111 → List Cell} (hd : ∀ (a : List Cell), (d111 a).val = some (G (a, ()))) (IO : ItOK Tryd.prog (E0) := by exact itOK_none rfl) (L : ∀ c, Tryd.f111.body = some c → LsOK (evI 2) ((E0).lend 0) c := by exact fun c _ => LsOK_none rfl c) : SpecOK Tryd.prog E0 111 (s111' G) :=
  aspec0_ok (ak := a111) (bl := b111) (e := e111) (g := fun x _ => G x) (E0 := E0) (E := E0) tab .nil rfl rfl hm Tryd.func111 (by kernel_rfl) [PM.raw] (fun X Y => by obtain ⟨a, _⟩ := X; exact val_of (t111 a) (hd a)) IO L
abbrev w146 : FSpec := s146 (fun x => decide (1 ≤ (x.2.1 : Int))) fun x => (x.1, x.2.1)
theorem wk146 : SpecOK Tryd.prog E0 146 w146 := k146 fun l n H => by
  have H : 1 ≤ n := of_decide_eq_true H
  simp only [d146, Tr.val, show ¬ (n < 1) by omega, decide_false, cond_false]
abbrev w111 : FSpec := s111' fun x => x.1
theorem wk111 : SpecOK Tryd.prog E0 111 w111 := k111' fun l => rfl
end Go.Proofs.YtmnbcnhpklejcaaDoor

end
section
set_option linter.unusedVariables false
set_option linter.unusedSimpArgs false
set_option maxRecDepth 20000
set_option maxHeartbeats 4000000
open Go Go.Ev
namespace Go.Proofs.YtmnbcnhpklejcaaDoor
open Go.RowKit
abbrev G109 : List (Nat × FSpec) := [(146, w146), (20, w20)]
theorem AG109 : AllFn Tryd.prog E0 G109 := .cons wk146 (.cons wk20 .nil)
def live109 (key : Nat) : Lv := { ls := bif Nat.beq key 100001 then [0, 1, 2, 4] else bif Nat.beq key 502 then [0, 2, 5] else bif Nat.beq key 1502 then [0, 2] else bif Nat.beq key 503 then [0, 2, 5] else bif Nat.beq key 1503 then [0, 2] else [] }
noncomputable def rl109 : RL := { ps := (rg Tryd.f109 0).ps.toList, asg := (rg Tryd.f109 0).asg, body := (rg Tryd.f109 0).body }
noncomputable abbrev M109 (ls : Nat → VS → Option (Tr (Ex × VS))) : Env := ((E0.withFns G109).withIts [(160, Tryd.f160)]).loops live109 ls
def X109 (l0 l : List Line) (r : Bool) : VS := ⟨14, [.av (.one (.dat (.sl link) l0)), .av (.one (.ptr 0 0)), .av (.one (.fn 160 [1, 2]))], [(0, .box [.dat .bool r]), (1, .box [.dat (.sl link) l]), (2, .box [.dat (.int .i64) 40])]⟩
end Go.Proofs.YtmnbcnhpklejcaaDoor
namespace U
def evens (l : List Ln) : Bool := !l.any fun y => odd y.1
end U
namespace Go.Proofs.YtmnbcnhpklejcaaDoor
@[reducible] def p109 : LP := { n := 14, sl := [.d (.sl link), .c (.ptr 0 0), .c (.fn 160 [1, 2])], bl := [(0, .box [.d .bool]), (1, .box [.d (.sl link)]), (2, .box [.d (.int .i64)])] }
def Y109 (l0 : List Line) (r : Bool) : VS := ⟨14, [.av (.one (.dat (.sl link) l0)), .av (.one (.ptr 0 0))], [(0, .box [.dat .bool r])]⟩
def Z109 (l0 : List Line) : VS := ⟨14, [.av (.one (.dat (.sl link) l0)), .av (.one (.ptr 0 0))], [(0, .box [.kb false])]⟩
def T109 (x : p109.T) : Tr (Ex × VS) :=
  match x with
  | ⟨⟨l0, _⟩, ⟨r, _⟩, ⟨l, _⟩, ⟨n, _⟩, _⟩ => .ite (decide ((n : Int) = 40) && U.okl l) (.ite (U.evens l) (.ret (.nrm, Y109 l0 r)) (.ret (.ret, Z109 l0))) .fail
noncomputable abbrev E109 : Env := M109 fun key x => bif Nat.beq key 503 then p109.ls T109 x else none
noncomputable def V160 (l : List Line) (r : Bool) (i : Int) : VS := ⟨31, [.av (.one (.yld 3)), .av (.one (.ptr 1 0)), .av (.one (.ptr 2 0)), .av (.one (.dat (.int .i64) i))], [(0, .box [.dat .bool r]), (1, .box [.dat (.sl link) l]), (2, .box [.dat (.int .i64) 40]), (3, .lrec false none rl109)]⟩
noncomputable abbrev Ei109 (k : Nat) (l0 l : List Line) (r : Bool) : Env := ((E109.lend 0).fueled k).inner 4 (yldR (evI 2 ((E109.lend 0).fueled k).round) (unV { ls := [0, 2, 5] } (X109 l0 l r)).t 3)
noncomputable def Fe (l : List Line) (r : Bool) : VS := ⟨31, [], [(0, .box [.dat .bool r]), (1, .box [.dat (.sl link) l]), (2, .box [.dat (.int .i64) 40]), (3, .lrec false none rl109)]⟩
noncomputable def Fr (l : List Line) : VS := ⟨31, [], [(0, .box [.kb false]), (1, .box [.dat (.sl link) l]), (2, .box [.dat (.int .i64) 40]), (3, .lrec false (some .ret) rl109)]⟩
def end160 (l : List Line) (i : Int) : Int := IntKind.i64.wrap (i + minI 40 ((sub l i.toNat l.length).length : Int))
noncomputable def B160 (l : List Line) (r : Bool) (i : Int) : Tr (Int ⊕ (Ex × VS)) :=
  .ite (decide (i < (l.length : Int))) (.ite (decide ((0 : Int) ≤ i ∧ i ≤ (l.length : Int))) (.ite (decide ((0 : Int) ≤ i ∧ i ≤ end160 l i ∧ end160 l i ≤ (l.length : Int)) && decide (end160 l i = end160 l i))
    (.ite (U.okl (sub l i.toNat (end160 l i).toNat)) (.ite (!keepB (40, sub l i.toNat (end160 l i).toNat, ())) (.ret (.inr (.ret, Fr l))) (.ret (.inl (IntKind.i64.wrap (i + 40))))) .fail) .fail) .fail)
    (.ret (.inr (.exit 0, Fe l r)))
theorem hB160 (k : Nat) (l0 l : List Line) (r : Bool) (i : Int) : (evC (evI 1) (lc Tryd.f160 0) (Ei109 k l0 l r) (unV { ls := [0, 1, 2, 4] } (V160 l r i))).map (decL 4 { ls := [0, 1, 2, 4] } { ls := [] }) = (B160 l r i).map (encL (V160 l r)) := by kernel_rfl
theorem pre160 (k : Nat) (l0 l : List Line) (r : Bool) : (evC (evI 1) (match Tryd.f160.body with | some (.seq x _) => x | _ => .skip) (Ei109 k l0 l r)
    { t := { n := 31, m := argsT 0 [.one (.yld 3), .one (.ptr 1 0), .one (.ptr 2 0)] (Tm.full 10) }, h := (X109 l0 l r).h.set 3 (.lrec false none rl109) }).map (decL 4 { ls := [0, 1, 2, 4] } { ls := [] }) =
    .ret (.inl (V160 l r 0)) := by kernel_rfl
end Go.Proofs.YtmnbcnhpklejcaaDoor
namespace U
open Go.Proofs.YtmnbcnhpklejcaaDoor
theorem okl_part {l : List Ln} (h : okl l = true) (i n : Nat) : okl ((l.drop i).take n) = true := by
  simp only [okl, Bool.and_eq_true, decide_eq_true_eq, List.all_eq_true] at h ⊢
  refine ⟨by rw [List.length_take, List.length_drop]; omega, fun x hx => h.2 x (List.mem_of_mem_drop (List.mem_of_mem_take hx))⟩
theorem evens_app (a b : List Ln) : evens (a ++ b) = (evens a && evens b) := by unfold evens; rw [List.any_append, Bool.not_or]
theorem keep_part (c : List Ln) (h : c.length ≤ 40) : keepB (40, c, ()) = evens c := by
  unfold keepB evens
  have e1 : decide ((0 : Int) ≤ 40) = true := rfl
  have e2 : decide ((40 : Int) ≤ 40) = true := rfl
  have e3 : decide ((c.length : Int) ≤ 40) = true := decide_eq_true (by omega)
  show (decide ((0 : Int) ≤ 40) && (decide ((40 : Int) ≤ 40) && (decide ((c.length : Int) ≤ 40) && !(c.any fun y => odd y.1)))) = _
  rw [e1, e2, e3]
  rfl
end U
namespace Go.Proofs.YtmnbcnhpklejcaaDoor
theorem run160 (l : List Line) (r : Bool) (gk : U.okl l = true) : ∀ (k i : Nat), l.length - i < k → i ≤ l.length + 40 →
    runB (B160 l r) k (i : Int) = some (bif U.evens (l.drop i) then (.exit 0, Fe l r) else (.ret, Fr l))
  | 0, i, h, _ => by omega
  | k + 1, i, h, hi => by
    have hl := U.okl_len gk
    by_cases c : i < l.length
    · have e1 : sub l i l.length = l.drop i := by unfold sub; rw [List.take_length]
      have e2 : minI 40 ((l.drop i).length : Int) = ((min 40 (l.length - i) : Nat) : Int) := by rw [List.length_drop]; exact minI_nat 40 _
      have e3 : end160 l (i : Int) = ((i + min 40 (l.length - i) : Nat) : Int) := by
        unfold end160
        rw [Int.toNat_natCast, e1, e2, Go.Ev.w64 (by omega) (by omega)]
        omega
      have e4 : sub l i (i + min 40 (l.length - i)) = (l.drop i).take 40 := by
        unfold sub
        rw [List.drop_take]
        rcases Nat.le_total 40 (l.length - i) with h' | h'
        · rw [Nat.min_eq_left h']; congr 1; omega
        · rw [Nat.min_eq_right h', List.take_of_length_le (by rw [List.length_drop]; omega), List.take_of_length_le (by rw [List.length_drop]; omega)]
      have c1 : decide ((i : Int) < (l.length : Int)) = true := decide_eq_true (by omega)
      have c2 : decide ((0 : Int) ≤ (i : Int) ∧ (i : Int) ≤ (l.length : Int)) = true := decide_eq_true (by omega)
      have c3 : decide ((0 : Int) ≤ (i : Int) ∧ (i : Int) ≤ ((i + min 40 (l.length - i) : Nat) : Int) ∧ ((i + min 40 (l.length - i) : Nat) : Int) ≤ (l.length : Int)) = true := decide_eq_true (by omega)
      have c4 := U.okl_part gk i 40
      have c5 := U.keep_part ((l.drop i).take 40) (by rw [List.length_take]; omega)
      have e5 : IntKind.i64.wrap ((i : Int) + 40) = ((i + 40 : Nat) : Int) := by rw [Go.Ev.w64 (by omega) (by omega)]; omega
      have e6 : U.evens (l.drop i) = (U.evens ((l.drop i).take 40) && U.evens (l.drop (i + 40))) := by
        rw [← U.evens_app, ← List.drop_drop, List.take_append_drop]
      have hv : (B160 l r (i : Int)).val = bif U.evens ((l.drop i).take 40) then some (.inl ((i + 40 : Nat) : Int)) else some (.inr (.ret, Fr l)) := by
        simp only [B160, Tr.val, e3, e5, Int.toNat_natCast, e4, c1, c2, c3, c4, c5, decide_true, Bool.and_self, cond_true]
        cases U.evens ((l.drop i).take 40) <;> rfl
      rw [e6]
      cases hb : U.evens ((l.drop i).take 40) with
      | true =>
        rw [hb] at hv
        simp only [runB, hv, cond_true, Bool.true_and]
        exact run160 l r gk k (i + 40) (by omega) (by omega)
      | false =>
        rw [hb] at hv
        simp only [runB, hv, cond_false, Bool.false_and]
    · have c1 : decide ((i : Int) < (l.length : Int)) = false := decide_eq_false (by omega)
      have hv : (B160 l r (i : Int)).val = some (.inr (.exit 0, Fe l r)) := by
        simp only [B160, Tr.val, c1, cond_false]
      have e : l.drop i = [] := List.drop_of_length_le (by omega)
      rw [e]
      simp only [runB, hv]
      rfl
theorem range109 : RangeOK (evI 2) (E109.lend 0) (rg Tryd.f109 0) := by
  refine RangeOK.fueled fun x tr rr h1 h2 => ?_
  have h1 : p109.ls T109 x = some tr := h1
  unfold LP.ls at h1
  split at h1
  · rename_i a ha
    cases h1
    rw [LP.get_eq ha]
    clear ha
    obtain ⟨⟨l0, z0⟩, ⟨r, z1⟩, ⟨l, z2⟩, ⟨n, z3⟩, z4⟩ := a
    obtain ⟨g1, g2⟩ := pre_val h2
    rw [Bool.and_eq_true] at g1
    obtain ⟨g1, gk⟩ := g1
    have g1 : (n : Int) = 40 := of_decide_eq_true g1
    subst g1
    have gk : U.okl l = true := gk
    have hr := run160 l r gk (l.length + 1) 0 (by omega) (by omega)
    rw [List.drop_zero] at hr
    cases he : U.evens l with
    | true =>
      rw [he] at hr
      have g3 : rr = (.nrm, Y109 l0 r) := by
        have g2 : (Tr.ite (U.evens l) (.ret (.nrm, Y109 l0 r)) (.ret (.ret, Z109 l0)) : Tr (Ex × VS)).val = some rr := g2
        rw [he] at g2; cases g2; rfl
      subst g3
      obtain ⟨r', i1, i2, i3⟩ := iter_val (k0 := 1) (Ei := Ei109 (l.length + 1) l0 l r) (A := match Tryd.f160.body with | some (.seq x _) => x | _ => .skip) (L := lc Tryd.f160 0) (b := 0) (V := V160 l r) (B := B160 l r) (lv := { ls := [0, 1, 2, 4] }) rfl (by kernel_rfl)
        (hB160 (l.length + 1) l0 l r) (x0 := (0 : Int)) (σ0 := { t := { n := 31, m := argsT 0 [.one (.yld 3), .one (.ptr 1 0), .one (.ptr 2 0)] (Tm.full 10) }, h := (X109 l0 l r).h.set 3 (.lrec false none rl109) })
        (congrArg Tr.val (pre160 (l.length + 1) l0 l r)) (n := l.length + 1) rfl hr (.inl rfl)
      exact ⟨l.length + 1, _, range_val (k0 := 1 + 1) (g := 160) (caps := [1, 2]) (fn := Tryd.f160) (c := .seq (match Tryd.f160.body with | some (.seq x _) => x | _ => .skip) (.block 0 (.loop (lc Tryd.f160 0)))) (m := 3) (by kernel_rfl) (by kernel_rfl) (by kernel_rfl) (by kernel_rfl) (by kernel_rfl) i1 i2 i3 (pe := none) (rl' := rl109) rfl rfl, Prod.ext rfl (by kernel_rfl)⟩
    | false =>
      rw [he] at hr
      have g3 : rr = (.ret, Z109 l0) := by
        have g2 : (Tr.ite (U.evens l) (.ret (.nrm, Y109 l0 r)) (.ret (.ret, Z109 l0)) : Tr (Ex × VS)).val = some rr := g2
        rw [he] at g2; cases g2; rfl
      subst g3
      obtain ⟨r', i1, i2, i3⟩ := iter_val (k0 := 1) (Ei := Ei109 (l.length + 1) l0 l r) (A := match Tryd.f160.body with | some (.seq x _) => x | _ => .skip) (L := lc Tryd.f160 0) (b := 0) (V := V160 l r) (B := B160 l r) (lv := { ls := [0, 1, 2, 4] }) rfl (by kernel_rfl)
        (hB160 (l.length + 1) l0 l r) (x0 := (0 : Int)) (σ0 := { t := { n := 31, m := argsT 0 [.one (.yld 3), .one (.ptr 1 0), .one (.ptr 2 0)] (Tm.full 10) }, h := (X109 l0 l r).h.set 3 (.lrec false none rl109) })
        (congrArg Tr.val (pre160 (l.length + 1) l0 l r)) (n := l.length + 1) rfl hr (.inr rfl)
      exact ⟨l.length + 1, _, range_val (k0 := 1 + 1) (g := 160) (caps := [1, 2]) (fn := Tryd.f160) (c := .seq (match Tryd.f160.body with | some (.seq x _) => x | _ => .skip) (.block 0 (.loop (lc Tryd.f160 0)))) (m := 3) (by kernel_rfl) (by kernel_rfl) (by kernel_rfl) (by kernel_rfl) (by kernel_rfl) i1 i2 i3 (pe := some .ret) (rl' := rl109) rfl rfl, Prod.ext rfl (by kernel_rfl)⟩
  · cases h1
def d109 (a : List Line) : Tr (Bool) :=
  let v1 : Int := ((↑(List.length a) : Int))
  Tr.ite true (Tr.ite (true && U.okl a) (Tr.ite (U.evens a) (Tr.ret (decide (v1 ≤ (200 : Int)))) (Tr.ret false)) Tr.fail) Tr.fail
def e109 (r : Bool) : FRes := { rs := Slot.av (AV.one (Leaf.dat Kd.bool r)), upd := [], new := [] }
@[reducible] def a109 : List AK := [AK.d (Kd.sl link)]
@[reducible] def b109 : List BK := []
theorem t109 (a : List Line) : evFn (E109) Tryd.f109 [PM.data Kd.bool] (akAV a109 (a, ())) (bkBs b109 ()) = (d109 a).map e109 := by kernel_rfl
def s109 (C : akT a109 → Bool) (G : akT a109 → Bool) : FSpec := aspec a109 b109 e109 (fun x _ => C x) (fun x _ => G x)
theorem k109 {C : akT a109 → Bool} {G : akT a109 → Bool} (hd : ∀ (a : List Line), C (a, ()) = true → (d109 a).val = some (G (a, ()))) (IO : ItOK Tryd.prog (E109) := by exact itOK_none rfl) (L : ∀ c, Tryd.f109.body = some c → LsOK (evI 2) ((E109).lend 0) c := by exact fun c _ => LsOK_none rfl c) : SpecOK Tryd.prog E0 109 (s109 C G) :=
  aspec_ok (ak := a109) (bl := b109) (e := e109) (c := fun x _ => C x) (g := fun x _ => G x) (E0 := E0) (E := E109) tab AG109 rfl rfl hm Tryd.func109 (by kernel_rfl) [PM.data Kd.bool] (fun X Y H => by obtain ⟨a, _⟩ := X; exact val_of (t109 a) (hd a H)) IO L
theorem IO109 : ItOK Tryd.prog E109 := itOK_of (l := [(160, Tryd.f160)]) rfl (by
  intro p hp
  rw [List.mem_singleton] at hp
  subst hp
  exact ⟨Tryd.func160, by kernel_rfl⟩)
abbrev w109 : FSpec := s109 (fun x => U.okl x.1) fun x => U.evens x.1 && decide ((List.length (α := Line) x.1 : Int) ≤ 200)
theorem wk109 : SpecOK Tryd.prog E0 109 w109 := by
  refine k109 (fun l H => ?_) IO109 (L := ls_ok (lcs := []) (rgs := [rg Tryd.f109 0]) (by kernel_rfl) (by kernel_rfl) trivial range109)
  have H : U.okl l = true := H
  show _ = some (U.evens l && decide ((l.length : Int) ≤ 200))
  simp only [d109, Tr.val, H, Bool.and_self, cond_true]
  cases U.evens l <;> rfl
end Go.Proofs.YtmnbcnhpklejcaaDoor

end
section
set_option linter.unusedVariables false
set_option linter.unusedSimpArgs false
set_option maxRecDepth 20000
set_option maxHeartbeats 4000000
open Go Go.Ev
namespace Go.Proofs.YtmnbcnhpklejcaaDoor
open Go.RowKit
def live52 (key : Nat) : Lv :=
  bif Nat.beq key 6 then { ls := [0, 4, 5, 11, 12, 13], wd := [⟨4, none, .row 32 (.sl celk)⟩, ⟨5, none, .row 48 celk⟩] } else bif Nat.beq key 1006 then { ls := [4] } else
  { ls := [] }
abbrev G52 : List (Nat × FSpec) := [(109, w109), (110, w110)]
theorem AG52 : AllFn Tryd.prog E0 G52 := .cons wk109 (.cons wk110 .nil)
abbrev M52 (ls : Nat → VS → Option (Tr (Ex × VS))) : Env := (E0.withFns G52).loops live52 ls
@[reducible] def p52_0 : LP := { n := 39, sl := [.d (Kd.sl link), .c (Leaf.row ( 0)), .c (Leaf.row ( 1)), .d (Kd.sl link), .d (.int .i64), .d (.int .i64)], bl := [(0, .row 32 (Kd.sl celk)), (1, .row 48 (celk))] }
def B52_0 (x0 : List Line) (x3 : List Line) (x4 : Int) (x5 : Int) (h0 : List (List Cell)) (h1 : List Cell) : Tr (p52_0.T ⊕ (List (List Cell))) :=
  let v1 : Int := (IntKind.wrap IntKind.i64 ((↑(List.length x0) : Int) - (1 : Int)))
  Tr.ite (decide (x5 < x4))
    (Tr.ite (inB x5 (List.length x3))
      (Tr.ite (decide ((List.length h1 + List.length (rget link x3 x5).fst) * (48 : Nat) ≤ (140737488355328 : Nat)))
        (Tr.ite (!(rget link x3 x5).snd.fst)
          (Tr.ite (decide (List.length (h1 ++ (rget link x3 x5).fst) ≤ (1048576 : Nat)))
            (Tr.ite (decide ((List.length h0 + (1 : Nat)) * (24 : Nat) ≤ (140737488355328 : Nat)))
              (Tr.ret (Sum.inl ((x0, x3, x4, IntKind.wrap IntKind.i64 (x5 + (1 : Int)), ()), h0 ++ [U.trimR (h1 ++ (rget link x3 x5).fst)], [], ()))) Tr.fail)
            Tr.fail)
          (Tr.ite (decide (x5 = v1))
            (Tr.ite (decide (List.length (h1 ++ (rget link x3 x5).fst) ≤ (1048576 : Nat)))
              (Tr.ite (decide ((List.length h0 + (1 : Nat)) * (24 : Nat) ≤ (140737488355328 : Nat)))
                (Tr.ret (Sum.inl ((x0, x3, x4, IntKind.wrap IntKind.i64 (x5 + (1 : Int)), ()), h0 ++ [U.trimR (h1 ++ (rget link x3 x5).fst)], [], ()))) Tr.fail)
              Tr.fail)
            (Tr.ret (Sum.inl ((x0, x3, x4, IntKind.wrap IntKind.i64 (x5 + (1 : Int)), ()), h0, h1 ++ (rget link x3 x5).fst, ())))))
        Tr.fail)
      Tr.fail)
    (Tr.ret (Sum.inr h0))
def X52_0 (r : (List (List Cell))) : Ex × VS := Prod.mk (Ex.exit ( 0)) { n := 39, v := [Slot.av (AV.one (Leaf.row ( 0)))], h := [( 0, Blk.row ( 32) (Kd.sl celk) r)] }
def b52_0 : p52_0.T → Tr (p52_0.T ⊕ (List (List Cell))) := fun ⟨⟨x0, ⟨x3, ⟨x4, ⟨x5, _⟩⟩⟩⟩, ⟨h0, ⟨h1, _⟩⟩⟩ => B52_0 x0 x3 x4 x5 h0 h1
theorem h52_0 (ls : Nat → VS → Option (Tr (Ex × VS))) (x : p52_0.T) : (evC (evI 2) (lc Tryd.f52 0) (Env.lend (M52 ls) 0) (unV (live52 6) (p52_0.V x))).map (decL 0 (live52 6) (live52 1006)) = (b52_0 x).map (encR p52_0.V X52_0) := by
  obtain ⟨⟨x0, ⟨x3, ⟨x4, ⟨x5, _⟩⟩⟩⟩, ⟨h0, ⟨h1, _⟩⟩⟩ := x; kernel_rfl
theorem c52_0 (x : p52_0.T) : canV 0 (live52 6) (unV (live52 6) (p52_0.V x)) = p52_0.V x := by
  obtain ⟨⟨x0, ⟨x3, ⟨x4, ⟨x5, _⟩⟩⟩⟩, ⟨h0, ⟨h1, _⟩⟩⟩ := x; kernel_rfl
theorem l52_0 {T : p52_0.T → Tr (List (List Cell))} {ls : Nat → VS → Option (Tr (Ex × VS))} (hls : ∀ x, (Env.lend (M52 ls) 0).ls 6 x = p52_0.ls (fun a => (T a).map X52_0) x) (hS : ∀ x r, (T x).val = some r → Rounds b52_0 x r) : LoopOK (evI 2) (Env.lend (M52 ls) 0) (lc Tryd.f52 0) :=
  loopA 6 (live52 6) (live52 1006) p52_0 b52_0 X52_0 T (by kernel_rfl) rfl rfl hls (h52_0 ls) c52_0 hS
end Go.Proofs.YtmnbcnhpklejcaaDoor

end
section
set_option linter.unusedVariables false
set_option linter.unusedSimpArgs false
set_option maxRecDepth 20000
set_option maxHeartbeats 4000000
open Go Go.Ev
namespace U
open Go.Proofs.YtmnbcnhpklejcaaDoor
def joinL : List Ln → List Cl → List (List Cl)
  | [], _ => []
  | y :: l, h => bif !y.2.1 || decide (l.length = 0) then trimR (h ++ y.1) :: joinL l [] else joinL l (h ++ y.1)
def cells : List Ln → Nat
  | [] => 0
  | y :: l => y.1.length + cells l
end U
namespace Go.Proofs.YtmnbcnhpklejcaaDoor
open Go.RowKit
theorem R52 (x0 l : List Line) (hl : l.length ≤ 1048576) (hx : x0.length = l.length) : ∀ (k i : Nat) (h0 : List (List Cell)) (h1 : List Cell), i + k = l.length → h0.length + k ≤ 1048576 → h1.length + U.cells (l.drop i) ≤ 1048576 →
    Rounds b52_0 ((x0, l, (l.length : Int), (i : Int), ()), h0, h1, ()) (h0 ++ U.joinL (l.drop i) h1)
  | 0, i, h0, h1, e, _, _ => by
    have e : i = l.length := by omega
    subst e
    rw [List.drop_length]
    refine .exit ?_
    have c : decide ((l.length : Int) < (l.length : Int)) = false := decide_eq_false (by omega)
    simp only [b52_0, B52_0, Tr.val, c, cond_false, U.joinL, List.append_nil]
  | k + 1, i, h0, h1, e, hb, hc => by
    have hi : i < l.length := by omega
    have er : rget link l (i : Int) = l[i] := by rw [rgetL]; exact getD_el hi
    have hd : l.drop i = l[i] :: l.drop (i + 1) := List.drop_eq_getElem_cons hi
    have w : IntKind.wrap IntKind.i64 ((i : Int) + 1) = ((i + 1 : Nat) : Int) := wrap64_nat (show i ≤ 1048576 by omega)
    have w1 : IntKind.wrap IntKind.i64 ((x0.length : Int) - 1) = (l.length : Int) - 1 := by rw [Go.Ev.w64 (by omega) (by omega)]; omega
    have c1 : decide ((i : Int) < (l.length : Int)) = true := decide_eq_true (by omega)
    have c2 : decide ((i : Int) = (l.length : Int) - 1) = decide ((l.drop (i + 1)).length = 0) := by
      rw [List.length_drop]
      exact decide_eq_decide.2 (by omega)
    rw [hd] at hc ⊢
    generalize l[i] = y at *
    have hc : h1.length + (y.1.length + U.cells (l.drop (i + 1))) ≤ 1048576 := hc
    have c3 : (h1.length + y.1.length) * 48 ≤ 140737488355328 := by omega
    have c4 : (h1 ++ y.1).length ≤ 1048576 := by rw [List.length_append]; omega
    have c5 : (h0.length + 1) * 24 ≤ 140737488355328 := by omega
    have r1 := R52 x0 l hl hx k (i + 1) (h0 ++ [U.trimR (h1 ++ y.1)]) [] (by omega) (by rw [List.length_append, List.length_singleton]; omega) (by show 0 + _ ≤ _; omega)
    have r2 := R52 x0 l hl hx k (i + 1) h0 (h1 ++ y.1) (by omega) (by omega) (by rw [List.length_append]; omega)
    rw [List.append_assoc, List.singleton_append] at r1
    unfold U.joinL
    cases hy : y.2.1 with
    | false =>
      refine .step ?_ r1
      simp only [b52_0, B52_0, Tr.val, inB_nat hi, er, w, c1, c3, c4, c5, hy, decide_true, cond_true, Bool.not_false]
    | true =>
      cases hz : decide ((l.drop (i + 1)).length = 0) with
      | true =>
        refine .step ?_ r1
        simp only [b52_0, B52_0, Tr.val, inB_nat hi, er, w, w1, c1, c2, hz, c3, c4, c5, hy, decide_true, cond_true, cond_false, Bool.not_true]
      | false =>
        refine .step ?_ r2
        simp only [b52_0, B52_0, Tr.val, inB_nat hi, er, w, w1, c1, c2, hz, c3, hy, decide_true, cond_true, cond_false, Bool.not_true]
end Go.Proofs.YtmnbcnhpklejcaaDoor

end
section
set_option linter.unusedVariables false
set_option linter.unusedSimpArgs false
set_option maxRecDepth 20000
set_option maxHeartbeats 4000000
open Go Go.Ev
namespace Go.Proofs.YtmnbcnhpklejcaaDoor
open Go.RowKit
def T52 (x : p52_0.T) : Tr (List (List Cell)) :=
  match x with
  | ⟨⟨x0, l, n, i, _⟩, h0, h1, _⟩ =>
    .ite (decide ((n : Int) = (List.length (α := Line) l : Int) ∧ (i : Int) = 0 ∧ List.length (α := Line) x0 = List.length (α := Line) l ∧ List.length (α := Line) l ≤ 1048576 ∧ List.length (α := List Cell) h0 + List.length (α := Line) l ≤ 1048576 ∧ List.length (α := Cell) h1 + U.cells l ≤ 1048576))
      (.ret (List.append (α := List Cell) h0 (U.joinL l h1))) .fail
abbrev E52 : Env := M52 fun key x => bif Nat.beq key 6 then p52_0.ls (fun a => (T52 a).map X52_0) x else none
theorem L52 : LoopOK (evI 2) (E52.lend 0) (lc Tryd.f52 0) := by
  refine l52_0 (T := T52) (fun x => rfl) ?_
  rintro ⟨⟨x0, l, n, i, z⟩, h0, h1, z1⟩ r hh
  obtain ⟨g1, g2⟩ := pre_val hh
  have g1 : (n : Int) = (l.length : Int) ∧ (i : Int) = 0 ∧ x0.length = l.length ∧ l.length ≤ 1048576 ∧ h0.length + l.length ≤ 1048576 ∧ h1.length + U.cells l ≤ 1048576 := of_decide_eq_true g1
  obtain ⟨rfl, rfl, e1, e2, e3, e4⟩ := g1
  cases g2
  exact R52 x0 l e2 e1 l.length 0 h0 h1 (by omega) e3 e4
def d52 (a : List Line) : Tr (List (List Cell) × Int) :=
  let v1 : Int := ((↑(List.length a) : Int))
  let v2 : Int := ((↑(List.length a) : Int))
  Tr.ite (U.okl a)
    (Tr.ite (!(U.evens a && decide (v1 ≤ (200 : Int)))) (Tr.ret ([], (1 : Int)))
      (Tr.ite
        (decide
          (v2 = v1 ∧ (0 : Int) = (0 : Int) ∧ List.length a = List.length a ∧ List.length a ≤ (1048576 : Nat) ∧ (0 : Nat) + List.length a ≤ (1048576 : Nat) ∧ (0 : Nat) + U.cells a ≤ (1048576 : Nat)))
        (Tr.ret (List.append [] (U.joinL a []), (0 : Int))) Tr.fail))
    Tr.fail
def e52 (r : List (List Cell) × Int) : FRes := { rs := Slot.tup [AV.one (Leaf.dat (Kd.sl (Kd.sl celk)) r.fst), AV.one (Leaf.dat (.int .i64) r.snd)], upd := [], new := [] }
@[reducible] def a52 : List AK := [AK.d (Kd.sl link)]
@[reducible] def b52 : List BK := []
theorem t52 (a : List Line) : evFn (E52) Tryd.f52 [PM.data (Kd.sl (Kd.sl celk)), PM.data (.int .i64)] (akAV a52 (a, ())) (bkBs b52 ()) = (d52 a).map e52 := by kernel_rfl
def s52 (C : akT a52 → Bool) (G : akT a52 → List (List Cell) × Int) : FSpec := aspec a52 b52 e52 (fun x _ => C x) (fun x _ => G x)
theorem k52 {C : akT a52 → Bool} {G : akT a52 → List (List Cell) × Int} (hd : ∀ (a : List Line), C (a, ()) = true → (d52 a).val = some (G (a, ()))) (IO : ItOK Tryd.prog (E52) := by exact itOK_none rfl) (L : ∀ c, Tryd.f52.body = some c → LsOK (evI 2) ((E52).lend 0) c := by exact fun c _ => LsOK_none rfl c) : SpecOK Tryd.prog E0 52 (s52 C G) :=
  aspec_ok (ak := a52) (bl := b52) (e := e52) (c := fun x _ => C x) (g := fun x _ => G x) (E0 := E0) (E := E52) tab AG52 rfl rfl hm Tryd.func52 (by kernel_rfl) [PM.data (Kd.sl (Kd.sl celk)), PM.data (.int .i64)] (fun X Y H => by obtain ⟨a, _⟩ := X; exact val_of (t52 a) (hd a H)) IO L
def U.may (l : List U.Ln) : Bool := U.evens l && decide ((l.length : Int) ≤ 200)
abbrev w52 : FSpec := s52 (fun x => U.okl x.1 && decide (U.cells x.1 ≤ 1048576)) fun x => bif U.may x.1 then (U.joinL x.1 [], (0 : Int)) else ([], (1 : Int))
theorem wk52 : SpecOK Tryd.prog E0 52 w52 := by
  refine k52 (fun l H => ?_) (L := ls_ok (lcs := [lc Tryd.f52 0]) (rgs := []) (by kernel_rfl) (by kernel_rfl) L52 trivial)
  have H : (U.okl l && decide (U.cells l ≤ 1048576)) = true := H
  rw [Bool.and_eq_true] at H
  obtain ⟨gk, h2⟩ := H
  have h2 : U.cells l ≤ 1048576 := of_decide_eq_true h2
  have h3 : l.length ≤ 1048576 := U.okl_len gk
  show _ = some (bif U.may l then (U.joinL l [], (0 : Int)) else ([], (1 : Int)))
  simp only [d52, Tr.val, gk, h2, h3, Nat.zero_add, and_self, decide_true, cond_true]
  unfold U.may
  cases (U.evens l && decide ((l.length : Int) ≤ 200)) <;> rfl
end Go.Proofs.YtmnbcnhpklejcaaDoor

end
section
set_option linter.unusedVariables false
set_option linter.unusedSimpArgs false
set_option maxRecDepth 20000
set_option maxHeartbeats 4000000
open Go Go.Ev
namespace Go.Proofs.YtmnbcnhpklejcaaDoor
open Go.RowKit
end Go.Proofs.YtmnbcnhpklejcaaDoor
namespace U
open Go.Proofs.YtmnbcnhpklejcaaDoor
def rowLen (l : List Ln) (r : Nat) : Nat := (l.getD r dL).1.length
end U
namespace Go.Proofs.YtmnbcnhpklejcaaDoor
end Go.Proofs.YtmnbcnhpklejcaaDoor
namespace U
open Go.Proofs.YtmnbcnhpklejcaaDoor
end U
namespace Go.Proofs.YtmnbcnhpklejcaaDoor
end Go.Proofs.YtmnbcnhpklejcaaDoor

end
section
set_option linter.unusedVariables false
set_option linter.unusedSimpArgs false
set_option maxRecDepth 20000
set_option maxHeartbeats 4000000
open Go Go.Ev
namespace U
open Go.Proofs.YtmnbcnhpklejcaaDoor
def places (l : List Ln) : List (Nat × Nat) := (List.range' 0 l.length).flatMap fun i => (List.range' 0 (rowLen l i)).map fun j => (i, j)
end U
namespace Go.Proofs.YtmnbcnhpklejcaaDoor
open Go.RowKit
def e7 (r : Bool) : FRes := { rs := Slot.av (AV.one (Leaf.dat Kd.bool r)), upd := [], new := [] }
end Go.Proofs.YtmnbcnhpklejcaaDoor
namespace U
open Go.Proofs.YtmnbcnhpklejcaaDoor
theorem mayR_odd (y : Ln) : mayR y = !odd y.1 := by
  unfold mayR odd
  rw [Bool.not_not]
  by_cases h1 : 1 ≤ y.1.length
  · by_cases h2 : y.1.length ≤ 80
    · simp [h1, h2, show ¬ ((y.1.length : Int) < 1) by omega, show ¬ ((80 : Int) < (y.1.length : Int)) by omega]
    · simp [h1, h2, show ¬ ((y.1.length : Int) < 1) by omega, show ((80 : Int) < (y.1.length : Int)) by omega]
  · simp [h1, show ((y.1.length : Int) < 1) by omega]
theorem may_evens (l : List Ln) : mayL l = evens l := by
  unfold mayL evens
  rw [allN_list (q := mayR)]
  induction l with
  | nil => rfl
  | cons y l ih => rw [List.all_cons, List.any_cons, Bool.not_or, ih, mayR_odd]
theorem may_mayL (l : List Ln) : U.may l = (mayL l && decide ((l.length : Int) ≤ 200)) := by
  rw [may_evens]; rfl
theorem mayL_at {l : List Ln} (h : mayL l = true) {i : Nat} (hi : i < l.length) : mayR (l.getD i dL) = true := by
  unfold mayL at h
  exact allN_iff.1 h i (by omega) (by omega)
theorem cells_few (l : List Ln) : ∀ n, cells (few l n) ≤ 82 * n := by
  intro n
  unfold few
  induction n generalizing l with
  | zero => simp [cells]
  | succ n ih =>
    cases l with
    | nil => simp [cells]
    | cons y l =>
      have h2 := ih l
      rw [List.take_succ_cons, List.map_cons]
      unfold cells
      have h3 : (cutL y.1).length ≤ 82 := by unfold cutL; rw [List.length_map, List.length_take]; omega
      have h4 : (cutL y.1, y.2.1, ()).1.length ≤ 82 := h3
      omega
end U
namespace Go.Proofs.YtmnbcnhpklejcaaDoor
end Go.Proofs.YtmnbcnhpklejcaaDoor

end
section
set_option linter.unusedVariables false
set_option linter.unusedSimpArgs false
set_option maxRecDepth 20000
set_option maxHeartbeats 4000000
open Go Go.Ev
namespace Go.Proofs.YtmnbcnhpklejcaaDoor
open Go.RowKit
def e8 (r : Bool) : FRes := { rs := Slot.av (AV.one (Leaf.dat Kd.bool r)), upd := [], new := [] }
end Go.Proofs.YtmnbcnhpklejcaaDoor
namespace U
open Go.Proofs.YtmnbcnhpklejcaaDoor
end U
namespace Go.Proofs.YtmnbcnhpklejcaaDoor
end Go.Proofs.YtmnbcnhpklejcaaDoor

end
section
set_option linter.unusedVariables false
set_option linter.unusedSimpArgs false
set_option maxRecDepth 20000
set_option maxHeartbeats 4000000
open Go Go.Ev
namespace Go.Proofs.YtmnbcnhpklejcaaDoor
open Go.RowKit
namespace Rz
def T162 (x : p162_0.T) : Tr (List Cell) :=
  .ite (decide (0 ≤ (x.1.1 : Int) ∧ (List.length (α := Cell) x.2.1 = 0 ∨ ((x.1.1 : Int) = 1 ∧ List.length (α := Cell) x.2.1 ≤ 1048576)))) (.ret (List.replicate (List.length (α := Cell) x.2.1) (List.getD (α := Cell) x.2.1 0 U.dC))) .fail
abbrev E162 : Env := M162 fun key x => bif Nat.beq key 8 then p162_0.ls (fun a => (T162 a).map X162_0) x else none
theorem L162 : LoopOK (evI 2) (E162.lend 0) (lc Tryd.f162 0) := by
  refine l162_0 (T := T162) (fun x => rfl) ?_
  rintro ⟨⟨n, z⟩, h, z2⟩ r hh
  obtain ⟨g1, g2⟩ := pre_val hh
  have g1 : 0 ≤ (n : Int) ∧ (h.length = 0 ∨ ((n : Int) = 1 ∧ h.length ≤ 1048576)) := of_decide_eq_true g1
  obtain ⟨g0, g1⟩ := g1
  cases g2
  by_cases h0 : h.length = 0
  · have : h = [] := List.eq_nil_of_length_eq_zero h0
    subst this
    have g0 : ¬ (n : Int) < 0 := Int.not_lt.2 g0
    refine .exit ?_
    simp only [b162_0, B162_0, Tr.val, List.length_nil, show ((0 : Nat) : Int) = 0 from rfl, g0, decide_false, cond_false]
    rfl
  · obtain ⟨e1, e3⟩ := g1.resolve_left h0
    subst e1
    refine rep162 (h.getD 0 U.dC) h.length e3 h.length 1 h (by omega) (by omega) (by omega) rfl ?_
    cases h with
    | nil => simp at h0
    | cons x h => rfl
def d162 (a : List Cell) (b : Int) : Tr (List Cell) :=
  let v1 : Int := (IntKind.wrap IntKind.u64 (↑(List.length a) : Int))
  let v2 : List Cell := (List.replicate (Int.toNat (IntKind.wrap IntKind.i64 (IntKind.wrap IntKind.u64 b))) (ByteArray.empty, (0 : Int), ((0 : Int), (0 : Int), (0 : Int), ()), ()))
  let v3 : Int := ((↑(Nat.min (List.length a) (List.length v2)) : Int))
  let v4 : List Cell := (putAt v2 (0 : Nat) (List.take (List.length v2) a))
  Tr.ite (decide (b < (0 : Int))) Tr.fail
    (Tr.ite (decide (v1 = (1 : Int) ∧ (0 : Int) ≤ IntKind.wrap IntKind.u64 b ∧ IntKind.wrap IntKind.u64 b < (128 : Int)))
      (Tr.ite false Tr.fail
        (Tr.ite (decide ((9223372036854775807 : Int) < IntKind.wrap IntKind.u64 b)) Tr.fail
          (Tr.ite
            (decide
              ((0 : Int) ≤ IntKind.wrap IntKind.i64 (IntKind.wrap IntKind.u64 b) ∧
                IntKind.wrap IntKind.i64 (IntKind.wrap IntKind.u64 b) ≤ IntKind.wrap IntKind.i64 (IntKind.wrap IntKind.u64 b) ∧
                  Int.toNat (IntKind.wrap IntKind.i64 (IntKind.wrap IntKind.u64 b)) * (48 : Nat) ≤ (140737488355328 : Nat)))
            (Tr.ite (decide ((0 : Int) ≤ v3 ∧ (List.length v4 = (0 : Nat) ∨ v3 = (1 : Int) ∧ List.length v4 ≤ (1048576 : Nat)))) (Tr.ret (List.replicate (List.length v4) (List.getD v4 (0 : Nat) U.dC)))
              Tr.fail)
            Tr.fail)))
      Tr.fail)
def e162 (r : List Cell) : FRes := { rs := Slot.av (AV.one (Leaf.dat (Kd.sl celk) r)), upd := [], new := [] }
@[reducible] def a162 : List AK := [AK.d (Kd.sl celk), AK.d (.int .i64)]
@[reducible] def b162 : List BK := []
theorem t162 (a : List Cell) (b : Int) : evFn (E162) Tryd.f162 [PM.data (Kd.sl celk)] (akAV a162 (a, b, ())) (bkBs b162 ()) = (d162 a b).map e162 := by kernel_rfl
def s162 (C : akT a162 → Bool) (G : akT a162 → List Cell) : FSpec := aspec a162 b162 e162 (fun x _ => C x) (fun x _ => G x)
theorem k162 {C : akT a162 → Bool} {G : akT a162 → List Cell} (hd : ∀ (a : List Cell) (b : Int), C (a, b, ()) = true → (d162 a b).val = some (G (a, b, ()))) (IO : ItOK Tryd.prog (E162) := by exact itOK_none rfl) (L : ∀ c, Tryd.f162.body = some c → LsOK (evI 2) ((E162).lend 0) c := by exact fun c _ => LsOK_none rfl c) : SpecOK Tryd.prog E0 162 (s162 C G) :=
  aspec_ok (ak := a162) (bl := b162) (e := e162) (c := fun x _ => C x) (g := fun x _ => G x) (E0 := E0) (E := E162) tab (.cons wk172 .nil) rfl rfl hm Tryd.func162 (by kernel_rfl) [PM.data (Kd.sl celk)] (fun X Y H => by obtain ⟨a, ⟨b, _⟩⟩ := X; exact val_of (t162 a b) (hd a b H)) IO L
abbrev w162 : FSpec := s162 (fun x => decide (List.length (α := Cell) x.1 = 1 ∧ 0 ≤ (x.2.1 : Int) ∧ (x.2.1 : Int) < 128)) fun x => List.replicate x.2.1.toNat (List.getD (α := Cell) x.1 0 U.dC)
theorem wk162 : SpecOK Tryd.prog E0 162 w162 := by
  refine k162 (fun l n H => ?_) (L := ls_ok (lcs := [lc Tryd.f162 0]) (rgs := []) (by kernel_rfl) (by kernel_rfl) L162 trivial)
  have H : (l.length = 1 ∧ (0 : Int) ≤ n ∧ (n : Int) < 128) := of_decide_eq_true H
  obtain ⟨h1, h2, h3⟩ := H
  obtain ⟨m, rfl⟩ := Int.eq_ofNat_of_zero_le (a := n) h2
  have h4 : m < 128 := by omega
  have u1 : IntKind.u64.wrap (m : Int) = (m : Int) := by simp [IntKind.wrap, IntKind.signed, IntKind.bits]; omega
  have u2 : IntKind.i64.wrap (m : Int) = (m : Int) := Go.Ev.w64 (by omega) (by omega)
  have u3 : IntKind.u64.wrap 1 = 1 := by decide
  match l, h1 with
  | [x], _ =>
    show _ = some (List.replicate m x)
    cases m with
    | zero => rfl
    | succ m =>
    have e1 : List.take (m + 1) [x] = [x] := List.take_of_length_le (by simp)
    have e2 : Nat.min 1 (m + 1) = 1 := Nat.min_eq_left (by omega)
    have e3 : (putAt (List.replicate (m + 1) ((ByteArray.empty, (0 : Int), ((0 : Int), (0 : Int), (0 : Int), ()), ()) : Cell)) 0 [x]).length = m + 1 := by
      simp only [putAt, List.length_append, List.length_take, List.length_drop, List.length_replicate, List.length_cons, List.length_nil]
      omega
    have e4 : ∀ (q : List Cell), (putAt q 0 [x]).getD 0 U.dC = x := fun q => rfl
    have a1 : (0 : Int) ≤ ((m + 1 : Nat) : Int) := by omega
    have a2 : ((m + 1 : Nat) : Int) < 128 := by omega
    have a4 : (m + 1) * 48 ≤ 140737488355328 := by omega
    have a5 : ¬ (m + 1 = 0) := by omega
    have a6 : m + 1 ≤ 1048576 := by omega
    simp only [d162, Tr.val, u1, u2, Int.toNat_natCast, List.length_replicate, List.length_cons, List.length_nil, Nat.zero_add, e1, e2, e4, show ((1 : Nat) : Int) = 1 from rfl, u3, show ¬ (((m + 1 : Nat) : Int) < 0) by omega, show ¬ ((9223372036854775807 : Int) < ((m + 1 : Nat) : Int)) by omega, decide_true, decide_false, cond_true, cond_false]
    simp only [e3, a1, a2, a4, a5, a6, Int.le_refl, and_self, true_and, or_true, decide_true, cond_true]
    rfl
end Rz
end Go.Proofs.YtmnbcnhpklejcaaDoor
namespace U
def noneC : Cl := (ByteArray.empty, 1, (0, 0, 0, ()), ())
def fillL (l : List Cl) (n : Nat) : List Cl := l ++ List.replicate (n - l.length) noneC
end U
namespace Go.Proofs.YtmnbcnhpklejcaaDoor
def d163 (a : List Cell) : Tr (List Cell) :=
  let v1 : Int := ((↑(List.length a) : Int))
  Tr.ite (decide ((0 : Int) ≤ v1 ∧ v1 ≤ v1) && decide (v1 = v1)) (Tr.ret (sub a (0 : Nat) (Int.toNat v1))) Tr.fail
def e163 (r : List Cell) : FRes := { rs := Slot.av (AV.one (Leaf.clip celk r)), upd := [], new := [] }
@[reducible] def a163 : List AK := [AK.d (Kd.sl celk)]
@[reducible] def b163 : List BK := []
theorem t163 (a : List Cell) : evFn (E0) Tryd.f163 [PM.raw] (akAV a163 (a, ())) (bkBs b163 ()) = (d163 a).map e163 := by kernel_rfl
def s163' (G : akT a163 → List Cell) : FSpec := aspec0 a163 b163 e163 (fun x _ => G x)
theorem k163' {G : akT a163 → List Cell} (hd : ∀ (a : List Cell), (d163 a).val = some (G (a, ()))) (IO : ItOK Tryd.prog (E0) := by exact itOK_none rfl) (L : ∀ c, Tryd.f163.body = some c → LsOK (evI 2) ((E0).lend 0) c := by exact fun c _ => LsOK_none rfl c) : SpecOK Tryd.prog E0 163 (s163' G) :=
  aspec0_ok (ak := a163) (bl := b163) (e := e163) (g := fun x _ => G x) (E0 := E0) (E := E0) tab .nil rfl rfl hm Tryd.func163 (by kernel_rfl) [PM.raw] (fun X Y => by obtain ⟨a, _⟩ := X; exact val_of (t163 a) (hd a)) IO L
abbrev w163 : FSpec := s163' fun x => x.1
theorem wk163 : SpecOK Tryd.prog E0 163 w163 := k163' fun l => by
  have e : sub l 0 (Int.toNat (l.length : Int)) = l := by unfold sub; rw [Int.toNat_natCast, List.take_length, List.drop_zero]
  have c : decide ((0 : Int) ≤ (l.length : Int) ∧ (l.length : Int) ≤ (l.length : Int)) = true := decide_eq_true (by omega)
  simp only [d163, Tr.val, c, e, decide_true, Bool.and_self, cond_true]
def d151 (a : List Cell) (b : Int) (c : Bool) : Tr (List Cell × Bool) :=
  let v1 : Int := (IntKind.wrap IntKind.i64 (b - (↑(List.length a) : Int)))
  let v2 : List Cell := (List.replicate (Int.toNat v1) (List.getD [(ByteArray.empty, (1 : Int), ((0 : Int), (0 : Int), (0 : Int), ()), ())] (0 : Nat) U.dC))
  Tr.ite (decide ((1 : Nat) = (1 : Nat) ∧ (0 : Int) ≤ v1 ∧ v1 < (128 : Int))) (Tr.ite (decide ((List.length a + List.length v2) * (48 : Nat) ≤ (140737488355328 : Nat))) (Tr.ret (a ++ v2, c)) Tr.fail)
    Tr.fail
def e151 (r : List Cell × Bool) : FRes := { rs := Slot.av (AV.agg [Leaf.dat (Kd.sl celk) r.fst, Leaf.dat Kd.bool r.snd]), upd := [], new := [] }
@[reducible] def a151 : List AK := [AK.d (Kd.sl celk), AK.d (.int .i64), AK.d Kd.bool]
@[reducible] def b151 : List BK := []
theorem t151 (a : List Cell) (b : Int) (c : Bool) : evFn (Env.withFns E0 [((163 : Nat), w163), ((147 : Nat), w147), ((162 : Nat), Rz.w162)]) Tryd.f151 [PM.data link] (akAV a151 (a, b, c, ())) (bkBs b151 ()) = (d151 a b c).map e151 := by kernel_rfl
def s151 (C : akT a151 → Bool) (G : akT a151 → List Cell × Bool) : FSpec := aspec a151 b151 e151 (fun x _ => C x) (fun x _ => G x)
theorem k151 {C : akT a151 → Bool} {G : akT a151 → List Cell × Bool} (hd : ∀ (a : List Cell) (b : Int) (c : Bool), C (a, b, c, ()) = true → (d151 a b c).val = some (G (a, b, c, ()))) (IO : ItOK Tryd.prog (Env.withFns E0 [((163 : Nat), w163), ((147 : Nat), w147), ((162 : Nat), Rz.w162)]) := by exact itOK_none rfl) (L : ∀ c, Tryd.f151.body = some c → LsOK (evI 2) ((Env.withFns E0 [((163 : Nat), w163), ((147 : Nat), w147), ((162 : Nat), Rz.w162)]).lend 0) c := by exact fun c _ => LsOK_none rfl c) : SpecOK Tryd.prog E0 151 (s151 C G) :=
  aspec_ok (ak := a151) (bl := b151) (e := e151) (c := fun x _ => C x) (g := fun x _ => G x) (E0 := E0) (E := Env.withFns E0 [((163 : Nat), w163), ((147 : Nat), w147), ((162 : Nat), Rz.w162)]) tab (.cons wk163 (.cons wk147 (.cons Rz.wk162 .nil))) rfl rfl hm Tryd.func151 (by kernel_rfl) [PM.data link] (fun X Y H => by obtain ⟨a, ⟨b, ⟨c, _⟩⟩⟩ := X; exact val_of (t151 a b c) (hd a b c H)) IO L
abbrev w151 : FSpec := s151 (fun x => decide ((List.length (α := Cell) x.1 : Int) ≤ (x.2.1 : Int) ∧ (x.2.1 : Int) ≤ 80)) fun x => (U.fillL x.1 x.2.1.toNat, x.2.2.1)
theorem wk151 : SpecOK Tryd.prog E0 151 w151 := k151 fun l n b H => by
  have H : (l.length : Int) ≤ n ∧ n ≤ 80 := of_decide_eq_true H
  obtain ⟨h1, h2⟩ := H
  obtain ⟨m, rfl⟩ := Int.eq_ofNat_of_zero_le (a := n) (by omega)
  have e : IntKind.i64.wrap ((m : Int) - (l.length : Int)) = ((m - l.length : Nat) : Int) := by rw [Go.Ev.w64 (by omega) (by omega)]; omega
  have c1 : (0 : Int) ≤ ((m - l.length : Nat) : Int) := by omega
  have c3 : ((m - l.length : Nat) : Int) < 128 := by omega
  have c2 : (l.length + (m - l.length)) * 48 ≤ 140737488355328 := by omega
  show _ = some (U.fillL l m, b)
  simp only [d151, Tr.val, e, c1, c3, Int.toNat_natCast, List.length_replicate, c2, and_self, decide_true, cond_true]
  rfl
def live148 (key : Nat) : Lv :=
  bif Nat.beq key 0 then { ls := [0, 1], wd := [⟨1001, some 0, .row 34 link⟩, ⟨1002, some 0, .row 48 celk⟩] } else bif Nat.beq key 1000 then { ls := [] } else
  { ls := [] }
def live122 (key : Nat) : Lv :=
  bif Nat.beq key 505 then { ls := [3, 5, 6, 9] } else bif Nat.beq key 1505 then { ls := [3, 5, 6] } else
  { ls := [] }
abbrev G122 : List (Nat × FSpec) := [(111, w111), (151, w151)]
theorem AG122 : AllFn Tryd.prog E0 G122 := .cons wk111 (.cons wk151 .nil)
abbrev lv122 (k : Nat) : Lv := bif Nat.ble 100000 k then live148 (Nat.sub k 100000) else live122 k
noncomputable abbrev M122 (ls : Nat → VS → Option (Tr (Ex × VS))) : Env := ((E0.withFns G122).withIts [(148, Tryd.f148)]).loops lv122 ls
@[reducible] def q122_0 : LP := { n := 37, sl := [.c (Leaf.ptr ( 0) ( 0)), .c (Leaf.ptr ( 1) ( 0)), .c (Leaf.ptr ( 2) ( 0)), .c (Leaf.fn ( 148) [3])], bl := [(0, .box [.d (.int .i64)]), (1, .box [.c (Leaf.nils)]), (2, .box [.c (Leaf.nils)]), (3, .box [.d (Kd.sl celk)])] }
noncomputable def r122_0 : RL := { ps := (rg Tryd.f122 0).ps.toList, asg := (rg Tryd.f122 0).asg, body := (rg Tryd.f122 0).body }
end Go.Proofs.YtmnbcnhpklejcaaDoor
namespace U
def wd (c : Cl) : Nat := (max c.2.1 1).toNat
def pcs : Nat → List Cl → List (List Cl)
  | 0, _ => []
  | _ + 1, [] => []
  | k + 1, c :: l => (c :: l).take (wd c) :: pcs k ((c :: l).drop (wd c))
def okP : Nat → List Cl → Bool
  | 0, l => decide (l.length = 0)
  | _ + 1, [] => true
  | k + 1, c :: l => decide (wd c ≤ (c :: l).length) && okP k ((c :: l).drop (wd c))
def stepP (cols : Nat) (s : List Ln × List Cl) (p : List Cl) : List Ln × List Cl :=
  bif decide (cols < p.length) then s else bif decide (cols < s.2.length + p.length) then (s.1 ++ [(fillL s.2 cols, true, ())], p) else (s.1, s.2 ++ p)
end U
namespace Go.Proofs.YtmnbcnhpklejcaaDoor
def Y122 (n : Int) (out : List Line) (now : List Cell) : VS := ⟨37, [one (.ptr 0 0), one (.ptr 1 0), one (.ptr 2 0)], [(0, .box [.dat (.int .i64) n]), (1, .box [.row 3]), (2, .box [.row 4]), (3, .row 34 link out), (4, .row 48 celk now)]⟩
def T122 (x : q122_0.T) : Tr (Ex × VS) :=
  match x with
  | ⟨_, ⟨n, _⟩, _, _, ⟨l, _⟩, _⟩ => .ite (decide (1 ≤ (n : Int) ∧ (n : Int) ≤ 80 ∧ List.length (α := Cell) l ≤ 1048576) && U.okP (List.length (α := Cell) l) l)
      (.ret (.nrm, Y122 n ((U.pcs (List.length (α := Cell) l) l).foldl (U.stepP (Int.toNat n)) ([], [])).1 ((U.pcs (List.length (α := Cell) l) l).foldl (U.stepP (Int.toNat n)) ([], [])).2)) .fail
noncomputable abbrev E122 : Env := M122 fun key x => bif Nat.beq key 505 then q122_0.ls T122 x else none
noncomputable abbrev I122 (k : Nat) (L : Nat → VS → Option (Tr (Ex × VS))) (x : q122_0.T) : Env := ((E122.lend 0).told k L).inner 5 (yldR (evI 2 ((E122.lend 0).told k L).round) (unV (lv122 505) (q122_0.V x)).t 4)
@[reducible] def p122r0_0 : LP := { n := 21, sl := [.c (Leaf.yld ( 4)), .c (Leaf.ptr ( 3) ( 0))], bl := [(0, .box [.d (.int .i64)]), (1, .box [.c (Leaf.row ( 5))]), (2, .box [.c (Leaf.row ( 6))]), (3, .box [.d (Kd.sl celk)]), (4, .lr), (5, .row 34 (link)), (6, .row 48 (celk))] }
noncomputable def B122r0_0 (h0_0 : Int) (h3_0 : List Cell) (rl : RL) (h5 : List Line) (h6 : List Cell) : Tr (p122r0_0.T ⊕ (Int × List Cell × RL × List Line × List Cell)) :=
  let v1 : Int := ((↑(List.length h6) : Int))
  let v2 : Int := ((↑(List.length h3_0) : Int))
  let v3 : Int := (maxI (rget celk h3_0 (0 : Int)).snd.fst (1 : Int))
  let v4 : List Cell := (sub h3_0 (0 : Nat) (Int.toNat v3))
  let v5 : Int := ((↑(List.length v4) : Int))
  let v6 : Int := (IntKind.wrap IntKind.i64 ((↑(List.length h6) : Int) + v5))
  let v7 : Bool := (decide ((0 : Int) ≤ v3 ∧ v3 ≤ v2))
  Tr.ite (decide ((0 : Int) < v2))
    (Tr.ite (inB (0 : Int) (List.length h3_0))
      (Tr.ite v7
        (Tr.ite (decide (h0_0 < v5)) (Tr.ite v7 (Tr.ret (Sum.inl ((), (h0_0, ()), (), (), (sub h3_0 (Int.toNat v3) (List.length h3_0), ()), r122_0, h5, h6, ()))) Tr.fail)
          (Tr.ite (decide (h0_0 < v6))
            (Tr.ite (decide (v1 ≤ h0_0 ∧ h0_0 ≤ (80 : Int)))
              (Tr.ite (decide ((List.length h5 + (1 : Nat)) * (32 : Nat) ≤ (140737488355328 : Nat)))
                (Tr.ite (decide (List.length v4 * (48 : Nat) ≤ (140737488355328 : Nat)))
                  (Tr.ite v7 (Tr.ret (Sum.inl ((), (h0_0, ()), (), (), (sub h3_0 (Int.toNat v3) (List.length h3_0), ()), r122_0, h5 ++ [(U.fillL h6 (Int.toNat h0_0), true, ())], v4, ()))) Tr.fail)
                  Tr.fail)
                Tr.fail)
              Tr.fail)
            (Tr.ite (decide ((List.length h6 + List.length v4) * (48 : Nat) ≤ (140737488355328 : Nat)))
              (Tr.ite v7 (Tr.ret (Sum.inl ((), (h0_0, ()), (), (), (sub h3_0 (Int.toNat v3) (List.length h3_0), ()), r122_0, h5, h6 ++ v4, ()))) Tr.fail) Tr.fail)))
        Tr.fail)
      Tr.fail)
    (Tr.ret (Sum.inr (h0_0, h3_0, r122_0, h5, h6)))
def X122r0_0 (r : (Int × List Cell × RL × List Line × List Cell)) : Ex × VS := Prod.mk (Ex.exit ( 0)) { n := 21, v := [], h := [( 0, Blk.box [Leaf.dat (.int .i64) r.fst]), ( 1, Blk.box [Leaf.row ( 5)]), ( 2, Blk.box [Leaf.row ( 6)]), ( 3, Blk.box [Leaf.dat (Kd.sl celk) r.snd.fst]), ( 4, Blk.lrec false none r.snd.snd.fst), ( 5, Blk.row ( 34) link r.snd.snd.snd.fst), ( 6, Blk.row ( 48) celk r.snd.snd.snd.snd)] }
noncomputable def b122r0_0 : p122r0_0.T → Tr (p122r0_0.T ⊕ (Int × List Cell × RL × List Line × List Cell)) := fun ⟨_, ⟨⟨h0_0, _⟩, ⟨_, ⟨_, ⟨⟨h3_0, _⟩, ⟨rl, ⟨h5, ⟨h6, _⟩⟩⟩⟩⟩⟩⟩⟩ => B122r0_0 h0_0 h3_0 rl h5 h6
noncomputable def z122r0_0 : p122r0_0.T → p122r0_0.T := fun ⟨_, ⟨⟨h0_0, _⟩, ⟨_, ⟨_, ⟨⟨h3_0, _⟩, ⟨rl, ⟨h5, ⟨h6, _⟩⟩⟩⟩⟩⟩⟩⟩ => ((), (h0_0, ()), (), (), (h3_0, ()), r122_0, h5, h6, ())
noncomputable def o122r0_0 : p122r0_0.T → Bool := fun ⟨_, ⟨⟨h0_0, _⟩, ⟨_, ⟨_, ⟨⟨h3_0, _⟩, ⟨rl, ⟨h5, ⟨h6, _⟩⟩⟩⟩⟩⟩⟩⟩ => isRL r122_0 rl
theorem ho122r0_0 (y : p122r0_0.T) (h : o122r0_0 y = true) : y = z122r0_0 y := by
  obtain ⟨_, ⟨⟨h0_0, _⟩, ⟨_, ⟨_, ⟨⟨h3_0, _⟩, ⟨rl, ⟨h5, ⟨h6, _⟩⟩⟩⟩⟩⟩⟩⟩ := y; have h := isRL_iff.1 h
  subst h
  rfl
theorem h122r0_0 (k : Nat) (L : Nat → VS → Option (Tr (Ex × VS))) (g0_0 : Int) (g3_0 : List Cell) (y : p122r0_0.T) : (evC (evI 1) (lc Tryd.f148 0) (I122 k L ((), (g0_0, ()), (), (), (g3_0, ()), ())) (unV (live148 0) (p122r0_0.V (z122r0_0 y)))).map (decL 5 (live148 0) (live148 1000)) = ((b122r0_0) y).map (encR (fun a => p122r0_0.V (z122r0_0 a)) X122r0_0) := by
  obtain ⟨_, ⟨⟨h0_0, _⟩, ⟨_, ⟨_, ⟨⟨h3_0, _⟩, ⟨rl, ⟨h5, ⟨h6, _⟩⟩⟩⟩⟩⟩⟩⟩ := y; kernel_rfl
theorem c122r0_0 (y : p122r0_0.T) : canV 5 (live148 0) (unV (live148 0) (p122r0_0.V (z122r0_0 y))) = p122r0_0.V (z122r0_0 y) := by
  obtain ⟨_, ⟨⟨h0_0, _⟩, ⟨_, ⟨_, ⟨⟨h3_0, _⟩, ⟨rl, ⟨h5, ⟨h6, _⟩⟩⟩⟩⟩⟩⟩⟩ := y; kernel_rfl
theorem l122r0_0 {T : p122r0_0.T → Tr (Int × List Cell × RL × List Line × List Cell)} (k : Nat) (L : Nat → VS → Option (Tr (Ex × VS))) (g0_0 : Int) (g3_0 : List Cell) (hls : ∀ x, L 0 x = p122r0_0.ls (fun a => .ite (o122r0_0 a) ((T a).map X122r0_0) .fail) x) (hS : ∀ x r, (T x).val = some r → Rounds (b122r0_0) x r) : LoopOK (evI 1) (I122 k L ((), (g0_0, ()), (), (), (g3_0, ()), ())) (lc Tryd.f148 0) :=
  loopB 0 (live148 0) (live148 1000) p122r0_0 id z122r0_0 o122r0_0 ho122r0_0 (b122r0_0) X122r0_0 T (by kernel_rfl) rfl rfl hls (h122r0_0 k L g0_0 g3_0) c122r0_0 hS
end Go.Proofs.YtmnbcnhpklejcaaDoor
namespace U
theorem pcs_nil (k : Nat) : pcs k [] = [] := by cases k <;> rfl
theorem wd_pos (c : Cl) : 1 ≤ wd c := by unfold wd; omega
theorem maxI_wd (c : Cl) : maxI c.2.1 1 = ((wd c : Nat) : Int) := by unfold maxI wd; split <;> omega
end U
namespace Go.Proofs.YtmnbcnhpklejcaaDoor
noncomputable def T122r0_0 (x : p122r0_0.T) : Tr (Int × List Cell × RL × List Line × List Cell) :=
  match x with
  | ⟨_, ⟨n, _⟩, _, _, ⟨l, _⟩, rl, out, now, _⟩ =>
    .ite (decide (1 ≤ (n : Int) ∧ (n : Int) ≤ 80 ∧ List.length (α := Line) out + List.length (α := Cell) l ≤ 1048576 ∧ (List.length (α := Cell) now : Int) ≤ (n : Int)) && U.okP (List.length (α := Cell) l) l)
      (.ret (n, [], r122_0, ((U.pcs (List.length (α := Cell) l) l).foldl (U.stepP (Int.toNat n)) (out, now)).1, ((U.pcs (List.length (α := Cell) l) l).foldl (U.stepP (Int.toNat n)) (out, now)).2)) .fail
theorem R122r0_0 (n : Nat) (h1 : 1 ≤ n) (h2 : n ≤ 80) : ∀ (k : Nat) (l : List Cell) (rl : RL) (out : List Line) (now : List Cell), U.okP k l = true → out.length + l.length ≤ 1048576 → now.length ≤ n →
    Rounds b122r0_0 ((), ((n : Int), ()), (), (), (l, ()), rl, out, now, ()) ((n : Int), [], r122_0, ((U.pcs k l).foldl (U.stepP n) (out, now)).1, ((U.pcs k l).foldl (U.stepP n) (out, now)).2)
  | k, [], rl, out, now, _, _, _ => by
    rw [U.pcs_nil]
    refine .exit ?_
    have c0 : decide ((0 : Int) < ((([] : List Cell).length : Nat) : Int)) = false := rfl
    simp only [b122r0_0, B122r0_0, Tr.val, c0, cond_false, List.foldl_nil]
  | 0, c :: l, rl, out, now, h, _, _ => by simp [U.okP] at h
  | k + 1, c :: l, rl, out, now, h, hb, hn => by
    unfold U.okP at h
    rw [Bool.and_eq_true] at h
    obtain ⟨g1, g2⟩ := h
    have g1 : U.wd c ≤ (c :: l).length := of_decide_eq_true g1
    have g0 := U.wd_pos c
    have e1 : maxI (rget celk (c :: l) (0 : Int)).2.1 1 = ((U.wd c : Nat) : Int) := U.maxI_wd c
    have e2 : sub (c :: l) 0 (U.wd c) = (c :: l).take (U.wd c) := by unfold sub; rw [List.drop_zero]
    have e3 : sub (c :: l) (U.wd c) (c :: l).length = (c :: l).drop (U.wd c) := by unfold sub; rw [List.take_length]
    have e4 : ((c :: l).take (U.wd c)).length = U.wd c := by rw [List.length_take]; omega
    have e5 : ((c :: l).drop (U.wd c)).length + U.wd c = (c :: l).length := by rw [List.length_drop]; omega
    have c0 : decide ((0 : Int) < (((c :: l).length : Nat) : Int)) = true := decide_eq_true (by simp only [List.length_cons]; omega)
    have c1 : inB (0 : Int) (c :: l).length = true := inB_nat (i := 0) (by simp)
    have c2 : decide ((0 : Int) ≤ ((U.wd c : Nat) : Int) ∧ ((U.wd c : Nat) : Int) ≤ (((c :: l).length : Nat) : Int)) = true := decide_eq_true (by omega)
    have e6 : IntKind.wrap IntKind.i64 ((now.length : Int) + ((U.wd c : Nat) : Int)) = ((now.length + U.wd c : Nat) : Int) := by rw [Go.Ev.w64 (by omega) (by omega)]; omega
    have c3 : decide ((now.length : Int) ≤ (n : Int) ∧ (n : Int) ≤ (80 : Int)) = true := decide_eq_true (by omega)
    have c4 : (out.length + 1) * 32 ≤ 140737488355328 := by omega
    have c5 : U.wd c * 48 ≤ 140737488355328 := by omega
    have c6 : (now.length + U.wd c) * 48 ≤ 140737488355328 := by omega
    unfold U.pcs
    rw [List.foldl_cons]
    have hs : ∀ s : List Line × List Cell, s = U.stepP n (out, now) ((c :: l).take (U.wd c)) → s.1.length + ((c :: l).drop (U.wd c)).length ≤ 1048576 ∧ s.2.length ≤ n →
        (b122r0_0 ((), ((n : Int), ()), (), (), (c :: l, ()), rl, out, now, ())).val = some (.inl ((), ((n : Int), ()), (), (), ((c :: l).drop (U.wd c), ()), r122_0, s.1, s.2, ())) →
        Rounds b122r0_0 ((), ((n : Int), ()), (), (), (c :: l, ()), rl, out, now, ()) ((n : Int), [], r122_0, ((U.pcs k ((c :: l).drop (U.wd c))).foldl (U.stepP n) (U.stepP n (out, now) ((c :: l).take (U.wd c)))).1, ((U.pcs k ((c :: l).drop (U.wd c))).foldl (U.stepP n) (U.stepP n (out, now) ((c :: l).take (U.wd c)))).2) := by
      intro s hs hl hv
      rw [← hs]
      exact .step hv (R122r0_0 n h1 h2 k _ r122_0 s.1 s.2 g2 hl.1 hl.2)
    by_cases p1 : n < U.wd c
    · have q1 : decide ((n : Int) < ((U.wd c : Nat) : Int)) = true := decide_eq_true (by omega)
      refine hs (out, now) ?_ ⟨by show out.length + _ ≤ _; omega, hn⟩ ?_
      · unfold U.stepP
        rw [e4, decide_eq_true p1]; rfl
      · simp only [b122r0_0, B122r0_0, Tr.val, e1, Int.toNat_natCast, e2, e3, e4, c0, c1, c2, q1, cond_true]
    · have q1 : decide ((n : Int) < ((U.wd c : Nat) : Int)) = false := decide_eq_false (by omega)
      by_cases p2 : n < now.length + U.wd c
      · have q2 : decide ((n : Int) < ((now.length + U.wd c : Nat) : Int)) = true := decide_eq_true (by omega)
        refine hs (out ++ [(U.fillL now n, true, ())], (c :: l).take (U.wd c)) ?_ ⟨by rw [List.length_append, List.length_singleton]; omega, by show List.length ((c :: l).take (U.wd c)) ≤ n; omega⟩ ?_
        · unfold U.stepP
          rw [e4, decide_eq_false p1, decide_eq_true p2]; rfl
        · simp only [b122r0_0, B122r0_0, Tr.val, e1, Int.toNat_natCast, e2, e3, e4, e6, c0, c1, c2, c3, c4, c5, q1, q2, decide_true, cond_true, cond_false]
      · have q2 : decide ((n : Int) < ((now.length + U.wd c : Nat) : Int)) = false := decide_eq_false (by omega)
        refine hs (out, now ++ (c :: l).take (U.wd c)) ?_ ⟨by show out.length + _ ≤ _; omega, by show List.length (now ++ (c :: l).take (U.wd c)) ≤ n; rw [List.length_append]; omega⟩ ?_
        · unfold U.stepP
          rw [e4, decide_eq_false p1, decide_eq_false p2]; rfl
        · simp only [b122r0_0, B122r0_0, Tr.val, e1, Int.toNat_natCast, e2, e3, e4, e6, c0, c1, c2, c6, q1, q2, decide_true, cond_true, cond_false]
theorem K122r0_0 (k : Nat) (L : Nat → VS → Option (Tr (Ex × VS))) (x : q122_0.T) (h1 : ∀ y, L 0 y = p122r0_0.ls (fun a => .ite (o122r0_0 a) ((T122r0_0 a).map X122r0_0) .fail) y) : LoopOK (evI 1) (I122 k L x) (lc Tryd.f148 0) := by
  obtain ⟨⟨_⟩, ⟨g0, _⟩, ⟨_⟩, ⟨_⟩, ⟨g3, _⟩, _⟩ := x
  refine l122r0_0 (T := T122r0_0) k L g0 g3 h1 ?_
  rintro ⟨_, ⟨n, z1⟩, z2, z3, ⟨l, z4⟩, rl, out, now, z5⟩ r hh
  obtain ⟨e1, e2⟩ := pre_val hh
  rw [Bool.and_eq_true] at e1
  obtain ⟨e1, gk⟩ := e1
  have e1 : 1 ≤ (n : Int) ∧ (n : Int) ≤ 80 ∧ List.length (α := Line) out + List.length (α := Cell) l ≤ 1048576 ∧ (List.length (α := Cell) now : Int) ≤ (n : Int) := of_decide_eq_true e1
  obtain ⟨h1, h2, h3, h4⟩ := e1
  obtain ⟨m, rfl⟩ := Int.eq_ofNat_of_zero_le (a := n) (Int.le_trans (by decide) h1)
  cases e2
  have h1 : (1 : Int) ≤ (m : Int) := h1
  have h2 : (m : Int) ≤ 80 := h2
  have h4 : (now.length : Int) ≤ (m : Int) := h4
  exact R122r0_0 m (by omega) (by omega) l.length l rl out now gk h3 (by omega)
noncomputable abbrev W122 (key : Nat) (y : VS) : Option (Tr (Ex × VS)) := bif Nat.beq key 0 then p122r0_0.ls (fun a => .ite (o122r0_0 a) ((T122r0_0 a).map X122r0_0) .fail) y else none
theorem run122 (n : Int) (l : List Cell) :
    ((evI 2 (((E122.lend 0).told 0 W122).inner (Nat.succ 4) (yldR (evI 2 ((E122.lend 0).told 0 W122).round) (unV ((E122.lend 0).live (Nat.add 500 (loopKey (rg Tryd.f122 0).body))) (q122_0.V ((), (n, ()), (), (), (l, ()), ()))).t 4)) (bodyOf Tryd.f148) (itSt ((E122.lend 0).told 0 W122) (rg Tryd.f122 0).f (unV ((E122.lend 0).live (Nat.add 500 (loopKey (rg Tryd.f122 0).body))) (q122_0.V ((), (n, ()), (), (), (l, ()), ()))) Tryd.f148 4 { ps := (rg Tryd.f122 0).ps.toList, asg := (rg Tryd.f122 0).asg, body := (rg Tryd.f122 0).body })).map fun r => (r.1, canV (Nat.succ 4) { ls := [] } r.2))
    = (Tr.ite (o122r0_0 ((), (n, ()), (), (), (l, ()), r122_0, [], [], ())) (T122r0_0 ((), (n, ()), (), (), (l, ()), r122_0, [], [], ())) .fail).map fun r => match X122r0_0 r with | (.exit _, v) => (.nrm, v) | (e, v) => (e, v) := by
  kernel_rfl
theorem env122 (n : Int) (l : List Cell) : ((E122.lend 0).told 0 W122).inner (Nat.succ (len (unV ((E122.lend 0).live (Nat.add 500 (loopKey (rg Tryd.f122 0).body))) (q122_0.V ((), (n, ()), (), (), (l, ()), ()))).h)) (yldR (evI 2 ((E122.lend 0).told 0 W122).round) (unV ((E122.lend 0).live (Nat.add 500 (loopKey (rg Tryd.f122 0).body))) (q122_0.V ((), (n, ()), (), (), (l, ()), ()))).t (len (unV ((E122.lend 0).live (Nat.add 500 (loopKey (rg Tryd.f122 0).body))) (q122_0.V ((), (n, ()), (), (), (l, ()), ()))).h)) = I122 0 W122 ((), (n, ()), (), (), (l, ()), ()) := by kernel_rfl
theorem iter122 (n : Int) (l : List Cell) : IterOK (evI 2) (evI 1) ((E122.lend 0).told 0 W122) (rg Tryd.f122 0).f (unV ((E122.lend 0).live (Nat.add 500 (loopKey (rg Tryd.f122 0).body))) (q122_0.V ((), (n, ()), (), (), (l, ()), ()))) :=
  iterOK_of (gf := 148) (caps := [3]) (fn := Tryd.f148) (lcs := [lc Tryd.f148 0]) (by kernel_rfl) (by kernel_rfl) rfl (by kernel_rfl) (by kernel_rfl)
    (by rw [env122]; exact K122r0_0 0 W122 _ fun y => rfl)
theorem range122 : RangeOK (evI 2) (E122.lend 0) (rg Tryd.f122 0) := by
  intro x tr rr h1 h2
  have h1 : q122_0.ls T122 x = some tr := h1
  unfold LP.ls at h1
  split at h1
  · rename_i a ha
    cases h1
    rw [LP.get_eq ha]
    clear ha
    obtain ⟨⟨_⟩, ⟨n, z0⟩, ⟨_⟩, ⟨_⟩, ⟨l, z1⟩, z2⟩ := a
    obtain ⟨g1, g2⟩ := pre_val h2
    rw [Bool.and_eq_true] at g1
    obtain ⟨g1, gk⟩ := g1
    have g1 : 1 ≤ (n : Int) ∧ (n : Int) ≤ 80 ∧ l.length ≤ 1048576 := of_decide_eq_true g1
    have gk : U.okP l.length l = true := gk
    have hi := congrArg Tr.val (run122 n l)
    have t0 : (Tr.ite (o122r0_0 ((), (n, ()), (), (), (l, ()), r122_0, [], [], ())) (T122r0_0 ((), (n, ()), (), (), (l, ()), r122_0, [], [], ())) .fail).val =
        some (n, [], r122_0, ((U.pcs l.length l).foldl (U.stepP (Int.toNat n)) ([], [])).1, ((U.pcs l.length l).foldl (U.stepP (Int.toNat n)) ([], [])).2) := by
      have g4 : (0 : Int) ≤ n := Int.le_trans (by decide) g1.1
      simp only [o122r0_0, isRL_self, T122r0_0, Tr.val, g1, g4, gk, List.length_nil, Nat.zero_add, show ((0 : Nat) : Int) = 0 from rfl, and_self, decide_true, Bool.and_self, cond_true]
    have hi := hi.trans ((Tr.map_val _ _).trans (congrArg (Option.map _) t0))
    clear t0
    cases g2
    exact ⟨0, W122, _, iter122 n l, range_run (k0 := 2) (g := 148) (caps := [3]) (fn := Tryd.f148) (c := bodyOf Tryd.f148) (m := 4) (by kernel_rfl) (by kernel_rfl) rfl (by kernel_rfl) (by kernel_rfl) hi (.inl rfl) (pe := none) (rl' := r122_0) rfl rfl, Prod.ext rfl (by kernel_rfl)⟩
  · cases h1
def d122 (a : List Cell) (b : Int) : Tr (List Line) :=
  let v1 : List U.Ln × List U.Cl := (List.foldl (U.stepP (Int.toNat b)) ([], []) (U.pcs (List.length a) a))
  let v2 : List U.Ln := (v1.fst)
  let v3 : List U.Cl := (v1.snd)
  let v4 : Int := ((↑(List.length v3) : Int))
  Tr.ite (decide ((1 : Int) ≤ b ∧ b ≤ (80 : Int) ∧ List.length a ≤ (1048576 : Nat)) && U.okP (List.length a) a)
    (Tr.ite (decide (v4 ≤ b ∧ b ≤ (80 : Int))) (Tr.ite (decide ((List.length v2 + (1 : Nat)) * (32 : Nat) ≤ (140737488355328 : Nat))) (Tr.ret (v2 ++ [(U.fillL v3 (Int.toNat b), false, ())])) Tr.fail)
      Tr.fail)
    Tr.fail
def e122 (r : List Line) : FRes := { rs := Slot.av (AV.one (Leaf.dat (Kd.sl link) r)), upd := [], new := [] }
@[reducible] def a122 : List AK := [AK.d (Kd.sl celk), AK.d (.int .i64)]
@[reducible] def b122 : List BK := []
theorem t122 (a : List Cell) (b : Int) : evFn (E122) Tryd.f122 [PM.data (Kd.sl link)] (akAV a122 (a, b, ())) (bkBs b122 ()) = (d122 a b).map e122 := by kernel_rfl
def s122 (C : akT a122 → Bool) (G : akT a122 → List Line) : FSpec := aspec a122 b122 e122 (fun x _ => C x) (fun x _ => G x)
theorem k122 {C : akT a122 → Bool} {G : akT a122 → List Line} (hd : ∀ (a : List Cell) (b : Int), C (a, b, ()) = true → (d122 a b).val = some (G (a, b, ()))) (IO : ItOK Tryd.prog (E122) := by exact itOK_none rfl) (L : ∀ c, Tryd.f122.body = some c → LsOK (evI 2) ((E122).lend 0) c := by exact fun c _ => LsOK_none rfl c) : SpecOK Tryd.prog E0 122 (s122 C G) :=
  aspec_ok (ak := a122) (bl := b122) (e := e122) (c := fun x _ => C x) (g := fun x _ => G x) (E0 := E0) (E := E122) tab AG122 rfl rfl hm Tryd.func122 (by kernel_rfl) [PM.data (Kd.sl link)] (fun X Y H => by obtain ⟨a, ⟨b, _⟩⟩ := X; exact val_of (t122 a b) (hd a b H)) IO L
end Go.Proofs.YtmnbcnhpklejcaaDoor
namespace U
def foldL (cols : Nat) (l : List Cl) : List Ln := ((pcs l.length l).foldl (stepP cols) ([], [])).1 ++ [(fillL ((pcs l.length l).foldl (stepP cols) ([], [])).2 cols, false, ())]
theorem foldl_small (cols : Nat) : ∀ (ps : List (List Cl)) (s : List Ln × List Cl), s.2.length ≤ cols → (ps.foldl (stepP cols) s).2.length ≤ cols ∧ (ps.foldl (stepP cols) s).1.length ≤ s.1.length + ps.length
  | [], s, h => ⟨h, by simp⟩
  | p :: ps, s, h => by
    rw [List.foldl_cons, List.length_cons]
    have h1 : (stepP cols s p).2.length ≤ cols ∧ (stepP cols s p).1.length ≤ s.1.length + 1 := by
      unfold stepP
      by_cases p1 : cols < p.length
      · simp only [decide_eq_true p1, cond_true]; exact ⟨h, by omega⟩
      · by_cases p2 : cols < s.2.length + p.length
        · simp only [decide_eq_false p1, decide_eq_true p2, cond_true, cond_false, List.length_append, List.length_singleton]; omega
        · simp only [decide_eq_false p1, decide_eq_false p2, cond_false, List.length_append]; omega
    have h2 := foldl_small cols ps (stepP cols s p) h1.1
    exact ⟨h2.1, by omega⟩
theorem pcs_len : ∀ (k : Nat) (l : List Cl), (pcs k l).length ≤ k
  | 0, _ => by simp [pcs]
  | k + 1, [] => by simp [pcs]
  | k + 1, c :: l => by unfold pcs; rw [List.length_cons]; have := pcs_len k ((c :: l).drop (wd c)); omega
end U
namespace Go.Proofs.YtmnbcnhpklejcaaDoor
theorem IO122 : ItOK Tryd.prog E122 := itOK_of (l := [(148, Tryd.f148)]) rfl (by
  intro p hp
  rw [List.mem_singleton] at hp
  subst hp
  exact ⟨Tryd.func148, by kernel_rfl⟩)
abbrev w122 : FSpec := s122 (fun x => decide (1 ≤ (x.2.1 : Int) ∧ (x.2.1 : Int) ≤ 80 ∧ List.length (α := Cell) x.1 ≤ 1048576) && U.okP (List.length (α := Cell) x.1) x.1) fun x => U.foldL x.2.1.toNat x.1
theorem wk122 : SpecOK Tryd.prog E0 122 w122 := by
  refine k122 (fun l n H => ?_) IO122 (L := ls_ok (lcs := []) (rgs := [rg Tryd.f122 0]) (by kernel_rfl) (by kernel_rfl) trivial range122)
  have H : (decide ((1 : Int) ≤ n ∧ n ≤ 80 ∧ l.length ≤ 1048576) && U.okP l.length l) = true := H
  have H' := H
  rw [Bool.and_eq_true] at H
  obtain ⟨h1, h2, h3⟩ := of_decide_eq_true H.1
  obtain ⟨m, rfl⟩ := Int.eq_ofNat_of_zero_le (a := n) (Int.le_trans (by decide) h1)
  have k1 := U.foldl_small m (U.pcs l.length l) ([], []) (by simp)
  have k2 := U.pcs_len l.length l
  show _ = some (U.foldL m l)
  simp only [d122, Tr.val, H', Int.toNat_natCast, cond_true]
  have k1' : ((U.pcs l.length l).foldl (U.stepP m) ([], [])).2.length ≤ m ∧ ((U.pcs l.length l).foldl (U.stepP m) ([], [])).1.length ≤ 0 + (U.pcs l.length l).length := k1
  have h2 : (m : Int) ≤ 80 := h2
  have c1 : decide ((((U.pcs l.length l).foldl (U.stepP m) ([], [])).2.length : Int) ≤ (m : Int) ∧ (m : Int) ≤ 80) = true := decide_eq_true (by omega)
  have c2 : decide ((((U.pcs l.length l).foldl (U.stepP m) ([], [])).1.length + 1) * 32 ≤ 140737488355328) = true := decide_eq_true (by omega)
  simp only [c1, c2, cond_true]
  rfl
def d69 (a : List Cell) (b : Int) : Tr (List Line × Int) :=
  let v1 : Int := ((↑(List.length a) : Int))
  let v2 : Int := ((↑(List.length a) : Int))
  Tr.ite (decide (b < (1 : Int))) (Tr.ret ([], (1 : Int)))
    (Tr.ite (decide ((80 : Int) < b)) (Tr.ret ([], (1 : Int)))
      (Tr.ite (decide ((16000 : Int) < v2)) (Tr.ret ([], (1 : Int)))
        (Tr.ite (U.okc a)
          (Tr.ite (!(U.fitC a && decide (v1 = v2))) (Tr.ret ([], (1 : Int)))
            (Tr.ite (decide ((1 : Int) ≤ b ∧ b ≤ (80 : Int) ∧ List.length a ≤ (1048576 : Nat)) && U.okP (List.length a) a) (Tr.ret (U.foldL (Int.toNat b) a, (0 : Int))) Tr.fail))
          Tr.fail)))
def e69 (r : List Line × Int) : FRes := { rs := Slot.tup [AV.one (Leaf.dat (Kd.sl link) r.fst), AV.one (Leaf.dat (.int .i64) r.snd)], upd := [], new := [] }
@[reducible] def a69 : List AK := [AK.d (Kd.sl celk), AK.d (.int .i64)]
@[reducible] def b69 : List BK := []
theorem t69 (a : List Cell) (b : Int) : evFn (Env.withFns E0 [((31 : Nat), w31), ((122 : Nat), w122)]) Tryd.f69 [PM.data (Kd.sl link), PM.data (.int .i64)] (akAV a69 (a, b, ())) (bkBs b69 ()) = (d69 a b).map e69 := by kernel_rfl
def s69 (C : akT a69 → Bool) (G : akT a69 → List Line × Int) : FSpec := aspec a69 b69 e69 (fun x _ => C x) (fun x _ => G x)
theorem k69 {C : akT a69 → Bool} {G : akT a69 → List Line × Int} (hd : ∀ (a : List Cell) (b : Int), C (a, b, ()) = true → (d69 a b).val = some (G (a, b, ()))) (IO : ItOK Tryd.prog (Env.withFns E0 [((31 : Nat), w31), ((122 : Nat), w122)]) := by exact itOK_none rfl) (L : ∀ c, Tryd.f69.body = some c → LsOK (evI 2) ((Env.withFns E0 [((31 : Nat), w31), ((122 : Nat), w122)]).lend 0) c := by exact fun c _ => LsOK_none rfl c) : SpecOK Tryd.prog E0 69 (s69 C G) :=
  aspec_ok (ak := a69) (bl := b69) (e := e69) (c := fun x _ => C x) (g := fun x _ => G x) (E0 := E0) (E := Env.withFns E0 [((31 : Nat), w31), ((122 : Nat), w122)]) tab (.cons wk31 (.cons wk122 .nil)) rfl rfl hm Tryd.func69 (by kernel_rfl) [PM.data (Kd.sl link), PM.data (.int .i64)] (fun X Y H => by obtain ⟨a, ⟨b, _⟩⟩ := X; exact val_of (t69 a b) (hd a b H)) IO L
abbrev w69 : FSpec := s69 (fun x => bif decide ((1 : Int) ≤ (x.2.1 : Int)) && (decide ((x.2.1 : Int) ≤ 80) && decide ((List.length (α := Cell) x.1 : Int) ≤ 16000)) then U.okc x.1 && (!U.fitC x.1 || U.okP (List.length (α := Cell) x.1) x.1) else true)
  fun x => bif decide ((1 : Int) ≤ (x.2.1 : Int)) && (decide ((x.2.1 : Int) ≤ 80) && (decide ((List.length (α := Cell) x.1 : Int) ≤ 16000) && U.fitC x.1)) then (U.foldL x.2.1.toNat x.1, (0 : Int)) else ([], (1 : Int))
theorem wk69 : SpecOK Tryd.prog E0 69 w69 := k69 fun l n H => by
  have H : (bif decide ((1 : Int) ≤ n) && (decide (n ≤ 80) && decide ((l.length : Int) ≤ 16000)) then U.okc l && (!U.fitC l || U.okP l.length l) else true) = true := H
  show _ = some (bif decide ((1 : Int) ≤ n) && (decide (n ≤ 80) && (decide ((l.length : Int) ≤ 16000) && U.fitC l)) then (U.foldL n.toNat l, (0 : Int)) else ([], (1 : Int)))
  by_cases p1 : (1 : Int) ≤ n
  · by_cases p2 : n ≤ 80
    · by_cases p3 : (l.length : Int) ≤ 16000
      · simp only [p1, p2, p3, decide_true, Bool.and_self, Bool.true_and, cond_true] at H ⊢
        rw [Bool.and_eq_true] at H
        have q1 : ¬ n < 1 := by omega
        have q2 : ¬ (80 : Int) < n := by omega
        have q3 : ¬ (16000 : Int) < (l.length : Int) := by omega
        have q4 : l.length ≤ 1048576 := by omega
        simp only [d69, Tr.val, q1, q2, q3, p1, p2, q4, H.1, decide_true, decide_false, Bool.and_true, and_self, Bool.true_and, cond_true, cond_false]
        have H2 := H.2
        cases h : U.fitC l with
        | false => rfl
        | true =>
          rw [h] at H2
          have H2 : U.okP l.length l = true := H2
          rw [H2]
          rfl
      · have q1 : ¬ n < 1 := by omega
        have q2 : ¬ (80 : Int) < n := by omega
        have q3 : (16000 : Int) < (l.length : Int) := by omega
        simp only [d69, Tr.val, q1, q2, q3, p1, p2, p3, decide_true, decide_false, Bool.true_and, Bool.false_and, cond_true, cond_false]
    · have q1 : ¬ n < 1 := by omega
      have q2 : (80 : Int) < n := by omega
      simp only [d69, Tr.val, q1, q2, p1, p2, decide_true, decide_false, Bool.true_and, Bool.false_and, cond_true, cond_false]
  · have q1 : n < 1 := by omega
    simp only [d69, Tr.val, q1, p1, decide_true, decide_false, Bool.false_and, cond_true, cond_false]
end Go.Proofs.YtmnbcnhpklejcaaDoor

end
section
set_option linter.unusedVariables false
set_option linter.unusedSimpArgs false
set_option maxRecDepth 20000
set_option maxHeartbeats 4000000
open Go Go.Ev
namespace Go.Proofs.YtmnbcnhpklejcaaDoor
open Go.RowKit
namespace Le
def live148 (key : Nat) : Lv :=
  bif Nat.beq key 0 then { ls := [0, 1], wd := [⟨1001, some 0, .srow 5 (.int .u8)⟩] } else bif Nat.beq key 1000 then { ls := [] } else
  { ls := [] }
end Le
def live53 (key : Nat) : Lv :=
  bif Nat.beq key 511 then { ls := [6, 9, 19, 20, 21, 26] } else bif Nat.beq key 1511 then { ls := [6, 9, 19, 20, 21] } else
  bif Nat.beq key 6 then { ls := [6, 19, 20, 21], wd := [⟨6, none, .row 9 .str⟩] } else bif Nat.beq key 1006 then { ls := [6] } else
  bif Nat.beq key 9997 then { ls := [132] } else
  { ls := [] }
abbrev G53 : List (Nat × FSpec) := [(52, w52), (111, w111), (112, w112), (113, w113), (114, w114)]
theorem AG53 : AllFn Tryd.prog E0 G53 := .cons wk52 (.cons wk111 (.cons wk112 (.cons wk113 (.cons wk114 .nil))))
abbrev lv53 (k : Nat) : Lv := bif Nat.ble 100000 k then Le.live148 (Nat.sub k 100000) else live53 k
noncomputable abbrev M53 (ls : Nat → VS → Option (Tr (Ex × VS))) : Env := ((E0.withFns G53).withIts [(148, Tryd.f148)]).loops lv53 ls
@[reducible] def p53_0 : LP := { n := 45, sl := [.c (Leaf.row ( 0)), .d (Kd.sl (Kd.sl celk)), .d (.int .i64), .d (.int .i64)], bl := [(0, .row 9 (Kd.str))] }
@[reducible] def q53_0 : LP := { n := 45, sl := [.c (Leaf.row ( 0)), .c (Leaf.ptr ( 1) ( 0)), .d (Kd.sl (Kd.sl celk)), .d (.int .i64), .d (.int .i64), .c (Leaf.fn ( 148) [2])], bl := [(0, .row 9 (Kd.str)), (1, .tb 132 [.c (Leaf.nils)]), (2, .box [.d (Kd.sl celk)])] }
end Go.Proofs.YtmnbcnhpklejcaaDoor
namespace U
def sayP (p : List Cl) : List Int := bytesL (p.getD 0 dC).1 ++ bif decide ((p.getD 0 dC).1 = (⟨#[]⟩ : ByteArray)) then [32] else []
def sayR (l : List Cl) : List Int := (pcs l.length l).flatMap sayP
end U
namespace Go.Proofs.YtmnbcnhpklejcaaDoor
noncomputable def r53_0 : RL := { ps := (rg Tryd.f53 0).ps.toList, asg := (rg Tryd.f53 0).asg, body := (rg Tryd.f53 0).body }
@[reducible] def p53r0_0 : LP := { n := 21, sl := [.c (Leaf.yld ( 3)), .c (Leaf.ptr ( 2) ( 0))], bl := [(0, .row 9 (Kd.str)), (1, .tb 132 [.c (Leaf.srow ( 4))]), (2, .box [.d (Kd.sl celk)]), (3, .lr), (4, .row 5 (Kd.int IntKind.u8))] }
def Y53 (rows : List (List Cell)) (n i : Int) (out : List ByteArray) (u : Bool) (bs : List Int) : VS := ⟨45, [one (.row 0), one (.ptr 1 0), one (.dat (.sl (.sl celk)) rows), one (.dat (.int .i64) n), one (.dat (.int .i64) i)], [(0, .row 9 .str out), (1, .tb 132 u [.srow 2]), (2, .row 5 (.int .u8) bs)]⟩
def T53 (x : q53_0.T) : Tr (Ex × VS) :=
  match x with
  | ⟨⟨rows, n, i, _⟩, out, ⟨u, _⟩, ⟨l, _⟩, _⟩ => .ite (decide (List.length (α := Int) (U.sayR l) ≤ 140737488355328) && U.okP (List.length (α := Cell) l) l)
      (.ret (.nrm, Y53 rows n i out (u || !decide (List.length (α := Cell) l = 0)) (U.sayR l))) .fail
noncomputable abbrev N53 (ls : Nat → VS → Option (Tr (Ex × VS))) : Env := M53 fun key x => bif Nat.beq key 511 then q53_0.ls T53 x else ls key x
noncomputable abbrev I53 (ls : Nat → VS → Option (Tr (Ex × VS))) (k : Nat) (L : Nat → VS → Option (Tr (Ex × VS))) (x : q53_0.T) : Env := (((N53 ls).lend 0).told k L).inner 4 (yldR (evI 2 (((N53 ls).lend 0).told k L).round) (unV (lv53 511) (q53_0.V x)).t 3)
noncomputable def B53r0_0 (h0 : List ByteArray) (h1_u : Bool) (h2_0 : List Cell) (rl : RL) (h4 : List Int) : Tr (p53r0_0.T ⊕ (List ByteArray × Bool × List Cell × RL × List Int)) :=
  let v1 : Int := ((↑(List.length h2_0) : Int))
  let v2 : Int := (maxI (rget celk h2_0 (0 : Int)).snd.fst (1 : Int))
  let v3 : List Cell := (sub h2_0 (0 : Nat) (Int.toNat v2))
  let v4 : Bool := (inB (0 : Int) (List.length v3))
  let v5 : List Int := (List.append h4 (bytesL (rget celk v3 (0 : Int)).fst))
  let v6 : Bool := (decide ((0 : Int) ≤ v2 ∧ v2 ≤ v1))
  Tr.ite (decide ((0 : Int) < v1))
    (Tr.ite (inB (0 : Int) (List.length h2_0))
      (Tr.ite v6
        (Tr.ite v4
          (Tr.ite (decide (List.length h4 + ByteArray.size (rget celk v3 (0 : Int)).fst ≤ (140737488355328 : Nat)))
            (Tr.ite v4
              (Tr.ite (decide ((rget celk v3 (0 : Int)).fst = { data := #[] }))
                (Tr.ite (decide (List.length v5 + (1 : Nat) ≤ (140737488355328 : Nat)))
                  (Tr.ite v6 (Tr.ret (Sum.inl ((), h0, (true, ()), (sub h2_0 (Int.toNat v2) (List.length h2_0), ()), r53_0, List.append v5 [(32 : Int)], ()))) Tr.fail) Tr.fail)
                (Tr.ite v6 (Tr.ret (Sum.inl ((), h0, (true, ()), (sub h2_0 (Int.toNat v2) (List.length h2_0), ()), r53_0, v5, ()))) Tr.fail))
              Tr.fail)
            Tr.fail)
          Tr.fail)
        Tr.fail)
      Tr.fail)
    (Tr.ret (Sum.inr (h0, h1_u, h2_0, r53_0, h4)))
def X53r0_0 (r : (List ByteArray × Bool × List Cell × RL × List Int)) : Ex × VS := Prod.mk (Ex.exit ( 0)) { n := 21, v := [], h := [( 0, Blk.row ( 9) Kd.str r.fst), ( 1, Blk.tb ( 132) r.snd.fst [Leaf.srow ( 4)]), ( 2, Blk.box [Leaf.dat (Kd.sl celk) r.snd.snd.fst]), ( 3, Blk.lrec false none r.snd.snd.snd.fst), ( 4, Blk.row ( 5) (Kd.int IntKind.u8) r.snd.snd.snd.snd)] }
noncomputable def b53r0_0 : p53r0_0.T → Tr (p53r0_0.T ⊕ (List ByteArray × Bool × List Cell × RL × List Int)) := fun ⟨_, ⟨h0, ⟨⟨h1_u, _⟩, ⟨⟨h2_0, _⟩, ⟨rl, ⟨h4, _⟩⟩⟩⟩⟩⟩ => B53r0_0 h0 h1_u h2_0 rl h4
noncomputable def z53r0_0 : p53r0_0.T → p53r0_0.T := fun ⟨_, ⟨h0, ⟨⟨h1_u, _⟩, ⟨⟨h2_0, _⟩, ⟨rl, ⟨h4, _⟩⟩⟩⟩⟩⟩ => ((), h0, (h1_u, ()), (h2_0, ()), r53_0, h4, ())
noncomputable def o53r0_0 : p53r0_0.T → Bool := fun ⟨_, ⟨h0, ⟨⟨h1_u, _⟩, ⟨⟨h2_0, _⟩, ⟨rl, ⟨h4, _⟩⟩⟩⟩⟩⟩ => isRL r53_0 rl
theorem ho53r0_0 (y : p53r0_0.T) (h : o53r0_0 y = true) : y = z53r0_0 y := by
  obtain ⟨_, ⟨h0, ⟨⟨h1_u, _⟩, ⟨⟨h2_0, _⟩, ⟨rl, ⟨h4, _⟩⟩⟩⟩⟩⟩ := y; have h := isRL_iff.1 h
  subst h
  rfl
theorem h53r0_0 (k : Nat) (L : Nat → VS → Option (Tr (Ex × VS))) (u2 : List (List Cell)) (u3 : Int) (u4 : Int) (g0 : List ByteArray) (g1_u : Bool) (g2_0 : List Cell) (y : p53r0_0.T) : (evC (evI 1) (lc Tryd.f148 0) ((I53 fun _ _ => none) k L ((u2, u3, u4, ()), g0, (g1_u, ()), (g2_0, ()), ())) (unV (Le.live148 0) (p53r0_0.V (z53r0_0 y)))).map (decL 4 (Le.live148 0) (Le.live148 1000)) = ((b53r0_0) y).map (encR (fun a => p53r0_0.V (z53r0_0 a)) X53r0_0) := by
  obtain ⟨_, ⟨h0, ⟨⟨h1_u, _⟩, ⟨⟨h2_0, _⟩, ⟨rl, ⟨h4, _⟩⟩⟩⟩⟩⟩ := y; kernel_rfl
theorem c53r0_0 (y : p53r0_0.T) : canV 4 (Le.live148 0) (unV (Le.live148 0) (p53r0_0.V (z53r0_0 y))) = p53r0_0.V (z53r0_0 y) := by
  obtain ⟨_, ⟨h0, ⟨⟨h1_u, _⟩, ⟨⟨h2_0, _⟩, ⟨rl, ⟨h4, _⟩⟩⟩⟩⟩⟩ := y; kernel_rfl
theorem l53r0_0 {T : p53r0_0.T → Tr (List ByteArray × Bool × List Cell × RL × List Int)} (k : Nat) (L : Nat → VS → Option (Tr (Ex × VS))) (u2 : List (List Cell)) (u3 : Int) (u4 : Int) (g0 : List ByteArray) (g1_u : Bool) (g2_0 : List Cell) (hls : ∀ x, L 0 x = p53r0_0.ls (fun a => .ite (o53r0_0 a) ((T a).map X53r0_0) .fail) x) (hS : ∀ x r, (T x).val = some r → Rounds (b53r0_0) x r) : LoopOK (evI 1) ((I53 fun _ _ => none) k L ((u2, u3, u4, ()), g0, (g1_u, ()), (g2_0, ()), ())) (lc Tryd.f148 0) :=
  loopB 0 (Le.live148 0) (Le.live148 1000) p53r0_0 id z53r0_0 o53r0_0 ho53r0_0 (b53r0_0) X53r0_0 T (by kernel_rfl) rfl rfl hls (h53r0_0 k L u2 u3 u4 g0 g1_u g2_0) c53r0_0 hS
noncomputable def T53r0_0 (x : p53r0_0.T) : Tr (List ByteArray × Bool × List Cell × RL × List Int) :=
  match x with
  | ⟨_, out, ⟨u, _⟩, ⟨l, _⟩, rl, bs, _⟩ =>
    .ite (decide (List.length (α := Int) bs + List.length (α := Int) (U.sayR l) ≤ 140737488355328) && U.okP (List.length (α := Cell) l) l)
      (.ret (out, (u || !decide (List.length (α := Cell) l = 0)), [], r53_0, List.append (α := Int) bs (U.sayR l))) .fail
end Go.Proofs.YtmnbcnhpklejcaaDoor
namespace U
theorem sayP_at {c : Cl} {l : List Cl} {n : Nat} (h : 1 ≤ n) : sayP ((c :: l).take n) = bytesL c.1 ++ bif decide (c.1 = (⟨#[]⟩ : ByteArray)) then [32] else [] := by
  cases n with
  | zero => omega
  | succ n => rfl
theorem bytesL_len (b : ByteArray) : (bytesL b).length = b.size := by simp [bytesL]
end U
namespace Go.Proofs.YtmnbcnhpklejcaaDoor
theorem R53r0_0 (out : List ByteArray) : ∀ (k : Nat) (l : List Cell) (rl : RL) (u : Bool) (bs : List Int), U.okP k l = true → bs.length + ((U.pcs k l).flatMap U.sayP).length ≤ 140737488355328 →
    Rounds b53r0_0 ((), out, (u, ()), (l, ()), rl, bs, ()) (out, (u || !decide (l.length = 0)), [], r53_0, bs ++ (U.pcs k l).flatMap U.sayP)
  | k, [], rl, u, bs, _, _ => by
    rw [U.pcs_nil]
    refine .exit ?_
    have c0 : decide ((0 : Int) < ((([] : List Cell).length : Nat) : Int)) = false := rfl
    simp only [b53r0_0, B53r0_0, Tr.val, c0, cond_false]
    simp
  | 0, c :: l, rl, u, bs, h, _ => by simp [U.okP] at h
  | k + 1, c :: l, rl, u, bs, h, hb => by
    unfold U.okP at h
    rw [Bool.and_eq_true] at h
    obtain ⟨g1, g2⟩ := h
    have g1 : U.wd c ≤ (c :: l).length := of_decide_eq_true g1
    have g0 := U.wd_pos c
    have e1 : maxI (rget celk (c :: l) (0 : Int)).2.1 1 = ((U.wd c : Nat) : Int) := U.maxI_wd c
    have e2 : sub (c :: l) 0 (U.wd c) = (c :: l).take (U.wd c) := by unfold sub; rw [List.drop_zero]
    have e3 : sub (c :: l) (U.wd c) (c :: l).length = (c :: l).drop (U.wd c) := by unfold sub; rw [List.take_length]
    have e4 : ((c :: l).take (U.wd c)).length = U.wd c := by rw [List.length_take]; omega
    have e7 : rget celk ((c :: l).take (U.wd c)) (0 : Int) = c := by
      obtain ⟨n, hn⟩ : ∃ n, U.wd c = n + 1 := ⟨U.wd c - 1, by omega⟩
      rw [hn]; rfl
    have c0 : decide ((0 : Int) < (((c :: l).length : Nat) : Int)) = true := decide_eq_true (by simp only [List.length_cons]; omega)
    have c1 : inB (0 : Int) (c :: l).length = true := inB_nat (i := 0) (by simp)
    have c3 : inB (0 : Int) (U.wd c) = true := inB_nat (i := 0) (by omega)
    have c2 : decide ((0 : Int) ≤ ((U.wd c : Nat) : Int) ∧ ((U.wd c : Nat) : Int) ≤ (((c :: l).length : Nat) : Int)) = true := decide_eq_true (by omega)
    unfold U.pcs at hb ⊢
    rw [List.flatMap_cons, U.sayP_at g0] at hb ⊢
    have hz : (u || !decide ((c :: l).length = 0)) = true := by simp
    have hz2 : ∀ m : List Cell, (true || !decide (m.length = 0)) = true := fun m => rfl
    rw [hz]
    have ih := R53r0_0 out k ((c :: l).drop (U.wd c)) r53_0 true (bs ++ (bytesL c.1 ++ bif decide (c.1 = (⟨#[]⟩ : ByteArray)) then [32] else [])) g2 (by rw [List.length_append] at hb ⊢; omega)
    rw [hz2, List.append_assoc] at ih
    refine .step ?_ ih
    rw [List.length_append, List.length_append, U.bytesL_len] at hb
    by_cases p : c.1 = (⟨#[]⟩ : ByteArray)
    · rw [decide_eq_true p] at hb
      have hb : bs.length + (c.1.size + 1 + ((U.pcs k ((c :: l).drop (U.wd c))).flatMap U.sayP).length) ≤ 140737488355328 := hb
      have k1 : bs.length + c.1.size ≤ 140737488355328 := by omega
      have k2 : (List.append bs (bytesL c.1)).length + 1 ≤ 140737488355328 := by
        have : (List.append bs (bytesL c.1)).length = bs.length + c.1.size := by rw [← U.bytesL_len c.1]; exact List.length_append
        omega
      simp only [b53r0_0, B53r0_0, Tr.val, e1, Int.toNat_natCast, e2, e3, e4, e7, c0, c1, c2, c3, k1, k2, decide_true, cond_true]
      simp only [p, decide_true, cond_true]
      show some (Sum.inl ((), out, (true, ()), (_, ()), r53_0, (bs ++ bytesL _) ++ [32], ())) = _
      rw [List.append_assoc]
    · rw [decide_eq_false p] at hb
      have hb : bs.length + (c.1.size + 0 + ((U.pcs k ((c :: l).drop (U.wd c))).flatMap U.sayP).length) ≤ 140737488355328 := hb
      have k1 : bs.length + c.1.size ≤ 140737488355328 := by omega
      simp only [b53r0_0, B53r0_0, Tr.val, e1, Int.toNat_natCast, e2, e3, e4, e7, c0, c1, c2, c3, k1, decide_true, cond_true]
      simp only [p, decide_false, cond_false, List.append_nil]
      rfl
theorem K53r0_0 (k : Nat) (L : Nat → VS → Option (Tr (Ex × VS))) (x : q53_0.T) (h1 : ∀ y, L 0 y = p53r0_0.ls (fun a => .ite (o53r0_0 a) ((T53r0_0 a).map X53r0_0) .fail) y) : LoopOK (evI 1) (I53 (fun _ _ => none) k L x) (lc Tryd.f148 0) := by
  obtain ⟨⟨u3, u4, u5, _⟩, g0, ⟨g1, _⟩, ⟨g2, _⟩, _⟩ := x
  refine l53r0_0 (T := T53r0_0) k L u3 u4 u5 g0 g1 g2 h1 ?_
  rintro ⟨_, out, ⟨u, z1⟩, ⟨l, z2⟩, rl, bs, z3⟩ r hh
  obtain ⟨e1, e2⟩ := pre_val hh
  rw [Bool.and_eq_true] at e1
  obtain ⟨e1, gk⟩ := e1
  have e1 : bs.length + (U.sayR l).length ≤ 140737488355328 := of_decide_eq_true e1
  cases e2
  exact R53r0_0 out l.length l rl u bs gk e1
noncomputable abbrev W53 (key : Nat) (y : VS) : Option (Tr (Ex × VS)) := bif Nat.beq key 0 then p53r0_0.ls (fun a => .ite (o53r0_0 a) ((T53r0_0 a).map X53r0_0) .fail) y else none
def B53_0 (x1 : List (List Cell)) (x2 : Int) (x3 : Int) (h0 : List ByteArray) : Tr (p53_0.T ⊕ (List ByteArray)) :=
  let v1 : List Int := (U.sayR (rget (Kd.sl celk) x1 x3))
  Tr.ite (decide (x3 < x2))
    (Tr.ite (inB x3 (List.length x1))
      (Tr.ite (decide (List.length v1 ≤ (140737488355328 : Nat)) && U.okP (List.length (rget (Kd.sl celk) x1 x3)) (rget (Kd.sl celk) x1 x3))
        (Tr.ite (decide ((List.length h0 + (1 : Nat)) * (16 : Nat) ≤ (140737488355328 : Nat))) (Tr.ret (Sum.inl ((x1, x2, IntKind.wrap IntKind.i64 (x3 + (1 : Int)), ()), h0 ++ [strOf v1], ()))) Tr.fail)
        Tr.fail)
      Tr.fail)
    (Tr.ret (Sum.inr h0))
def X53_0 (r : (List ByteArray)) : Ex × VS := Prod.mk (Ex.exit ( 0)) { n := 45, v := [Slot.av (AV.one (Leaf.row ( 0)))], h := [( 0, Blk.row ( 9) Kd.str r)] }
def b53_0 : p53_0.T → Tr (p53_0.T ⊕ (List ByteArray)) := fun ⟨⟨x1, ⟨x2, ⟨x3, _⟩⟩⟩, ⟨h0, _⟩⟩ => B53_0 x1 x2 x3 h0
theorem h53_0 (ls : Nat → VS → Option (Tr (Ex × VS))) (x : p53_0.T) : (evC (evI 2) (lc Tryd.f53 0) (Env.lend (N53 ls) 0) (unV (live53 6) (p53_0.V x))).map (decL 0 (live53 6) (live53 1006)) = (b53_0 x).map (encR p53_0.V X53_0) := by
  obtain ⟨⟨x1, ⟨x2, ⟨x3, _⟩⟩⟩, ⟨h0, _⟩⟩ := x; kernel_rfl
theorem c53_0 (x : p53_0.T) : canV 0 (live53 6) (unV (live53 6) (p53_0.V x)) = p53_0.V x := by
  obtain ⟨⟨x1, ⟨x2, ⟨x3, _⟩⟩⟩, ⟨h0, _⟩⟩ := x; kernel_rfl
theorem l53_0 {T : p53_0.T → Tr (List ByteArray)} {ls : Nat → VS → Option (Tr (Ex × VS))} (hls : ∀ x, (Env.lend (N53 ls) 0).ls 6 x = p53_0.ls (fun a => (T a).map X53_0) x) (hS : ∀ x r, (T x).val = some r → Rounds b53_0 x r) : LoopOK (evI 2) (Env.lend (N53 ls) 0) (lc Tryd.f53 0) :=
  loopA 6 (live53 6) (live53 1006) p53_0 b53_0 X53_0 T (by kernel_rfl) rfl rfl hls (h53_0 ls) c53_0 hS
end Go.Proofs.YtmnbcnhpklejcaaDoor
namespace U
def okR (l : List Cl) : Bool := decide ((sayR l).length ≤ 140737488355328) && okP l.length l
end U
namespace Go.Proofs.YtmnbcnhpklejcaaDoor
def T53_0 (x : p53_0.T) : Tr (List ByteArray) :=
  match x with
  | ⟨⟨rows, n, i, _⟩, out, _⟩ => .ite (decide ((n : Int) = (List.length (α := List Cell) rows : Int) ∧ (i : Int) = 0 ∧ List.length (α := ByteArray) out + List.length (α := List Cell) rows ≤ 1048576) && List.all (α := List Cell) rows U.okR)
      (.ret (List.append (α := ByteArray) out (List.map (α := List Cell) (fun l => strOf (U.sayR l)) rows))) .fail
noncomputable abbrev E53 : Env := N53 fun key x => bif Nat.beq key 6 then p53_0.ls (fun a => (T53_0 a).map X53_0) x else none
theorem R53_0 (rows : List (List Cell)) (hl : rows.length ≤ 1048576) (ha : rows.all U.okR = true) : ∀ (k i : Nat) (out : List ByteArray), i + k = rows.length → out.length + k ≤ 1048576 →
    Rounds b53_0 ((rows, (rows.length : Int), (i : Int), ()), out, ()) (out ++ (rows.drop i).map fun l => strOf (U.sayR l))
  | 0, i, out, e, _ => by
    have e : i = rows.length := by omega
    subst e
    rw [List.drop_length]
    refine .exit ?_
    have c : decide ((rows.length : Int) < (rows.length : Int)) = false := decide_eq_false (by omega)
    simp only [b53_0, B53_0, Tr.val, c, cond_false, List.map_nil, List.append_nil]
  | k + 1, i, out, e, hb => by
    have hi : i < rows.length := by omega
    have er : rget (.sl celk) rows (i : Int) = rows[i] := by rw [rget_nat]; exact getD_el hi
    have hd : rows.drop i = rows[i] :: rows.drop (i + 1) := List.drop_eq_getElem_cons hi
    have w : IntKind.wrap IntKind.i64 ((i : Int) + 1) = ((i + 1 : Nat) : Int) := wrap64_nat (show i ≤ 1048576 by omega)
    have c1 : decide ((i : Int) < (rows.length : Int)) = true := decide_eq_true (by omega)
    have ok : U.okR rows[i] = true := List.all_eq_true.1 ha _ (List.getElem_mem hi)
    have c3 : decide ((out.length + 1) * 16 ≤ 140737488355328) = true := decide_eq_true (by omega)
    have ih := R53_0 rows hl ha k (i + 1) (out ++ [strOf (U.sayR rows[i])]) (by omega) (by rw [List.length_append, List.length_singleton]; omega)
    rw [hd, List.map_cons]
    rw [List.append_assoc, List.singleton_append] at ih
    refine .step ?_ ih
    have ok : (decide ((U.sayR rows[i]).length ≤ 140737488355328) && U.okP rows[i].length rows[i]) = true := ok
    simp only [b53_0, B53_0, Tr.val, inB_nat hi, er, w, c1, c3, ok, cond_true]
theorem L53_0 : LoopOK (evI 2) (E53.lend 0) (lc Tryd.f53 0) := by
  refine l53_0 (T := T53_0) (fun x => rfl) ?_
  rintro ⟨⟨rows, n, i, z⟩, out, z1⟩ r hh
  obtain ⟨g1, g2⟩ := pre_val hh
  rw [Bool.and_eq_true] at g1
  obtain ⟨g1, ga⟩ := g1
  have g1 : (n : Int) = (rows.length : Int) ∧ (i : Int) = 0 ∧ out.length + rows.length ≤ 1048576 := of_decide_eq_true g1
  obtain ⟨rfl, rfl, e3⟩ := g1
  cases g2
  exact R53_0 rows (by omega) ga rows.length 0 out (by omega) e3
theorem run53 (rows : List (List Cell)) (n i : Int) (out : List ByteArray) (u : Bool) (l : List Cell) :
    ((evI 2 (((E53.lend 0).told 0 W53).inner (Nat.succ 3) (yldR (evI 2 ((E53.lend 0).told 0 W53).round) (unV ((E53.lend 0).live (Nat.add 500 (loopKey (rg Tryd.f53 0).body))) (q53_0.V ((rows, n, i, ()), out, (u, ()), (l, ()), ()))).t 3)) (bodyOf Tryd.f148) (itSt ((E53.lend 0).told 0 W53) (rg Tryd.f53 0).f (unV ((E53.lend 0).live (Nat.add 500 (loopKey (rg Tryd.f53 0).body))) (q53_0.V ((rows, n, i, ()), out, (u, ()), (l, ()), ()))) Tryd.f148 3 { ps := (rg Tryd.f53 0).ps.toList, asg := (rg Tryd.f53 0).asg, body := (rg Tryd.f53 0).body })).map fun r => (r.1, canV (Nat.succ 3) { ls := [] } r.2))
    = (Tr.ite (o53r0_0 ((), out, (u, ()), (l, ()), r53_0, [], ())) (T53r0_0 ((), out, (u, ()), (l, ()), r53_0, [], ())) .fail).map fun r => match X53r0_0 r with | (.exit _, v) => (.nrm, v) | (e, v) => (e, v) := by
  kernel_rfl
theorem env53 (rows : List (List Cell)) (n i : Int) (out : List ByteArray) (u : Bool) (l : List Cell) : ((E53.lend 0).told 0 W53).inner (Nat.succ (len (unV ((E53.lend 0).live (Nat.add 500 (loopKey (rg Tryd.f53 0).body))) (q53_0.V ((rows, n, i, ()), out, (u, ()), (l, ()), ()))).h)) (yldR (evI 2 ((E53.lend 0).told 0 W53).round) (unV ((E53.lend 0).live (Nat.add 500 (loopKey (rg Tryd.f53 0).body))) (q53_0.V ((rows, n, i, ()), out, (u, ()), (l, ()), ()))).t (len (unV ((E53.lend 0).live (Nat.add 500 (loopKey (rg Tryd.f53 0).body))) (q53_0.V ((rows, n, i, ()), out, (u, ()), (l, ()), ()))).h)) = I53 (fun _ _ => none) 0 W53 ((rows, n, i, ()), out, (u, ()), (l, ()), ()) := by kernel_rfl
theorem iter53 (rows : List (List Cell)) (n i : Int) (out : List ByteArray) (u : Bool) (l : List Cell) : IterOK (evI 2) (evI 1) ((E53.lend 0).told 0 W53) (rg Tryd.f53 0).f (unV ((E53.lend 0).live (Nat.add 500 (loopKey (rg Tryd.f53 0).body))) (q53_0.V ((rows, n, i, ()), out, (u, ()), (l, ()), ()))) :=
  iterOK_of (gf := 148) (caps := [2]) (fn := Tryd.f148) (lcs := [lc Tryd.f148 0]) (by kernel_rfl) (by kernel_rfl) rfl (by kernel_rfl) (by kernel_rfl)
    (by rw [env53]; exact K53r0_0 0 W53 _ fun y => rfl)
theorem range53 : RangeOK (evI 2) (E53.lend 0) (rg Tryd.f53 0) := by
  intro x tr rr h1 h2
  have h1 : q53_0.ls T53 x = some tr := h1
  unfold LP.ls at h1
  split at h1
  · rename_i a ha
    cases h1
    rw [LP.get_eq ha]
    clear ha
    obtain ⟨⟨rows, n, i, z⟩, out, ⟨u, z0⟩, ⟨l, z1⟩, z2⟩ := a
    obtain ⟨g1, g2⟩ := pre_val h2
    rw [Bool.and_eq_true] at g1
    obtain ⟨g1, gk⟩ := g1
    have g1 : (U.sayR l).length ≤ 140737488355328 := of_decide_eq_true g1
    have gk : U.okP l.length l = true := gk
    have hi := congrArg Tr.val (run53 rows n i out u l)
    have t0 : (Tr.ite (o53r0_0 ((), out, (u, ()), (l, ()), r53_0, [], ())) (T53r0_0 ((), out, (u, ()), (l, ()), r53_0, [], ())) .fail).val = some (out, (u || !decide (l.length = 0)), [], r53_0, U.sayR l) := by
      simp only [o53r0_0, isRL_self, T53r0_0, Tr.val, g1, gk, List.length_nil, Nat.zero_add, decide_true, Bool.and_self, cond_true]
      rfl
    have hi := hi.trans ((Tr.map_val _ _).trans (congrArg (Option.map _) t0))
    clear t0
    cases g2
    exact ⟨0, W53, _, iter53 rows n i out u l, range_run (k0 := 2) (g := 148) (caps := [2]) (fn := Tryd.f148) (c := bodyOf Tryd.f148) (m := 3) (by kernel_rfl) (by kernel_rfl) rfl (by kernel_rfl) (by kernel_rfl) hi (.inl rfl) (pe := none) (rl' := r53_0) rfl rfl, Prod.ext rfl (by kernel_rfl)⟩
  · cases h1
def d53 (a : List Line) : Tr (List ByteArray × Int) :=
  let v1 : List (List Cell) × Int := (bif U.may a then (U.joinL a [], (0 : Int)) else ([], (1 : Int)))
  let v2 : List (List Cell) := (v1.fst)
  let v3 : Int := (v1.snd)
  let v4 : Int := ((↑(List.length v2) : Int))
  let v5 : Int := ((↑(List.length v2) : Int))
  Tr.ite (U.okl a && decide (U.cells a ≤ (1048576 : Nat)))
    (Tr.ite (!decide (v3 = (0 : Int))) (Tr.ret ([], v3))
      (Tr.ite (decide (v5 = v4 ∧ (0 : Int) = (0 : Int) ∧ (0 : Nat) + List.length v2 ≤ (1048576 : Nat)) && List.all v2 U.okR)
        (Tr.ret (List.append [] (List.map (fun (l : List Cell) => strOf (U.sayR l)) v2), (0 : Int))) Tr.fail))
    Tr.fail
def e53 (r : List ByteArray × Int) : FRes := { rs := Slot.tup [AV.one (Leaf.dat (Kd.sl Kd.str) r.fst), AV.one (Leaf.dat (.int .i64) r.snd)], upd := [], new := [] }
@[reducible] def a53 : List AK := [AK.d (Kd.sl link)]
@[reducible] def b53 : List BK := []
theorem t53 (a : List Line) : evFn (E53) Tryd.f53 [PM.data (Kd.sl Kd.str), PM.data (.int .i64)] (akAV a53 (a, ())) (bkBs b53 ()) = (d53 a).map e53 := by kernel_rfl
def s53 (C : akT a53 → Bool) (G : akT a53 → List ByteArray × Int) : FSpec := aspec a53 b53 e53 (fun x _ => C x) (fun x _ => G x)
theorem k53 {C : akT a53 → Bool} {G : akT a53 → List ByteArray × Int} (hd : ∀ (a : List Line), C (a, ()) = true → (d53 a).val = some (G (a, ()))) (IO : ItOK Tryd.prog (E53) := by exact itOK_none rfl) (L : ∀ c, Tryd.f53.body = some c → LsOK (evI 2) ((E53).lend 0) c := by exact fun c _ => LsOK_none rfl c) : SpecOK Tryd.prog E0 53 (s53 C G) :=
  aspec_ok (ak := a53) (bl := b53) (e := e53) (c := fun x _ => C x) (g := fun x _ => G x) (E0 := E0) (E := E53) tab AG53 rfl rfl hm Tryd.func53 (by kernel_rfl) [PM.data (Kd.sl Kd.str), PM.data (.int .i64)] (fun X Y H => by obtain ⟨a, _⟩ := X; exact val_of (t53 a) (hd a H)) IO L
theorem IO53 : ItOK Tryd.prog E53 := itOK_of (l := [(148, Tryd.f148)]) rfl (by
  intro p hp
  rw [List.mem_singleton] at hp
  subst hp
  exact ⟨Tryd.func148, by kernel_rfl⟩)
abbrev w53 : FSpec := s53 (fun x => U.okl x.1 && (decide (U.cells x.1 ≤ 1048576) && (!U.may x.1 || (decide (List.length (α := List Cell) (U.joinL x.1 []) ≤ 1048576) && List.all (α := List Cell) (U.joinL x.1 []) U.okR))))
  fun x => bif U.may x.1 then (List.map (α := List Cell) (fun l => strOf (U.sayR l)) (U.joinL x.1 []), (0 : Int)) else ([], (1 : Int))
theorem wk53 : SpecOK Tryd.prog E0 53 w53 := by
  refine k53 (fun l H => ?_) IO53 (L := ls_ok (lcs := [lc Tryd.f53 0]) (rgs := [rg Tryd.f53 0]) (by kernel_rfl) (by kernel_rfl) L53_0 range53)
  have H : (U.okl l && (decide (U.cells l ≤ 1048576) && (!U.may l || (decide ((U.joinL l []).length ≤ 1048576) && (U.joinL l []).all U.okR)))) = true := H
  rw [Bool.and_eq_true, Bool.and_eq_true] at H
  obtain ⟨gk, g2, g3⟩ := H
  show _ = some (bif U.may l then ((U.joinL l []).map (fun l => strOf (U.sayR l)), (0 : Int)) else ([], (1 : Int)))
  cases hm : U.may l with
  | false => simp only [d53, Tr.val, gk, g2, hm, Bool.and_self, cond_true, cond_false, show ¬ ((1 : Int) = 0) by decide, decide_false, Bool.not_false]
  | true =>
    rw [hm] at g3
    have g3 : (decide ((U.joinL l []).length ≤ 1048576) && (U.joinL l []).all U.okR) = true := g3
    rw [Bool.and_eq_true] at g3
    have g4 : (U.joinL l []).length ≤ 1048576 := of_decide_eq_true g3.1
    simp only [d53, Tr.val, gk, g2, hm, g3.2, g4, Nat.zero_add, and_self, Bool.and_self, cond_true, cond_false, decide_true, Bool.not_true]
    rfl
def d54 : Tr (Bool) :=
  Tr.ite true
    (Tr.ite true
      (Tr.ite true
        (Tr.ite true
          (Tr.ite true (Tr.ite true (Tr.ite true (Tr.ite true (Tr.ite true (Tr.ite true (Tr.ite true (Tr.ret true) Tr.fail) (Tr.ret false)) (Tr.ret false)) Tr.fail) (Tr.ret false)) Tr.fail)
            (Tr.ret false))
          (Tr.ret false))
        (Tr.ret false))
      Tr.fail)
    Tr.fail
def e54 (r : Bool) : FRes := { rs := Slot.av (AV.one (Leaf.dat Kd.bool r)), upd := [], new := [] }
@[reducible] def a54 : List AK := []
@[reducible] def b54 : List BK := []
theorem t54 : evFn (Env.withFns E0 [((69 : Nat), w69), ((53 : Nat), w53)]) Tryd.f54 [PM.data Kd.bool] (akAV a54 ()) (bkBs b54 ()) = (d54).map e54 := by kernel_rfl
def s54' (G : akT a54 → Bool) : FSpec := aspec0 a54 b54 e54 (fun x _ => G x)
theorem k54' {G : akT a54 → Bool} (hd : (d54).val = some (G ())) (IO : ItOK Tryd.prog (Env.withFns E0 [((69 : Nat), w69), ((53 : Nat), w53)]) := by exact itOK_none rfl) (L : ∀ c, Tryd.f54.body = some c → LsOK (evI 2) ((Env.withFns E0 [((69 : Nat), w69), ((53 : Nat), w53)]).lend 0) c := by exact fun c _ => LsOK_none rfl c) : SpecOK Tryd.prog E0 54 (s54' G) :=
  aspec0_ok (ak := a54) (bl := b54) (e := e54) (g := fun x _ => G x) (E0 := E0) (E := Env.withFns E0 [((69 : Nat), w69), ((53 : Nat), w53)]) tab (.cons wk69 (.cons wk53 .nil)) rfl rfl hm Tryd.func54 (by kernel_rfl) [PM.data Kd.bool] (fun X Y => by exact val_of (t54) (hd)) IO L
abbrev w54 : FSpec := s54' fun _ => true
theorem wk54 : SpecOK Tryd.prog E0 54 w54 := k54' rfl
end Go.Proofs.YtmnbcnhpklejcaaDoor

end
