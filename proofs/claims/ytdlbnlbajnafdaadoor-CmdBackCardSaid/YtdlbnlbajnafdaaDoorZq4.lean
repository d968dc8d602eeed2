/- Part 4 of what the proof leans on: an evaluator of Go code over plain data, with its soundness; contracts of functions; laws of plain data. -/
import Derived.Test.YtdlbnlbajnafdaaDoorZq3
section
set_option linter.unusedVariables false
set_option linter.unusedSimpArgs false
set_option maxRecDepth 20000
set_option maxHeartbeats 4000000
open Go Go.Ev
namespace Go.Proofs.YtdlbnlbajnafdaaDoor
namespace Cm
theorem bytesL_app (a b : ByteArray) : bytesL (a ++ b) = bytesL a ++ bytesL b := by
  unfold bytesL
  rw [ByteArray.data_append, Array.toList_append, List.map_append]
theorem bytes_strOf {s : ByteArray} : strOf (bytesL s) = s := U.strOf_bytes s
def endR (r : List Int) : Prop := r = [] ∨ ∃ q, r = 32 :: q
theorem endR_bad {r : List Int} (h : endR r) : badR r = false := by
  rcases h with rfl | ⟨q, rfl⟩ <;> rfl
theorem cut_pad : ∀ (k : Nat) (l : List Int), cutV (List.replicate k 32 ++ l) = cutV l
  | 0, l => rfl
  | k + 1, l => by rw [List.replicate_succ, List.cons_append, cutV_32, cut_pad k l]
theorem cut_pad0 (k : Nat) : cutV (List.replicate k 32) = ([], true) := by
  have := cut_pad k []
  rw [List.append_nil] at this
  rw [this]; rfl
theorem take_word : ∀ (w r : List Int), (∀ c ∈ w, c ≠ 32) → endR r → (w ++ r).takeWhile notB = w ∧ (w ++ r).dropWhile notB = r
  | [], r, _, h => by
    rcases h with rfl | ⟨q, rfl⟩
    · exact ⟨rfl, rfl⟩
    · exact ⟨by rw [List.nil_append, List.takeWhile_cons]; rfl, by rw [List.nil_append, List.dropWhile_cons]; rfl⟩
  | c :: w, r, hw, h => by
    have h1 : notB c = true := by unfold notB; rw [decide_eq_false (hw c (List.mem_cons_self ..))]; rfl
    obtain ⟨a, b⟩ := take_word w r (fun c hc => hw c (List.mem_cons_of_mem _ hc)) h
    rw [List.cons_append, List.takeWhile_cons, List.dropWhile_cons, h1, if_pos rfl, if_pos rfl, a, b]
    exact ⟨rfl, rfl⟩
def isWd (w : List Int) : Bool := match w with | [] => false | c :: _ => !decide (c = 34) && w.all fun c => !decide (c = 32)
theorem cut_word {s : ByteArray} {r : List Int} (h : isWd (bytesL s) = true) (hr : endR r) : cutV (bytesL s ++ r) = ((s, false, ()) :: (cutV r).1, (cutV r).2) := by
  have e := @bytes_strOf s
  cases hb : bytesL s with
  | nil => rw [hb] at h; cases h
  | cons c w =>
    rw [hb] at h e
    unfold isWd at h
    simp only [Bool.and_eq_true, Bool.not_eq_true', decide_eq_false_iff_not, List.all_eq_true] at h
    obtain ⟨h1, h2⟩ := h
    obtain ⟨t1, t2⟩ := take_word w r (fun c hc => h2 c (List.mem_cons_of_mem _ hc)) hr
    rw [List.cons_append, cutV_p _ (h2 c (List.mem_cons_self ..)) h1, t1, t2, e]
theorem quo_esc : ∀ (l r : List Int), quoN (escL l ++ 34 :: r) = some (l, r)
  | [], [] => rfl
  | [], d :: r => rfl
  | c :: l, r => by
    have ih := quo_esc l r
    unfold escL at ih ⊢
    rw [List.flatMap_cons]
    unfold esc1
    by_cases h1 : c = 34
    · subst h1
      show quoN (92 :: 34 :: (l.flatMap esc1 ++ 34 :: r)) = _
      unfold quoN
      rw [decide_eq_true rfl, cond_true]
      unfold esc1
      rw [show (l.flatMap fun c => bif decide (c = 34) || decide (c = 92) then [92, c] else [c]) = l.flatMap esc1 from rfl, ih]
      rfl
    · by_cases h2 : c = 92
      · subst h2
        show quoN (92 :: 92 :: (l.flatMap esc1 ++ 34 :: r)) = _
        unfold quoN
        rw [decide_eq_true rfl, cond_true, ih]
        rfl
      · rw [decide_eq_false h1, decide_eq_false h2, Bool.or_self, cond_false]
        show quoN (c :: (l.flatMap esc1 ++ 34 :: r)) = _
        cases hn : l.flatMap esc1 ++ 34 :: r with
        | nil => rw [hn] at ih; cases ih
        | cons d t =>
          rw [hn] at ih
          unfold quoN
          rw [decide_eq_false h1, decide_eq_false h2, cond_false, cond_false, ih]
          rfl
theorem strOf_cons_back (s : ByteArray) : bytesL (quoB s) = quoI (bytesL s) := by
  have hb : ∀ c ∈ quoI (bytesL s), 0 ≤ c ∧ c < 256 := by
    intro c hc
    have hs : ∀ c ∈ bytesL s, 0 ≤ c ∧ c < 256 := by
      intro c hc
      unfold bytesL at hc
      obtain ⟨b, _, rfl⟩ := List.mem_map.1 hc
      exact ⟨by omega, by have := b.toNat_lt; omega⟩
    unfold quoI at hc
    rw [List.mem_append, List.mem_cons, List.mem_singleton] at hc
    rcases hc with (rfl | hc) | rfl
    · omega
    · unfold escL at hc
      rw [List.mem_flatMap] at hc
      obtain ⟨d, hd, hc⟩ := hc
      unfold esc1 at hc
      have := hs d hd
      cases hq : decide (d = 34) || decide (d = 92) <;> rw [hq] at hc
      · rw [cond_false, List.mem_singleton] at hc; subst hc; exact this
      · rw [cond_true, List.mem_cons, List.mem_singleton] at hc
        rcases hc with rfl | rfl
        · omega
        · exact this
    · omega
  unfold quoB
  generalize quoI (bytesL s) = l at hb
  unfold bytesL strOf
  show List.map _ (List.map _ l) = l
  rw [List.map_map]
  conv => rhs; rw [← List.map_id l]
  refine List.map_congr_left fun c hc => ?_
  have := hb c hc
  show (((UInt8.ofNat c.toNat).toNat : Nat) : Int) = c
  rw [UInt8.toNat_ofNat']
  omega
theorem cut_quo {s : ByteArray} {r : List Int} (hr : endR r) : cutV (bytesL (quoB s) ++ r) = ((s, true, ()) :: (cutV r).1, (cutV r).2) := by
  rw [strOf_cons_back]
  unfold quoI
  rw [List.cons_append, List.cons_append, List.append_assoc, cutV_q, List.singleton_append, quo_esc]
  simp only [endR_bad hr, cond_false, bytes_strOf]
theorem wd_itoa : ∀ n : Fin 2001, isWd (bytesL (itoaB ((n.val : Int) - 1000))) = true := by decide +kernel
theorem wd_near {n : Int} (h : near n = true) : isWd (bytesL (itoaB n)) = true := by
  obtain ⟨h1, h2⟩ := near_iff.1 h
  have := wd_itoa ⟨(n + 1000).toNat, by omega⟩
  rw [show (((n + 1000).toNat : Nat) : Int) - 1000 = n by omega] at this
  exact this
theorem wd_truth (b : Bool) : isWd (bytesL (truth b)) = true := by cases b <;> decide +kernel
theorem wd_words : ∀ n : Fin 22, n.val ≠ 0 → isWd (bytesL (wordOf (n.val : Int))) = true ∧ findN (isW U.wordsL (wordOf (n.val : Int))) 22 0 = some n.val := by decide +kernel
theorem wd_word {op : Int} (h : inB op 22 = true) (h1 : 1 ≤ op) : isWd (bytesL (wordOf op)) = true ∧ findN (isW U.wordsL (wordOf op)) 22 0 = some op.toNat := by
  obtain ⟨n, rfl⟩ := Int.eq_ofNat_of_zero_le (inB_iff.1 h).1
  exact wd_words ⟨n, Int.ofNat_lt.1 (inB_iff.1 h).2⟩ (by show n ≠ 0; omega)
theorem cut_text {op a b : Int} {on : Bool} {t : ByteArray} (hr : rightV op a b on t = true) (m : Nat) : cutV (bytesL (textV op a b on t) ++ List.replicate m 32) =
    ((wordOf op, false, ()) :: (bif decide (hOf op = 1) then [(itoaB a, false, ())] else bif decide (hOf op = 2) then [(itoaB a, false, ()), (itoaB b, false, ())] else bif decide (hOf op = 3) then [(truth on, false, ())] else
      bif decide (hOf op = 4) then [(t, true, ())] else []), true) := by
  obtain ⟨hi, h1, ha, hb, ht, hv⟩ := right_iff hr
  obtain ⟨w1, _⟩ := wd_word hi h1
  have wa := wd_near ha
  have wb := wd_near hb
  have e0 : endR (List.replicate m 32) := by cases m with | zero => exact .inl rfl | succ m => exact .inr ⟨_, List.replicate_succ⟩
  have es : bytesL sp = [32] := by decide +kernel
  have es2 : ∀ r : List Int, endR (32 :: r) := fun r => .inr ⟨r, rfl⟩
  unfold textV
  obtain ⟨_, _, h3⟩ := has_str hi
  rcases h3 with e | e | e | e | e <;> rw [e]
  · show cutV (bytesL (wordOf op) ++ _) = ((wordOf op, false, ()) :: [], true)
    rw [cut_word w1 e0, cut_pad0]
  · show cutV (bytesL (wordOf op ++ sp ++ itoaB a) ++ _) = ((wordOf op, false, ()) :: [(itoaB a, false, ())], true)
    rw [bytesL_app, bytesL_app, es, List.append_assoc, List.append_assoc, List.singleton_append, cut_word w1 (es2 _), cutV_32, cut_word wa e0, cut_pad0]
  · show cutV (bytesL (wordOf op ++ sp ++ itoaB a ++ sp ++ itoaB b) ++ _) = ((wordOf op, false, ()) :: [(itoaB a, false, ()), (itoaB b, false, ())], true)
    rw [bytesL_app, bytesL_app, bytesL_app, bytesL_app, es]
    simp only [List.append_assoc, List.singleton_append, List.cons_append, List.nil_append]
    rw [cut_word w1 (es2 _), cutV_32, cut_word wa (es2 _), cutV_32, cut_word wb e0, cut_pad0]
  · show cutV (bytesL (wordOf op ++ sp ++ truth on) ++ _) = ((wordOf op, false, ()) :: [(truth on, false, ())], true)
    rw [bytesL_app, bytesL_app, es, List.append_assoc, List.append_assoc, List.singleton_append, cut_word w1 (es2 _), cutV_32, cut_word (wd_truth on) e0, cut_pad0]
  · show cutV (bytesL (wordOf op ++ sp ++ quoB t) ++ _) = ((wordOf op, false, ()) :: [(t, true, ())], true)
    rw [bytesL_app, bytesL_app, es, List.append_assoc, List.append_assoc, List.singleton_append, cut_word w1 (es2 _), cutV_32, cut_quo e0, cut_pad0]
theorem endV_ok {op a b : Int} {on : Bool} {t : ByteArray} (hr : rightV op a b on t = true) : endV (true, op, a, b, on, t) = (op, a, b, on, t, 0) := by
  unfold endV
  simp only [hr, Bool.and_self, cond_true]
theorem bytes_blank (k : Nat) : bytesL (strOf (List.replicate k 32)) = List.replicate k 32 := by
  unfold bytesL strOf
  show List.map _ (List.map _ (List.replicate k (32 : Int))) = _
  rw [List.map_replicate, List.map_replicate]
  rfl
theorem num_ok {n : Int} (h : near n = true) : numV (itoaB n) false = (n, true) := by
  unfold numV
  rw [(num_near h).2]
  simp
theorem back_text {op a b : Int} {on : Bool} {t : ByteArray} (hr : rightV op a b on t = true) (l : List Int) (hl : cutV l = cutV (bytesL (textV op a b on t) ++ List.replicate 0 32)) : parseL (okV (cutV l)) = (op, a, b, on, t, 0) := by
  obtain ⟨hi, h1, ha, hb, ht, hv⟩ := right_iff hr
  obtain ⟨_, w2⟩ := wd_word hi h1
  obtain ⟨s1, s2, h3⟩ := has_str hi
  have hr' := hr
  rw [hl, cut_text hr]
  have ho : ((op.toNat : Nat) : Int) = op := by omega
  have hg : U.wordsL.getD op.toNat dW = rget wordk U.wordsL op := by rw [← ho, rgetW]; rfl
  unfold rightV at hr'
  simp only [Bool.and_eq_true, Bool.or_eq_true, decide_eq_true_eq, Bool.not_eq_true'] at hr'
  obtain ⟨_, _, _, _, _, _, r1, r2, r3, r4⟩ := hr'
  unfold okV parseL
  simp only [cond_true, Bool.not_true, cond_false, w2]
  unfold opV
  rw [hg, s1, ho]
  have f1 : decide ((0 : Int) = 1) = false := rfl
  rcases h3 with e | e | e | e | e <;> rw [e] at r1 r2 r3 r4 ⊢
  · have e1 : a = 0 := by rcases r1 with h | h | h; exact absurd h (by decide); exact absurd h (by decide); exact h
    have e2 : b = 0 := by rcases r2 with h | h; exact absurd h (by decide); exact h
    have e3 : on = false := by rcases r3 with h | h; exact absurd h (by decide); exact h
    have e4 : t = ⟨#[]⟩ := by rcases r4 with h | h; exact absurd h (by decide); exact h
    subst e1; subst e2; subst e3; subst e4
    show endV (true, op, 0, 0, false, ByteArray.empty) = _
    exact endV_ok hr
  · have e2 : b = 0 := by rcases r2 with h | h; exact absurd h (by decide); exact h
    have e3 : on = false := by rcases r3 with h | h; exact absurd h (by decide); exact h
    have e4 : t = ⟨#[]⟩ := by rcases r4 with h | h; exact absurd h (by decide); exact h
    subst e2; subst e3; subst e4
    have q2 : readsI [65] [(wordOf op, false, ()), (itoaB a, false, ())] 1 (op, 0, 0, false, ByteArray.empty) = (true, op, a, 0, false, ByteArray.empty) :=
      read1 65 _ _ _ true (by show ((numV (itoaB a) false).2, op, (numV (itoaB a) false).1, (0 : Int), false, ByteArray.empty) = _; rw [num_ok ha])
    show endV (readsI [65] [(wordOf op, false, ()), (itoaB a, false, ())] 1 (op, 0, 0, false, ByteArray.empty)) = _
    rw [q2]
    exact endV_ok hr
  · have e3 : on = false := by rcases r3 with h | h; exact absurd h (by decide); exact h
    have e4 : t = ⟨#[]⟩ := by rcases r4 with h | h; exact absurd h (by decide); exact h
    subst e3; subst e4
    have q2 : readsI [65, 66] [(wordOf op, false, ()), (itoaB a, false, ()), (itoaB b, false, ())] 1 (op, 0, 0, false, ByteArray.empty) = (true, op, a, b, false, ByteArray.empty) :=
      read2 65 66 _ _ (op, a, 0, false, ByteArray.empty) _ true true (by show ((numV (itoaB a) false).2, op, (numV (itoaB a) false).1, (0 : Int), false, ByteArray.empty) = _; rw [num_ok ha])
        (by show ((numV (itoaB b) false).2, op, a, (numV (itoaB b) false).1, false, ByteArray.empty) = _; rw [num_ok hb])
    show endV (readsI [65, 66] [(wordOf op, false, ()), (itoaB a, false, ()), (itoaB b, false, ())] 1 (op, 0, 0, false, ByteArray.empty)) = _
    rw [q2]
    exact endV_ok hr
  · have e1 : a = 0 := by rcases r1 with h | h | h; exact absurd h (by decide); exact absurd h (by decide); exact h
    have e2 : b = 0 := by rcases r2 with h | h; exact absurd h (by decide); exact h
    have e4 : t = ⟨#[]⟩ := by rcases r4 with h | h; exact absurd h (by decide); exact h
    subst e1; subst e2; subst e4
    have q2 : readsI [111] [(wordOf op, false, ()), (truth on, false, ())] 1 (op, 0, 0, false, ByteArray.empty) = (true, op, 0, 0, on, ByteArray.empty) :=
      read1 111 _ _ _ true (by cases on <;> rfl)
    show endV (readsI [111] [(wordOf op, false, ()), (truth on, false, ())] 1 (op, 0, 0, false, ByteArray.empty)) = _
    rw [q2]
    exact endV_ok hr
  · have e1 : a = 0 := by rcases r1 with h | h | h; exact absurd h (by decide); exact absurd h (by decide); exact h
    have e2 : b = 0 := by rcases r2 with h | h; exact absurd h (by decide); exact h
    have e3 : on = false := by rcases r3 with h | h; exact absurd h (by decide); exact h
    subst e1; subst e2; subst e3
    have q2 : readsI [116] [(wordOf op, false, ()), (t, true, ())] 1 (op, 0, 0, false, ByteArray.empty) = (true, op, 0, 0, false, t) := read1 116 _ _ _ true rfl
    show endV (readsI [116] [(wordOf op, false, ()), (t, true, ())] 1 (op, 0, 0, false, ByteArray.empty)) = _
    rw [q2]
    exact endV_ok hr
theorem parse_text {op a b : Int} {on : Bool} {t : ByteArray} (hr : rightV op a b on t = true) (k m : Nat) : parseV (strOf (List.replicate k 32) ++ textV op a b on t ++ strOf (List.replicate m 32)) = (op, a, b, on, t, 0) := by
  unfold parseV
  refine back_text hr _ ?_
  rw [bytesL_app, bytesL_app, bytes_blank, bytes_blank, List.append_assoc, cut_pad, cut_text hr m, cut_text hr 0]
theorem parse_pad (k : Nat) (s : ByteArray) : parseV (strOf (List.replicate k 32) ++ s) = parseV s := by
  unfold parseV
  rw [bytesL_app, bytes_blank, cut_pad]
theorem parse_right {s : ByteArray} : (parseV s).2.2.2.2.2 = 0 ∧ rightV (parseV s).1 (parseV s).2.1 (parseV s).2.2.1 (parseV s).2.2.2.1 (parseV s).2.2.2.2.1 = true ∨ parseV s = errV 4 ∨ parseV s = errV 5 := by
  have hE : ∀ y : Bool × C5, (endV y).2.2.2.2.2 = 0 ∧ rightV (endV y).1 (endV y).2.1 (endV y).2.2.1 (endV y).2.2.2.1 (endV y).2.2.2.2.1 = true ∨ endV y = errV 4 ∨ endV y = errV 5 := fun y => by
    unfold endV
    cases h : y.1 && rightV y.2.1 y.2.2.1 y.2.2.2.1 y.2.2.2.2.1 y.2.2.2.2.2 with
    | false => exact .inr (.inl rfl)
    | true => rw [Bool.and_eq_true] at h; exact .inl ⟨rfl, h.2⟩
  unfold parseV parseL
  cases (okV (cutV (bytesL s))).2 with
  | false => exact .inr (.inl rfl)
  | true =>
    simp only [Bool.not_true, cond_false]
    cases (okV (cutV (bytesL s))).1 with
    | nil => exact .inr (.inr rfl)
    | cons p r =>
      simp only []
      cases p.2.1 with
      | true => exact .inr (.inr rfl)
      | false =>
        simp only [cond_false]
        cases findN (isW U.wordsL p.1) 22 0 with
        | none => exact .inr (.inr rfl)
        | some op =>
          simp only []
          unfold opV
          cases decide ((p :: r).length = 1 + (U.wordsL.getD op dW).2.1.size) with
          | false => exact .inr (.inl rfl)
          | true => exact hE _
end Cm
end Go.Proofs.YtdlbnlbajnafdaaDoor
end
section
set_option linter.unusedVariables false
set_option linter.unusedSimpArgs false
set_option maxRecDepth 20000
set_option maxHeartbeats 4000000
open Go Go.Ev
namespace Go.Proofs.YtdlbnlbajnafdaaDoor
namespace Cm
def e37 (r : ByteArray) : FRes := { rs := Slot.av (AV.one (Leaf.dat Kd.str r)), upd := [], new := [] }
abbrev E37 : Env := (E0.withFns [(86, w86), (87, w87)]).loops (fun _ => { ls := [] }) fun _ _ => none
abbrev w37 : FSpec := aspec [.d .str, .d (.int .i64)] [] e37 (fun x _ => decide (x.1 = sp ∧ 0 ≤ (x.2.1 : Int) ∧ (x.2.1 : Int) ≤ 4)) fun x _ => strOf (List.replicate (Int.toNat x.2.1) 32)
theorem wk37 : SpecOK Tryd.prog E0 37 w37 :=
  aspec_ok (ak := [.d .str, .d (.int .i64)]) (bl := []) (e := e37) (c := fun x _ => decide (x.1 = sp ∧ 0 ≤ (x.2.1 : Int) ∧ (x.2.1 : Int) ≤ 4)) (g := fun x _ => strOf (List.replicate (Int.toNat x.2.1) 32)) (E0 := E0) (E := E37) tab
    (.cons wk86 (.cons wk87 .nil)) rfl rfl hm Tryd.func37 (by kernel_rfl) [.data .str] (fun X Y H => by
      obtain ⟨s, n, u⟩ := X
      obtain ⟨e, h1, h2⟩ : s = sp ∧ 0 ≤ (n : Int) ∧ (n : Int) ≤ 4 := of_decide_eq_true H
      have e : s = sp := e
      have n5 : ∀ n : Int, 0 ≤ n → n ≤ 4 → n = 0 ∨ n = 1 ∨ n = 2 ∨ n = 3 ∨ n = 4 := fun n _ _ => by omega
      have n5 := n5 n h1 h2
      subst e
      rcases n5 with e | e | e | e | e <;> subst e
      · exact (by kernel_rfl : (evFn E37 Tryd.f37 [.data .str] (akAV [.d .str, .d (.int .i64)] (sp, (0 : Int), ())) (bkBs [] ())).val = some (e37 (strOf (List.replicate (Int.toNat 0) 32))))
      · exact (by kernel_rfl : (evFn E37 Tryd.f37 [.data .str] (akAV [.d .str, .d (.int .i64)] (sp, (1 : Int), ())) (bkBs [] ())).val = some (e37 (strOf (List.replicate (Int.toNat 1) 32))))
      · exact (by kernel_rfl : (evFn E37 Tryd.f37 [.data .str] (akAV [.d .str, .d (.int .i64)] (sp, (2 : Int), ())) (bkBs [] ())).val = some (e37 (strOf (List.replicate (Int.toNat 2) 32))))
      · exact (by kernel_rfl : (evFn E37 Tryd.f37 [.data .str] (akAV [.d .str, .d (.int .i64)] (sp, (3 : Int), ())) (bkBs [] ())).val = some (e37 (strOf (List.replicate (Int.toNat 3) 32))))
      · exact (by kernel_rfl : (evFn E37 Tryd.f37 [.data .str] (akAV [.d .str, .d (.int .i64)] (sp, (4 : Int), ())) (bkBs [] ())).val = some (e37 (strOf (List.replicate (Int.toNat 4) 32))))) (itOK_none rfl) (fun c _ => LsOK_none rfl c)
abbrev G8 : List (Nat × FSpec) := [(30, w30), (31, w31), (27, w27), (37, w37), (33, w33), (29, w29)]
theorem AG8 : AllFn Tryd.prog E0 G8 := .cons wk30 (.cons wk31 (.cons wk27 (.cons wk37 (.cons wk33 (.cons wk29 .nil)))))
def d8 (xa1 : Int) (xa2 : Int) (xa3 : Int) (xa4 : Bool) (xa5 : ByteArray) (xb : ByteArray) (xc : Int) (xd : Int) : Tr (Bool) :=
 let v1 : Int := (minI (↑(ByteArray.size xb) : Int) (200 : Int))
 let v2 : ByteArray := (ByteArray.extract xa5 (0 : Nat) (70 : Nat))
 let v3 : ByteArray × Int := (printV xa1 xa2 xa3 xa4 v2)
 let v4 : ByteArray := (ByteArray.extract xb (0 : Nat) (Int.toNat v1))
 let v5 : ByteArray := (v3.fst)
 let v6 : Int := (v3.snd)
 let v7 : Int := (Int.tmod (IntKind.wrap IntKind.i64 (Int.tmod xd (5 : Int) + (5 : Int))) (5 : Int))
 let v8 : Int := (Int.tmod (IntKind.wrap IntKind.i64 (Int.tmod xc (5 : Int) + (5 : Int))) (5 : Int))
 let v9 : Int × Int × Bool × ByteArray × Int := ((parseV v4).snd)
 let v10 : Int := ((parseV v4).fst)
 let v11 : Int := ((parseV v5).fst)
 let v12 : Int × Int × Bool × ByteArray × Int := ((parseV v5).snd)
 let v13 : ByteArray := (strOf (List.replicate (Int.toNat v7) (32 : Int)))
 let v14 : ByteArray := (strOf (List.replicate (Int.toNat v8) (32 : Int)))
 let v15 : Int := (v9.fst)
 let v16 : Int × Bool × ByteArray × Int := (v9.snd)
 let v17 : Int := (v12.fst)
 let v18 : Int × Bool × ByteArray × Int := (v12.snd)
 let v19 : Bool × ByteArray × Int := (v16.snd)
 let v20 : Int := (v16.fst)
 let v21 : Int := (v18.fst)
 let v22 : Bool × ByteArray × Int := (v18.snd)
 let v23 : Bool := (v19.fst)
 let v24 : ByteArray × Int := (v19.snd)
 let v25 : ByteArray × Int := (v22.snd)
 let v26 : ByteArray := (v24.fst)
 let v27 : Int := (v24.snd)
 let v28 : Int := (v25.snd)
 let v29 : ByteArray := (v25.fst)
 let v30 : ByteArray := (v14 ++ v4)
 let v31 : ByteArray := (v14 ++ v5)
 let v32 : Int × Int × Bool × ByteArray × Int := ((parseV v30).snd)
 let v33 : Int := ((parseV v30).fst)
 let v34 : Int × Bool × ByteArray × Int := (v32.snd)
 let v35 : Int := (v32.fst)
 let v36 : Int := (v34.fst)
 let v37 : Bool × ByteArray × Int := (v34.snd)
 let v38 : ByteArray × Int := (v37.snd)
 let v39 : ByteArray := (v38.fst)
 let v40 : Int := (v38.snd)
 let v41 : ByteArray := (v31 ++ v13)
 let v42 : Int := ((parseV v41).fst)
 let v43 : Int × Int × Bool × ByteArray × Int := ((parseV v41).snd)
 let v44 : Bool := (decide (ByteArray.size v26 ≤ (1048576 : Nat)))
 let v45 : Int × Bool × ByteArray × Int := (v43.snd)
 let v46 : Int := (v43.fst)
 let v47 : Bool × ByteArray × Int := (v45.snd)
 let v48 : Int := (v45.fst)
 let v49 : ByteArray × Int := (v47.snd)
 let v50 : ByteArray := (v49.fst)
 let v51 : Int := (v49.snd)
 let v52 : ByteArray × Int := (printV v10 v15 v20 v23 v26)
 let v53 : Int := (v52.snd)
 let v54 : ByteArray := (v52.fst)
 let v55 : Int := ((parseV v54).fst)
 let v56 : Int × Int × Bool × ByteArray × Int := ((parseV v54).snd)
 let v57 : Int × Bool × ByteArray × Int := (v56.snd)
 let v58 : Int := (v56.fst)
 let v59 : Bool × ByteArray × Int := (v57.snd)
 let v60 : Int := (v57.fst)
 let v61 : ByteArray × Int := (v59.snd)
 let v62 : Int := (v61.snd)
 let v63 : ByteArray := (v61.fst)
 let v64 : Bool := (decide ({ data := #[OfNat.ofNat (32 : Nat)] } = sp ∧ (0 : Int) ≤ v8 ∧ v8 ≤ (4 : Int)))
 Tr.ite (decide ((0 : Int) ≤ v1 ∧ v1 ≤ (↑(ByteArray.size xb) : Int))) (Tr.ite true (Tr.ite true (Tr.ite true (Tr.ite true (Tr.ite (decide (ByteArray.size v2 ≤ (1048576 : Nat))) (Tr.ite (decide (v6 = (0 : Int))) (Tr.ite (decide (ByteArray.size v5 ≤ (1048576 : Nat))) (Tr.ite v64 (Tr.ite (decide (ByteArray.size v14 + ByteArray.size v5 ≤ (9223372036854775807 : Nat))) (Tr.ite (decide ({ data := #[OfNat.ofNat (32 : Nat)] } = sp ∧ (0 : Int) ≤ v7 ∧ v7 ≤ (4 : Int))) (Tr.ite (decide (ByteArray.size v31 + ByteArray.size v13 ≤ (9223372036854775807 : Nat))) (Tr.ite (decide (ByteArray.size v41 ≤ (1048576 : Nat))) (Tr.ite (!decide (v28 = (0 : Int))) (Tr.ret false) (Tr.ite (!decide (v51 = (0 : Int))) (Tr.ret false) (Tr.ite (!(decide (v11 = xa1) && (decide (v17 = xa2) && (decide (v21 = xa3) && (v22.fst == xa4 && decide (v29 = v2)))))) (Tr.ret false) (Tr.ite (!(decide (v42 = xa1) && (decide (v46 = xa2) && (decide (v48 = xa3) && (v47.fst == xa4 && decide (v50 = v2)))))) (Tr.ret false) (Tr.ite (decide (ByteArray.size v4 ≤ (1048576 : Nat))) (Tr.ite v64 (Tr.ite (decide (ByteArray.size v14 + ByteArray.size v4 ≤ (9223372036854775807 : Nat))) (Tr.ite (decide (ByteArray.size v30 ≤ (1048576 : Nat))) (Tr.ite (!(decide (v10 = v33) && (decide (v15 = v35) && (decide (v20 = v36) && (v23 == v37.fst && decide (v26 = v39)))))) (Tr.ret false) (Tr.ite (!decide (v27 = v40)) (Tr.ret false) (Tr.ite false (Tr.ret false) (Tr.ite (!decide (v27 = (0 : Int))) (Tr.ite (decide (v10 = (0 : Int)) && (decide (v15 = (0 : Int)) && (decide (v20 = (0 : Int)) && (v23 == false && decide (v26 = ByteArray.empty))))) (Tr.ite (decide (v27 = (5 : Int))) (Tr.ret true) (Tr.ret (decide (v27 = (4 : Int))))) (Tr.ret false)) (Tr.ite v44 (Tr.ite (decide (ByteArray.size v54 ≤ (1048576 : Nat))) (Tr.ite v44 (Tr.ite (rightV v10 v15 v20 v23 v26) (Tr.ite (decide (v53 = (0 : Int))) (Tr.ite (decide (v62 = (0 : Int))) (Tr.ret (decide (v55 = v10) && (decide (v58 = v15) && (decide (v60 = v20) && (v59.fst == v23 && decide (v63 = v26)))))) (Tr.ret false)) (Tr.ret false)) (Tr.ret false)) Tr.fail) Tr.fail) Tr.fail))))) Tr.fail) Tr.fail) Tr.fail) Tr.fail))))) Tr.fail) Tr.fail) Tr.fail) Tr.fail) Tr.fail) Tr.fail) (Tr.ite (decide (ByteArray.size v4 ≤ (1048576 : Nat))) (Tr.ite v64 (Tr.ite (decide (ByteArray.size v14 + ByteArray.size v4 ≤ (9223372036854775807 : Nat))) (Tr.ite (decide (ByteArray.size v30 ≤ (1048576 : Nat))) (Tr.ite (!(decide (v10 = v33) && (decide (v15 = v35) && (decide (v20 = v36) && (v23 == v37.fst && decide (v26 = v39)))))) (Tr.ret false) (Tr.ite (!decide (v27 = v40)) (Tr.ret false) (Tr.ite false (Tr.ret false) (Tr.ite (!decide (v27 = (0 : Int))) (Tr.ite (decide (v10 = (0 : Int)) && (decide (v15 = (0 : Int)) && (decide (v20 = (0 : Int)) && (v23 == false && decide (v26 = ByteArray.empty))))) (Tr.ite (decide (v27 = (5 : Int))) (Tr.ret true) (Tr.ret (decide (v27 = (4 : Int))))) (Tr.ret false)) (Tr.ite v44 (Tr.ite (decide (ByteArray.size v54 ≤ (1048576 : Nat))) (Tr.ite v44 (Tr.ite (rightV v10 v15 v20 v23 v26) (Tr.ite (decide (v53 = (0 : Int))) (Tr.ite (decide (v62 = (0 : Int))) (Tr.ret (decide (v55 = v10) && (decide (v58 = v15) && (decide (v60 = v20) && (v59.fst == v23 && decide (v63 = v26)))))) (Tr.ret false)) (Tr.ret false)) (Tr.ret false)) Tr.fail) Tr.fail) Tr.fail))))) Tr.fail) Tr.fail) Tr.fail) Tr.fail)) Tr.fail) Tr.fail) Tr.fail) Tr.fail) Tr.fail) Tr.fail
def e8 (r : Bool) : FRes := { rs := Slot.av (AV.one (Leaf.dat Kd.bool r)), upd := [], new := [] }
@[reducible] def a8 : List AK := [AK.d cmdk, AK.d Kd.str, AK.d (.int .i64), AK.d (.int .i64)]
@[reducible] def b8 : List BK := []
theorem t8 (xa1 : Int) (xa2 : Int) (xa3 : Int) (xa4 : Bool) (xa5 : ByteArray) (xb : ByteArray) (xc : Int) (xd : Int) : evFn (Env.withFns E0 G8) Tryd.f8 [PM.data Kd.bool] (akAV a8 ((xa1, xa2, xa3, xa4, xa5, ()), xb, xc, xd, ())) (bkBs b8 ()) = (d8 xa1 xa2 xa3 xa4 xa5 xb xc xd).map e8 := by kernel_rfl
def s8' (G : akT a8 → Bool) : FSpec := aspec0 a8 b8 e8 (fun x _ => G x)
theorem k8' {G : akT a8 → Bool} (hd : ∀ (xa1 : Int) (xa2 : Int) (xa3 : Int) (xa4 : Bool) (xa5 : ByteArray) (xb : ByteArray) (xc : Int) (xd : Int), (d8 xa1 xa2 xa3 xa4 xa5 xb xc xd).val = some (G ((xa1, xa2, xa3, xa4, xa5, ()), xb, xc, xd, ()))) (IO : ItOK Tryd.prog (Env.withFns E0 G8) := by exact itOK_none rfl) (L : ∀ c, Tryd.f8.body = some c → LsOK (evI 2) ((Env.withFns E0 G8).lend 0) c := by exact fun c _ => LsOK_none rfl c) : SpecOK Tryd.prog E0 8 (s8' G) :=
  aspec0_ok (ak := a8) (bl := b8) (e := e8) (g := fun x _ => G x) (E0 := E0) (E := Env.withFns E0 G8) tab AG8 rfl rfl hm Tryd.func8 (by kernel_rfl) [PM.data Kd.bool] (fun X Y => by obtain ⟨⟨xa1, ⟨xa2, ⟨xa3, ⟨xa4, ⟨xa5, _⟩⟩⟩⟩⟩, ⟨xb, ⟨xc, ⟨xd, _⟩⟩⟩⟩ := X; exact val_of (t8 xa1 xa2 xa3 xa4 xa5 xb xc xd) (hd xa1 xa2 xa3 xa4 xa5 xb xc xd)) IO L
theorem parse_text0 {op a b : Int} {on : Bool} {t : ByteArray} (hr : rightV op a b on t = true) : parseV (textV op a b on t) = (op, a, b, on, t, 0) := by
  unfold parseV
  exact back_text hr _ (by rw [List.replicate_zero, List.append_nil])
theorem text_le {op a b : Int} {on : Bool} {t : ByteArray} (hr : rightV op a b on t = true) : (textV op a b on t).size ≤ 1000 := by
  obtain ⟨hi, h1, ha, hb, ht, hv⟩ := right_iff hr
  have la := itoa_le ha
  have lb := itoa_le hb
  have lw := word_len hi
  have lq := quo_le t
  have lt : (truth on).size ≤ 3 := by cases on <;> decide
  have z : sp.size = 1 := rfl
  unfold textV
  cases decide (hOf op = 1) with
  | true => rw [cond_true, ByteArray.size_append, ByteArray.size_append]; omega
  | false =>
    cases decide (hOf op = 2) with
    | true => rw [cond_false, cond_true, ByteArray.size_append, ByteArray.size_append, ByteArray.size_append, ByteArray.size_append]; omega
    | false =>
      cases decide (hOf op = 3) with
      | true => rw [cond_false, cond_false, cond_true, ByteArray.size_append, ByteArray.size_append]; omega
      | false =>
        cases decide (hOf op = 4) with
        | true => rw [cond_false, cond_false, cond_false, cond_true, ByteArray.size_append, ByteArray.size_append]; omega
        | false => rw [cond_false, cond_false, cond_false, cond_false]; omega
theorem blank_size (k : Nat) : (strOf (List.replicate k 32)).size = k := by rw [strOf_size, List.length_replicate]
theorem mod5 (n : Int) : 0 ≤ Int.tmod (IntKind.wrap IntKind.i64 (Int.tmod n 5 + 5)) 5 ∧ Int.tmod (IntKind.wrap IntKind.i64 (Int.tmod n 5 + 5)) 5 ≤ 4 := by
  have h1 : -5 < Int.tmod n 5 ∧ Int.tmod n 5 < 5 := by
    rcases Int.le_total 0 n with h | h
    · exact ⟨by have := Int.tmod_nonneg 5 h; omega, Int.tmod_lt_of_pos n (by decide)⟩
    · have := Int.lt_tmod_of_pos n (b := 5) (by decide)
      have h2 := Int.tmod_lt_of_pos n (b := 5) (by decide)
      exact ⟨by omega, h2⟩
  rw [Go.Ev.w64 (by omega) (by omega)]
  have h2 := Int.tmod_nonneg (a := Int.tmod n 5 + 5) 5 (by omega)
  have h3 := Int.tmod_lt_of_pos (Int.tmod n 5 + 5) (b := 5) (by decide)
  exact ⟨h2, by omega⟩
abbrev w8 : FSpec := s8' fun _ => true
theorem wk8 : SpecOK Tryd.prog E0 8 w8 := k8' fun op a b on t s n m => by
  obtain ⟨h1, h2⟩ := cut_le (s := s) (k := 200) (by omega)
  have h2 : (s.extract 0 (minI (s.size : Int) 200).toNat).size ≤ 200 := h2
  have h3 : (t.extract 0 70).size ≤ 1048576 := by rw [ByteArray.size_extract]; omega
  obtain ⟨p1, p2⟩ := mod5 n
  obtain ⟨q1, q2⟩ := mod5 m
  show _ = some true
  simp only [d8, Tr.val]
  generalize s.extract 0 (minI (s.size : Int) 200).toNat = s' at *
  generalize t.extract 0 70 = t' at *
  generalize Int.tmod (IntKind.wrap IntKind.i64 (Int.tmod n 5 + 5)) 5 = p at *
  generalize Int.tmod (IntKind.wrap IntKind.i64 (Int.tmod m 5 + 5)) 5 = q at *
  have c1 : (({ data := #[OfNat.ofNat (32 : Nat)] } : ByteArray) = sp ∧ 0 ≤ p ∧ p ≤ 4) := ⟨rfl, p1, p2⟩
  have c2 : (({ data := #[OfNat.ofNat (32 : Nat)] } : ByteArray) = sp ∧ 0 ≤ q ∧ q ≤ 4) := ⟨rfl, q1, q2⟩
  have b1 := blank_size p.toNat
  have b2 := blank_size q.toNat
  have g1 : s'.size ≤ 1048576 := by omega
  have g2 : (strOf (List.replicate p.toNat 32)).size + s'.size ≤ 9223372036854775807 := by omega
  have g3 : (strOf (List.replicate p.toNat 32) ++ s').size ≤ 1048576 := by rw [ByteArray.size_append]; omega
  have e30 := parse_pad p.toNat s'
  simp only [h1, h3, c1, c2, g1, g2, g3, e30, and_self, decide_true, cond_true, cond_false, Bool.not_true, Bool.and_true, beq_self_eq_true]
  have tail : (bif !decide ((parseV s').2.2.2.2.2 = 0) then
      bif decide ((parseV s').1 = 0) && (decide ((parseV s').2.1 = 0) && (decide ((parseV s').2.2.1 = 0) && ((parseV s').2.2.2.1 == false && decide ((parseV s').2.2.2.2.1 = ByteArray.empty)))) then
        bif decide ((parseV s').2.2.2.2.2 = 5) then some true else some (decide ((parseV s').2.2.2.2.2 = 4)) else some false
    else bif decide ((parseV s').2.2.2.2.1.size ≤ 1048576) then
      bif decide ((printV (parseV s').1 (parseV s').2.1 (parseV s').2.2.1 (parseV s').2.2.2.1 (parseV s').2.2.2.2.1).1.size ≤ 1048576) then
        bif decide ((parseV s').2.2.2.2.1.size ≤ 1048576) then
          bif rightV (parseV s').1 (parseV s').2.1 (parseV s').2.2.1 (parseV s').2.2.2.1 (parseV s').2.2.2.2.1 then
            bif decide ((printV (parseV s').1 (parseV s').2.1 (parseV s').2.2.1 (parseV s').2.2.2.1 (parseV s').2.2.2.2.1).2 = 0) then
              bif decide ((parseV (printV (parseV s').1 (parseV s').2.1 (parseV s').2.2.1 (parseV s').2.2.2.1 (parseV s').2.2.2.2.1).1).2.2.2.2.2 = 0) then
                some (decide ((parseV (printV (parseV s').1 (parseV s').2.1 (parseV s').2.2.1 (parseV s').2.2.2.1 (parseV s').2.2.2.2.1).1).1 = (parseV s').1) &&
                  (decide ((parseV (printV (parseV s').1 (parseV s').2.1 (parseV s').2.2.1 (parseV s').2.2.2.1 (parseV s').2.2.2.2.1).1).2.1 = (parseV s').2.1) &&
                  (decide ((parseV (printV (parseV s').1 (parseV s').2.1 (parseV s').2.2.1 (parseV s').2.2.2.1 (parseV s').2.2.2.2.1).1).2.2.1 = (parseV s').2.2.1) &&
                  ((parseV (printV (parseV s').1 (parseV s').2.1 (parseV s').2.2.1 (parseV s').2.2.2.1 (parseV s').2.2.2.2.1).1).2.2.2.1 == (parseV s').2.2.2.1 &&
                  decide ((parseV (printV (parseV s').1 (parseV s').2.1 (parseV s').2.2.1 (parseV s').2.2.2.1 (parseV s').2.2.2.2.1).1).2.2.2.2.1 = (parseV s').2.2.2.2.1)))))
              else some false
            else some false
          else some false
        else none
      else none
    else none) = some true := by
    rcases parse_right (s := s') with ⟨e0, hr⟩ | e | e
    · have hp : printV (parseV s').1 (parseV s').2.1 (parseV s').2.2.1 (parseV s').2.2.2.1 (parseV s').2.2.2.2.1 = (textV (parseV s').1 (parseV s').2.1 (parseV s').2.2.1 (parseV s').2.2.2.1 (parseV s').2.2.2.2.1, 0) := by
        unfold printV; rw [hr]; rfl
      have hz := (right_iff hr).2.2.2.2.1
      have hz : (parseV s').2.2.2.2.1.size ≤ 1048576 := by omega
      have ht := text_le hr
      have ht : (textV (parseV s').1 (parseV s').2.1 (parseV s').2.2.1 (parseV s').2.2.2.1 (parseV s').2.2.2.2.1).size ≤ 1048576 := by omega
      simp only [e0, hp, hr, hz, ht, parse_text0 hr, decide_true, Bool.not_true, cond_true, cond_false, Bool.and_true, beq_self_eq_true]
    · rw [e]; rfl
    · rw [e]; rfl
  cases hr : rightV op a b on t' with
  | false =>
    have hp : printV op a b on t' = (⟨#[]⟩, 1) := by unfold printV; rw [hr]; rfl
    rw [hp]
    simp only [show ¬ ((1 : Int) = 0) by decide, decide_false, cond_false]
    exact tail
  | true =>
    have hp : printV op a b on t' = (textV op a b on t', 0) := by unfold printV; rw [hr]; rfl
    have ht := text_le hr
    have k1 : (textV op a b on t').size ≤ 1048576 := by omega
    have k2 : (strOf (List.replicate p.toNat 32)).size + (textV op a b on t').size ≤ 9223372036854775807 := by omega
    have k3 : (strOf (List.replicate p.toNat 32) ++ textV op a b on t').size + (strOf (List.replicate q.toNat 32)).size ≤ 9223372036854775807 := by rw [ByteArray.size_append]; omega
    have k4 : (strOf (List.replicate p.toNat 32) ++ textV op a b on t' ++ strOf (List.replicate q.toNat 32)).size ≤ 1048576 := by rw [ByteArray.size_append, ByteArray.size_append]; omega
    rw [hp]
    simp only [k1, k2, k3, k4, parse_text0 hr, parse_text hr, decide_true, cond_true, cond_false, Bool.not_true, Bool.and_true, beq_self_eq_true]
    exact tail
end Cm
end Go.Proofs.YtdlbnlbajnafdaaDoor
end
