/- The plain operations, one by one. -/
import Derived.Test.YtmnbcnhpklejcaaDoorZEvHeap
set_option linter.unusedVariables false
namespace Go.Ev
open Go.RowKit

theorem getD_take_drop (l m : List Value) (a b c : Nat) (hab : a + m.length ≤ b) (hb : b ≤ l.length) :
    (l.take a ++ m ++ l.drop (a + m.length)).take b = (l.take b).take a ++ m ++ (l.take b).drop (a + m.length) := by
  apply List.ext_getElem?
  intro j
  simp only [List.getElem?_take, List.getElem?_append, List.length_append, List.length_take, List.getElem?_drop]
  have h1 : min a l.length = a := by omega
  have h2 : min a (min b l.length) = a := by omega
  rw [h1, h2]
  by_cases c1 : j < b
  · by_cases c2 : j < a + m.length
    · by_cases c3 : j < a
      · simp [c1, c2, c3]
      · simp [c1, c2, c3]
    · have c4 : a + m.length + (j - (a + m.length)) = j := by omega
      simp [c1, c2, c4]
  · have c2 : ¬ j < a + m.length := by omega
    have c4 : a + m.length + (j - (a + m.length)) = j := by omega
    simp [c1, c2, c4]

section
variable {C : Ctx} {w w' : World} {K K' : KSet} {A A' : Asg} {h h' : Heap}

/-- Where the elements of an owned row lie. -/
theorem row_at (H : HR C w K A h) {id : Nat} {e : TypeId} {k : Kd} {xs : List k.T} (hg : h.get id = some (.row e k xs)) (hx : 0 < xs.length) :
    ∃ cap cur l fz, A.hd id = .slice (some ⟨A.m id, 0, none⟩) xs.length cap ∧ w.heap[A.m id]? = some (.cells cur e fz) ∧ fzOK cur fz ∧ xs.length ≤ cap ∧ cap ≤ maxLen ∧ cur.size = cap * k.sz ∧ cur.toList.take (xs.length * k.sz) = l ∧ RowR w K k xs l := by
  obtain ⟨l, ⟨hl, h1 | ⟨g, cap, cur, fz, hv, h0, hc, hz0, h2, h3, h4, h5⟩⟩, hr, hb, hz⟩ := H.blk id _ hg
  · have := h1.1
    omega
  · have hgm : g = A.m id := by
      rcases hb with hb | hb
      · rw [hv, ownB_pos h0] at hb; cases hb
      · rw [hv, ownB_pos h0] at hb; simpa using hb
    subst hgm
    exact ⟨cap, cur, l, fz, hv, hc, hz0, h2, h3, h4, h5, hr⟩

theorem HR.setElem (H : HR C w K A h) {id : Nat} {e : TypeId} {k : Kd} {xs : List k.T} (hg : h.get id = some (.row e k xs)) {i : Nat} (hi : i < xs.length) {y : k.T} {m : List Value} (hy : Kd.R w K k y m) :
    ∃ cur fz, w.heap[A.m id]? = some (.cells cur e fz) ∧ fzOK cur fz ∧ i * k.sz + k.sz ≤ cur.size ∧
      HR C (w.setRow (A.m id) (cur.toList.take (i * k.sz) ++ m ++ cur.toList.drop (i * k.sz + k.sz)).toArray) K A (h.set id (.row e k (xs.set i y))) ∧
      Ext K A h w K A (h.set id (.row e k (xs.set i y))) (w.setRow (A.m id) (cur.toList.take (i * k.sz) ++ m ++ cur.toList.drop (i * k.sz + k.sz)).toArray) := by
  obtain ⟨cap, cur, l, fz, hv, hc, hz0, h2, h3, h4, h5, hr⟩ := row_at H hg (by omega)
  obtain ⟨_, _, _, _, hz⟩ := H.blk id _ hg
  have hu0 : Uses A h id := uses_row hg (g := A.m id) (by rw [hv]; exact ownB_pos (by omega))
  obtain ⟨hnk, hlt, hbl⟩ := H.own id hu0
  have hle : i * k.sz + k.sz ≤ xs.length * k.sz := by
    rw [← Nat.succ_mul]
    exact Nat.mul_le_mul_right _ hi
  have hle2 : xs.length * k.sz ≤ cap * k.sz := Nat.mul_le_mul_right _ h2
  have hml : m.length = k.sz := Kd.R_len hy
  have hne : ∀ (q : Array Value) b, b ≠ A.m id → (w.setRow (A.m id) q).heap[b]? = w.heap[b]? := fun q b hb => setRow_other w _ _ _ hb
  refine ⟨cur, fz, hc, hz0, by omega, ?_⟩
  generalize hq : (cur.toList.take (i * k.sz) ++ m ++ cur.toList.drop (i * k.sz + k.sz)).toArray = q
  have x : Ext K A h w K A (h.set id (.row e k (xs.set i y))) (w.setRow (A.m id) q) := by
    refine ⟨fun b hb => ⟨hb, hne q b fun e => hnk (e ▸ hb)⟩, fun i hi => ⟨?_, rfl, rfl⟩, fun i' e' k' xs' hi' hgi => ?_, fun i' k' xs' hi' hgi => ?_⟩
    · unfold Ev.has at *
      rw [Heap.get_set]
      split
      · rfl
      · exact hi
    · rw [Heap.get_set] at hgi
      split at hgi
      · rename_i e0
        cases hgi
        rw [e0]
        exact ⟨xs, hg, by simp⟩
      · exact ⟨xs', hgi, rfl⟩
    · rw [Heap.get_set] at hgi
      split at hgi
      · cases hgi
      · exact .inr ⟨xs', hgi, rfl⟩
  have hsz : (w.setRow (A.m id) q).heap.size = w.heap.size := setRow_size w _ _
  have hqs : q.size = cur.size := by
    rw [← hq]
    simp [hml]
    omega
  have hqt : q.toList.take (xs.length * k.sz) = l.take (i * k.sz) ++ m ++ l.drop (i * k.sz + k.sz) := by
    rw [← hq]
    have := getD_take_drop cur.toList m (i * k.sz) (xs.length * k.sz) 0 (by omega) (by simp; omega)
    rw [hml] at this
    rw [show (cur.toList.take (i * k.sz) ++ m ++ cur.toList.drop (i * k.sz + k.sz)).toArray.toList = cur.toList.take (i * k.sz) ++ m ++ cur.toList.drop (i * k.sz + k.sz) from by simp, this, h5]
  refine ⟨H.update x ⟨l.take (i * k.sz) ++ m ++ l.drop (i * k.sz + k.sz), ⟨?_, .inr ⟨A.m id, cap, q, fz, ?_, by omega, setRow_heap w _ cur _ e _ hc, by unfold fzOK at *; rw [hqs]; exact hz0, by simp; exact h2, h3, by rw [hqs]; exact h4, ?_⟩⟩, x.rowR (RowR_set hy hr i hi), .inr (by rw [hv]; exact ownB_pos (by omega)), hz⟩
    (fun _ => ⟨hnk, by rw [hsz]; exact hlt, hbl, fun i hi hu e => hi (H.inj i id hu hu0 e)⟩)
    (fun i hi hu => hne q _ fun e => hi (H.inj i id hu hu0 e)) rfl rfl rfl (Nat.le_of_eq hsz.symm) (fun b hb hl => hne q b fun e => ?_), x⟩
  · have := RowR_len (RowR_set hy hr i hi)
    simpa using this
  · simp; exact hv
  · rw [show (xs.set i y).length = xs.length from by simp]; exact hqt
  · rcases hbl with hbl | hbl
    · omega
    · exact hl (e ▸ hbl)
end

/-! ### Slots -/
structure SlotsR (w : World) (K : KSet) (A : Asg) (h : Heap) (t : Tms) (a : Act) : Prop where
  len : t.n = a.tmps.size
  at_ : ∀ i s, t.at i = some s → SlotR w K A h s (a.tmps.getD i undef)

theorem SlotsR.ext {w w' : World} {K K' : KSet} {A A' : Asg} {h h' : Heap} {t : Tms} {a : Act} (x : Ext K A h w K' A' h' w') (H : SlotsR w K A h t a) : SlotsR w' K' A' h' t a :=
  ⟨H.len, fun i s hs => x.slot (H.at_ i s hs)⟩

theorem SlotsR.set {w : World} {K : KSet} {A : Asg} {h : Heap} {t : Tms} {a : Act} (H : SlotsR w K A h t a) {d : Nat} {s : Slot} (hs : d < a.tmps.size → SlotR w K A h s (a.tmps.getD d undef)) : SlotsR w K A h (t.set d s) a := by
  refine ⟨by rw [Tms.set_n]; exact H.len, fun i s' hi => ?_⟩
  have hlt := (Tms.at_some.1 hi).1
  rw [Tms.set_n, H.len] at hlt
  rcases Tms.at_set hi with ⟨rfl, rfl | rfl⟩ | ⟨_, h1⟩
  · exact hs hlt
  · trivial
  · exact H.at_ i s' h1

theorem SlotsR.put {w : World} {K : KSet} {A : Asg} {h : Heap} {t : Tms} {a : Act} (H : SlotsR w K A h t a) {dst : Option Tmp} {s : Slot} {v : Value} (hs : SlotR w K A h s v) : SlotsR w K A h (putSlot t dst s) (a.put dst v) := by
  cases dst with
  | none => exact H
  | some d =>
    refine ⟨by rw [put_n, H.len]; simp [Act.put], fun i s' hi => ?_⟩
    have hlt := (Tms.at_some.1 hi).1
    rw [put_n, H.len] at hlt
    simp only [putSlot] at hi
    simp only [Act.put]
    rcases Tms.at_set hi with ⟨rfl, rfl | rfl⟩ | ⟨hne, h1⟩
    · have : (a.tmps.setIfInBounds i v).getD i undef = v := by simp [Array.getD, hlt]
      rw [this]
      exact hs
    · trivial
    · have : (a.tmps.setIfInBounds d v).getD i undef = a.tmps.getD i undef := by
        simp [Array.getD_eq_getD_getElem?, Array.getElem?_setIfInBounds_ne (fun e => hne e.symm)]
      rw [this]
      exact H.at_ i s' h1

theorem SlotR.undef {w : World} {K : KSet} {A : Asg} {h : Heap} (v : Value) : SlotR w K A h undefS v := trivial

section
variable {C : Ctx} {w : World} {K : KSet} {A : Asg} {σ : St} {a : Act}

theorem const_R {w : World} {K : KSet} {A : Asg} {h : Heap} {v : Value} {s : Slot} (hs : constSlot v = some s) : SlotR w K A h s v := by
  cases v with
  | int k n => simp only [constSlot, Option.some.injEq] at hs; subst hs; exact rfl
  | bool b => simp only [constSlot, Option.some.injEq] at hs; subst hs; exact rfl
  | string s => simp only [constSlot, Option.some.injEq] at hs; subst hs; exact rfl
  | slice a n c =>
    cases a with
    | some a => cases hs
    | none =>
      simp only [constSlot] at hs
      cases hb : (Nat.beq n 0 && Nat.beq c 0) with
      | false => rw [hb] at hs; cases hs
      | true =>
        rw [hb] at hs
        simp only [cond_true, Option.some.injEq] at hs
        simp only [Bool.and_eq_true] at hb
        have h1 := Nat.eq_of_beq_eq_true hb.1
        have h2 := Nat.eq_of_beq_eq_true hb.2
        subst hs
        subst h1
        subst h2
        exact rfl
  | pointer a =>
    cases a with
    | some a => cases hs
    | none => simp only [constSlot, Option.some.injEq] at hs; subst hs; exact rfl
  | nilFunc => simp only [constSlot, Option.some.injEq] at hs; subst hs; exact rfl
  | tuple vs =>
    simp only [constSlot] at hs
    split at hs
    · rename_i hv
      cases hs
      exact ⟨[], by rw [show vs = #[] from by simpa using hv], .nil⟩
    · cases hs
  | _ => cases hs

theorem opnd_R (H : HR C w K A σ.h) (S : SlotsR w K A σ.h σ.t a) {o : Operand} {s : Slot} (ho : opnd C.E σ o = some s) : SlotR w K A σ.h s (a.eval o) := by
  cases o with
  | tmp t => exact S.at_ t s ho
  | const v => exact const_R ho
  | global g =>
    simp only [opnd, Option.map_eq_some_iff] at ho
    obtain ⟨l, hl, rfl⟩ := ho
    exact H.glob g l hl
  | func f =>
    simp only [opnd, Option.some.injEq] at ho
    subst ho
    exact ⟨(fun _ h => by cases h), rfl⟩

theorem opAV_R (H : HR C w K A σ.h) (S : SlotsR w K A σ.h σ.t a) {o : Operand} {v : AV} (ho : opAV C.E σ o = some v) : AVR w K A σ.h v (a.eval o) := by
  unfold opAV at ho
  split at ho
  · rename_i hq
    cases ho
    exact opnd_R H S hq
  · cases ho

theorem opLeaf_R (H : HR C w K A σ.h) (S : SlotsR w K A σ.h σ.t a) {o : Operand} {l : Leaf} (ho : opLeaf C.E σ o = some l) : LeafR w K A σ.h l (a.eval o) := by
  unfold opLeaf at ho
  split at ho
  · rename_i hq
    cases ho
    exact opnd_R H S hq
  · cases ho

theorem opAVs_R (H : HR C w K A σ.h) (S : SlotsR w K A σ.h σ.t a) : ∀ {os : List Operand} {vs : List AV}, opAVs C.E σ os = some vs → All2 (AVR w K A σ.h) vs (os.map a.eval)
  | [], vs, ho => by
    simp only [opAVs, Option.some.injEq] at ho
    subst ho
    exact .nil
  | o :: os, vs, ho => by
    simp only [opAVs] at ho
    split at ho
    · rename_i v hv
      split at ho
      · rename_i vs' hvs
        cases ho
        exact .cons (opAV_R H S hv) (opAVs_R H S hvs)
      · cases ho
    · cases ho
end

end Go.Ev
