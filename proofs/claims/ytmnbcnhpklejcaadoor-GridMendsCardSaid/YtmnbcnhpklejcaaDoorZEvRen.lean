/- Blocks told by other numbers. -/
import Derived.Test.YtmnbcnhpklejcaaDoorZEvOp
set_option linter.unusedVariables false
namespace Go.Ev
open Go.RowKit

structure Ren (S : Nat → Prop) (A : Asg) (h : Heap) (ρ : Nat → Nat) (A' : Asg) (h' : Heap) : Prop where
  map : ∀ id, S id → has h id → has h' (ρ id) ∧ A'.m (ρ id) = A.m id ∧ A'.hd (ρ id) = A.hd id

section
variable {S : Nat → Prop} {w : World} {K : KSet} {A A' : Asg} {h h' : Heap} {ρ : Nat → Nat}

theorem LeafR.ren (R : Ren S A h ρ A' h') {l : Leaf} {v : Value} (hk : l.free = true) (hs : ∀ id ∈ l.ids, S id) (H : LeafR w K A h l v) : LeafR w K A' h' (l.ren ρ) v := by
  cases l with
  | undef => trivial
  | hole => exact H
  | yld id =>
    obtain ⟨a, b⟩ := H
    obtain ⟨d, e, f⟩ := R.map id (hs id (by simp [Leaf.ids])) a
    exact ⟨d, by rw [e]; exact b⟩
  | eptr _ _ _ => cases hk
  | kb b => exact H
  | dat k x => exact H
  | clip k xs => exact H
  | nils => exact H
  | nn b k xs => exact H
  | row id =>
    obtain ⟨a, b, c⟩ := H
    obtain ⟨d, e, f⟩ := R.map id (hs id (by simp [Leaf.ids])) a
    exact ⟨d, by rw [f]; exact b, c⟩
  | ptr id off =>
    obtain ⟨a, b⟩ := H
    obtain ⟨d, e, f⟩ := R.map id (hs id (by simp [Leaf.ids])) a
    exact ⟨d, by rw [e]; exact b⟩
  | vw id sz lo n =>
    obtain ⟨a, b, b', p, c, e', f', g⟩ := H
    obtain ⟨d, e, f⟩ := R.map id (hs id (by simp [Leaf.ids])) a
    exact ⟨d, b, b', p, c, e', f', by rw [e, f]; exact g⟩
  | dptr k x => exact H
  | emp => exact H
  | aptr k x => exact H
  | nilp => exact H
  | fn f caps =>
    obtain ⟨a, b⟩ := H
    refine ⟨fun id hi => ?_, ?_⟩
    · obtain ⟨j, hj, rfl⟩ := List.mem_map.1 hi
      exact (R.map j (hs j hj) (a j hj)).1
    · rw [b]
      congr 2
      rw [List.map_map]
      exact List.map_congr_left fun id hi => by simp only [Function.comp]; rw [(R.map id (hs id hi) (a id hi)).2.1]
  | nilf => exact H

theorem All2.mapL {α β γ : Type} {R : α → β → Prop} {S : γ → β → Prop} {f : α → γ} : ∀ {l : List α} {m : List β}, All2 R l m → (∀ a ∈ l, ∀ b, R a b → S (f a) b) → All2 S (l.map f) m
  | _, _, .nil, _ => .nil
  | _, _, .cons r H, h => .cons (h _ (by simp) _ r) (H.mapL fun a ha b hr => h a (by simp [ha]) b hr)

theorem mem_flat {α β : Type} {f : α → List β} : ∀ {l : List α} {b : β}, b ∈ flat f l ↔ ∃ a ∈ l, b ∈ f a
  | [], b => by simp [flat]
  | x :: l, b => by simp [flat, app_eq, mem_flat (l := l)]

theorem freeL_iff : ∀ {ls : List Leaf}, freeL ls = true ↔ ∀ l ∈ ls, l.free = true
  | [] => by simp [freeL]
  | l :: ls => by
    simp only [freeL]
    cases hl : l.free with
    | false => simp [hl]
    | true => simp [hl, freeL_iff (ls := ls)]

theorem known_free {ls : List Leaf} (hk : known ls = true) : freeL ls = true :=
  freeL_iff.2 fun l hl => by
    have := known_iff.1 hk l hl
    cases l <;> first | rfl | cases this

theorem leaves_ren (R : Ren S A h ρ A' h') {ls : List Leaf} {vs : List Value} (hk : freeL ls = true) (hs : ∀ id ∈ flat Leaf.ids ls, S id) (H : All2 (LeafR w K A h) ls vs) : All2 (LeafR w K A' h') (ls.map (Leaf.ren ρ)) vs := by
  exact H.mapL fun l hl v h0 => LeafR.ren R (freeL_iff.1 hk l hl) (fun id hi => hs id (mem_flat.2 ⟨l, hl, hi⟩)) h0

theorem AVR.ren (R : Ren S A h ρ A' h') {v : AV} {u : Value} (hk : freeL v.leafs = true) (hs : ∀ id ∈ v.ids, S id) (H : AVR w K A h v u) : AVR w K A' h' (v.ren ρ) u := by
  cases v with
  | one l => exact LeafR.ren R (freeL_iff.1 hk l (by simp [AV.leafs])) (fun id hi => hs id (by simp [AV.ids, AV.leafs, flat, app_eq, hi])) H
  | agg ls =>
    obtain ⟨cs, e, H⟩ := H
    exact ⟨cs, e, leaves_ren R hk hs H⟩

theorem knownAVs_iff : ∀ {vs : List AV}, knownAVs vs = true ↔ ∀ v ∈ vs, known v.leafs = true
  | [] => by simp [knownAVs]
  | v :: vs => by
    simp only [knownAVs]
    constructor
    · intro h x hx
      cases hv : known v.leafs with
      | false => rw [hv] at h; cases h
      | true =>
        rw [hv] at h
        rcases List.mem_cons.1 hx with e | e
        · rw [e]; exact hv
        · exact knownAVs_iff.1 h x e
    · intro h
      rw [h v (by simp)]
      exact knownAVs_iff.2 fun x hx => h x (by simp [hx])

theorem freeAVs_iff : ∀ {vs : List AV}, freeAVs vs = true ↔ ∀ v ∈ vs, freeL v.leafs = true
  | [] => by simp [freeAVs]
  | v :: vs => by
    simp only [freeAVs]
    cases hl : freeL v.leafs with
    | false => simp [hl]
    | true => simp [hl, freeAVs_iff (vs := vs)]

theorem knownAVs_free {vs : List AV} (hk : knownAVs vs = true) : freeAVs vs = true := freeAVs_iff.2 fun v hv => known_free (knownAVs_iff.1 hk v hv)

theorem knownSlot_free {s : Slot} (hk : knownSlot s = true) : s.free = true := by
  cases s with
  | av v => exact known_free hk
  | tup vs => exact knownAVs_free hk

theorem avs_ren (R : Ren S A h ρ A' h') {vs : List AV} {us : List Value} (hk : freeAVs vs = true) (hs : ∀ id ∈ flat AV.ids vs, S id) (H : All2 (AVR w K A h) vs us) : All2 (AVR w K A' h') (vs.map (AV.ren ρ)) us := by
  exact H.mapL fun l hl v h0 => AVR.ren R (freeAVs_iff.1 hk l hl) (fun id hi => hs id (mem_flat.2 ⟨l, hl, hi⟩)) h0

theorem SlotR.ren (R : Ren S A h ρ A' h') {s : Slot} {u : Value} (hk : s.free = true) (hs : ∀ id ∈ s.ids, S id) (H : SlotR w K A h s u) : SlotR w K A' h' (s.ren ρ) u := by
  cases s with
  | av v => exact AVR.ren R hk hs H
  | tup vs =>
    obtain ⟨us, e, H⟩ := H
    exact ⟨us, e, avs_ren R hk hs H⟩

theorem BlkR.ren (R : Ren S A h ρ A' h') {id : Nat} {b : Blk} (hid : S id) (hh : has h id) (hs : ∀ i ∈ b.ids, S i) (H : BlkR w K A h id b) : BlkR w K A' h' (ρ id) (b.ren ρ) := by
  obtain ⟨_, em, eh⟩ := R.map id hid hh
  cases b with
  | box ls =>
    obtain ⟨cs, t, h1, h2, h3⟩ := H
    refine ⟨cs, t, by rw [em]; exact h1, leaves_ren R (known_free h3) hs h2, known_iff.2 fun l hl => ?_⟩
    obtain ⟨l0, hl0, rfl⟩ := List.mem_map.1 hl
    have := known_iff.1 h3 l0 hl0
    cases l0 <;> first | rfl | exact this
  | row e k xs =>
    obtain ⟨l, h1, h2, h3, h4⟩ := H
    exact ⟨l, by rw [eh]; exact h1, h2, by rw [eh, em]; exact h3, h4⟩
  | frz k xs =>
    obtain ⟨h1, h2, h3⟩ := H
    exact ⟨by rw [eh]; exact h1, h2, by rw [eh, em]; exact h3⟩
  | dead => trivial
  | lrec b pe rl =>
    obtain ⟨r, h1, h2⟩ := H
    exact ⟨r, by rw [em]; exact h1, by rw [eh]; exact h2⟩

/-- A leaf that lies right knows only blocks that are there. -/
theorem LeafR.has {l : Leaf} {v : Value} (H : LeafR w K A h l v) : ∀ id ∈ l.ids, Ev.has h id := by
  intro id hi
  cases l with
  | row i => simp [Leaf.ids] at hi; rw [hi]; exact H.1
  | ptr i _ => simp [Leaf.ids] at hi; rw [hi]; exact H.1
  | eptr i _ _ => simp [Leaf.ids] at hi; rw [hi]; exact H.1
  | vw i _ _ _ => simp [Leaf.ids] at hi; rw [hi]; exact H.1
  | fn f caps => exact H.1 id hi
  | yld i => simp [Leaf.ids] at hi; rw [hi]; exact H.1
  | _ => simp [Leaf.ids] at hi

theorem leaves_has {ls : List Leaf} {vs : List Value} (H : All2 (LeafR w K A h) ls vs) : ∀ id ∈ flat Leaf.ids ls, Ev.has h id := by
  induction H with
  | nil => intro id hi; simp [flat] at hi
  | cons h0 _ ih =>
    intro id hi
    simp only [flat, app_eq, List.mem_append] at hi
    rcases hi with hi | hi
    · exact h0.has id hi
    · exact ih id hi

theorem AVR.has {x : AV} {v : Value} (H : AVR w K A h x v) : ∀ id ∈ x.ids, Ev.has h id := by
  cases x with
  | one l => exact fun id hi => LeafR.has (l := l) H id (by simpa [AV.ids, AV.leafs, flat, app_eq] using hi)
  | agg ls =>
    obtain ⟨cs, _, H⟩ := H
    exact leaves_has H

theorem avs_has {xs : List AV} {vs : List Value} (H : All2 (AVR w K A h) xs vs) : ∀ id ∈ flat AV.ids xs, Ev.has h id := by
  induction H with
  | nil => intro id hi; simp [flat] at hi
  | cons h0 _ ih =>
    intro id hi
    simp only [flat, app_eq, List.mem_append] at hi
    rcases hi with hi | hi
    · exact h0.has id hi
    · exact ih id hi

theorem SlotR.has {s : Slot} {v : Value} (H : SlotR w K A h s v) : ∀ id ∈ s.ids, Ev.has h id := by
  cases s with
  | av x => exact AVR.has H
  | tup xs =>
    obtain ⟨us, _, H⟩ := H
    exact avs_has H

theorem BlkR.has {id : Nat} {b : Blk} (H : BlkR w K A h id b) : ∀ i ∈ b.ids, Ev.has h i := by
  cases b with
  | box ls =>
    obtain ⟨cs, t, _, h2, _⟩ := H
    exact leaves_has h2
  | _ => intro i hi; simp [Blk.ids] at hi

theorem ren_uses (R : Ren S A h ρ A' h') {id : Nat} (hid : S id) (hb : h'.get (ρ id) = (h.get id).map (Blk.ren ρ)) : Uses A' h' (ρ id) ↔ Uses A h id := by
  unfold Uses
  rw [hb]
  cases hg : h.get id with
  | none => rfl
  | some b =>
    have hh : Ev.has h id := by unfold Ev.has; rw [hg]; rfl
    cases b with
    | box ls => rfl
    | row e k xs =>
      show ownB (A'.hd (ρ id)) ≠ none ↔ ownB (A.hd id) ≠ none
      rw [(R.map id hid hh).2.2]
    | frz k xs => rfl
    | dead => rfl
    | lrec _ _ _ => rfl
end

/-! ### Lists of numbers -/
theorem memN_iff {n : Nat} : ∀ {l : List Nat}, memN n l = true ↔ n ∈ l
  | [] => by simp [memN]
  | m :: l => by
    simp only [memN, List.mem_cons]
    by_cases e : n = m
    · subst e; simp
    · rw [beq_ne e]; simp [e, memN_iff (l := l)]

theorem subN_iff {m : List Nat} : ∀ {l : List Nat}, subN l m = true ↔ ∀ n ∈ l, n ∈ m
  | [] => by simp [subN]
  | a :: l => by
    simp only [subN, List.mem_cons]
    cases hm : memN a m with
    | false =>
      constructor
      · intro h; cases h
      · intro h
        have := memN_iff.2 (h a (.inl rfl))
        rw [hm] at this
        cases this
    | true =>
      constructor
      · intro h n hn
        rcases hn with e | hn
        · rw [e]; exact memN_iff.1 hm
        · exact subN_iff.1 h n hn
      · intro h
        exact subN_iff.2 fun n hn => h n (.inr hn)

theorem nodupN_iff : ∀ {l : List Nat}, nodupN l = true ↔ l.Nodup
  | [] => by simp [nodupN]
  | a :: l => by
    simp only [nodupN, List.nodup_cons]
    cases hm : memN a l with
    | true =>
      have := memN_iff.1 hm
      simp [this]
    | false =>
      have : ¬ a ∈ l := fun h => by rw [memN_iff.2 h] at hm; cases hm
      simp [this, nodupN_iff (l := l)]

theorem posN_spec {n : Nat} : ∀ {l : List Nat} {i : Nat}, n ∈ l → ∃ j, posN n l i = some (i + j) ∧ l[j]? = some n
  | [], _, h => by cases h
  | m :: l, i, h => by
    simp only [posN]
    by_cases e : n = m
    · subst e; exact ⟨0, by simp, by simp⟩
    · rw [beq_ne e]
      have hn : n ∈ l := by
        rcases List.mem_cons.1 h with h | h
        · exact absurd h e
        · exact h
      obtain ⟨j, h1, h2⟩ := posN_spec (l := l) (i := i + 1) hn
      exact ⟨j + 1, by simp [h1]; omega, by simpa using h2⟩

theorem toPos_spec {ids : List Nat} {n : Nat} (h : n ∈ ids) : ids[toPos ids n]? = some n := by
  obtain ⟨j, h1, h2⟩ := posN_spec (i := 0) h
  unfold toPos
  rw [h1]
  simpa using h2

theorem get_zipN {bs : List Blk} : ∀ {n i : Nat}, Heap.get (zipN n bs) i = if n ≤ i then bs[i - n]? else none := by
  induction bs with
  | nil => intro n i; simp [zipN, Heap.get]
  | cons b bs ih =>
    intro n i
    simp only [zipN, Heap.get]
    by_cases e : n = i
    · subst e; simp
    · rw [beq_ne e]
      simp only [cond_false, ih]
      by_cases h : n ≤ i
      · have h1 : n + 1 ≤ i := by omega
        have h2 : i - n = (i - (n + 1)) + 1 := by omega
        simp [h, h1, h2]
      · have h1 : ¬ n + 1 ≤ i := by omega
        simp [h, h1]

theorem get_zip0 {bs : List Blk} {i : Nat} : Heap.get (zipN 0 bs) i = bs[i]? := by rw [get_zipN]; simp

theorem blksAt_spec {h : Heap} : ∀ {ids : List Nat} {bs : List Blk}, blksAt h ids = some bs → bs.length = ids.length ∧ ∀ (j id : Nat), ids[j]? = some id → ∃ b : Blk, h.get id = some b ∧ bs[j]? = some b
  | [], bs, hb => by
    simp only [blksAt, Option.some.injEq] at hb
    subst hb
    simp
  | id :: ids, bs, hb => by
    simp only [blksAt] at hb
    split at hb
    · rename_i b hg
      split at hb
      · rename_i bs' hbs
        cases hb
        obtain ⟨h1, h2⟩ := blksAt_spec hbs
        refine ⟨by simp [h1], fun j i hj => ?_⟩
        cases j with
        | zero => simp at hj; subst hj; exact ⟨b, hg, by simp⟩
        | succ j =>
          obtain ⟨b', h3, h4⟩ := h2 j i (by simpa using hj)
          exact ⟨b', h3, by simpa using h4⟩
      · cases hb
    · cases hb

end Go.Ev
