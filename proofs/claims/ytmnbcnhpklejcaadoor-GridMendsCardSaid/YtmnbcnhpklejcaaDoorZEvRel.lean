/- How the evaluator's data lie in the model's memory. -/
import Derived.Test.YtmnbcnhpklejcaaDoorZEvSlots
import Derived.Laws.CopyRow
set_option linter.unusedVariables false
namespace Go.Ev
open Go.RowKit

abbrev KSet := Nat → Prop

def cellsAt (cs : Array Value) (o n : Nat) : List Value := (cs.toList.drop o).take n

/-- The datum x of kind k lies in these cells; what it leads to lies in blocks of K. -/
def Kd.R (w : World) (K : KSet) : (k : Kd) → k.T → List Value → Prop
  | .int ik, x, l => l = [.int ik x]
  | .bool, b, l => l = [.bool b]
  | .str, s, l => l = [.string s]
  | .sl k, xs, l => ∃ A cap, l = [.slice A (List.length (α := k.T) xs) cap] ∧ List.length (α := k.T) xs ≤ cap ∧
      (List.length (α := k.T) xs = 0 ∨ ∃ b off cs t fr, A = some ⟨b, off, none⟩ ∧ K b ∧ w.heap[b]? = some (.cells cs t fr) ∧
        ∀ i, i < List.length (α := k.T) xs → Kd.R w K k (List.getD (α := k.T) xs i k.dflt) (cellsAt cs (off + i * k.sz) k.sz))
  | .un, _, l => l = []
  | .pr a b, x, l => ∃ l1 l2, l = l1 ++ l2 ∧ Kd.R w K a x.1 l1 ∧ Kd.R w K b x.2 l2

theorem Kd.R_len {w : World} {K : KSet} : ∀ {k : Kd} {x : k.T} {l : List Value}, Kd.R w K k x l → l.length = k.sz
  | .int _, _, _, h => by rw [show _ = _ from h]; rfl
  | .bool, _, _, h => by rw [show _ = _ from h]; rfl
  | .str, _, _, h => by rw [show _ = _ from h]; rfl
  | .sl _, _, _, ⟨_, _, h, _⟩ => by rw [h]; rfl
  | .un, _, _, h => by rw [show _ = _ from h]; rfl
  | .pr a b, _, _, ⟨_, _, h, h1, h2⟩ => by rw [h, List.length_append, Kd.R_len h1, Kd.R_len h2]; rfl

theorem Kd.R_mono {w w' : World} {K K' : KSet} (hK : ∀ b, K b → K' b) (hw : ∀ b, K b → w'.heap[b]? = w.heap[b]?) :
    ∀ {k : Kd} {x : k.T} {l : List Value}, Kd.R w K k x l → Kd.R w' K' k x l
  | .int _, _, _, h => h
  | .bool, _, _, h => h
  | .str, _, _, h => h
  | .sl k, _, _, ⟨A, cap, h, hl, h'⟩ => ⟨A, cap, h, hl, h'.imp id fun ⟨b, off, cs, t, fr, e, hb, hc, hi⟩ =>
      ⟨b, off, cs, t, fr, e, hK b hb, (hw b hb).trans hc, fun i h => Kd.R_mono hK hw (hi i h)⟩⟩
  | .un, _, _, h => h
  | .pr _ _, _, _, ⟨l1, l2, h, h1, h2⟩ => ⟨l1, l2, h, Kd.R_mono hK hw h1, Kd.R_mono hK hw h2⟩

theorem Kd.R_cell {w : World} {K : KSet} : ∀ {k : Kd} {x : k.T} {l : List Value}, Kd.R w K k x l → ∀ v ∈ l, v.oneCell' = true
  | .int _, _, _, h, v, hv => by rw [show _ = _ from h] at hv; simp at hv; rw [hv]; rfl
  | .bool, _, _, h, v, hv => by rw [show _ = _ from h] at hv; simp at hv; rw [hv]; rfl
  | .str, _, _, h, v, hv => by rw [show _ = _ from h] at hv; simp at hv; rw [hv]; rfl
  | .sl _, _, _, ⟨_, _, h, _⟩, v, hv => by rw [h] at hv; simp at hv; rw [hv]; rfl
  | .un, _, _, h, v, hv => by rw [show _ = _ from h] at hv; cases hv
  | .pr _ _, _, _, ⟨_, _, h, h1, h2⟩, v, hv => by
    rw [h] at hv
    rcases List.mem_append.1 hv with hv | hv
    · exact Kd.R_cell h1 v hv
    · exact Kd.R_cell h2 v hv

/-- The block that a slice has to itself (one without room has none). -/
def ownB : Value → Option Nat
  | .slice (some a) _ c => if c = 0 then none else some a.block
  | _ => none

/-- What is marked of a block is none of its cells. -/
def fzOK (cur : Array Value) (fz : Nat × Nat) : Prop := fz = (0, 0) ∨ cur.size ≤ fz.1

/-- These cells are the elements of a slice that nobody else has. -/
def Owns (w : World) (e : TypeId) (size : Nat) (v : Value) (n : Nat) (xs : List Value) : Prop :=
  xs.length = n * size ∧
  ((n = 0 ∧ ∃ a, v = .slice a 0 0) ∨
   ∃ g cap cur fz, v = .slice (some ⟨g, 0, none⟩) n cap ∧ 0 < cap ∧ w.heap[g]? = some (.cells cur e fz) ∧ fzOK cur fz ∧ n ≤ cap ∧ cap ≤ maxLen ∧ cur.size = cap * size ∧ cur.toList.take (n * size) = xs)

theorem Owns.of {w : World} {base : Nat} {e : TypeId} {size : Nat} {v : Value} {n : Nat} {xs : List Value} (h : w.ownsRow base e size v n xs) : Owns w e size v n xs := by
  refine ⟨h.1, ?_⟩
  rcases h.2 with ⟨h1, h2⟩ | ⟨g, cap, cur, hv, _, hc, h2, h3, h4, h5⟩
  · exact .inl ⟨h2, none, h1⟩
  · by_cases h0 : cap = 0
    · subst h0
      have hn : n = 0 := by omega
      subst hn
      exact .inl ⟨rfl, _, hv⟩
    · exact .inr ⟨g, cap, cur, (0, 0), hv, by omega, hc, .inl rfl, h2, h3, h4, h5⟩

theorem Owns.slice {w : World} {e : TypeId} {size : Nat} {v : Value} {n : Nat} {xs : List Value} (h : Owns w e size v n xs) : ∃ a c, v = .slice a n c := by
  rcases h.2 with ⟨rfl, a, rfl⟩ | ⟨g, cap, cur, fz, hv, _⟩
  · exact ⟨_, _, rfl⟩
  · exact ⟨_, _, hv⟩

theorem ownB_pos {g cap n : Nat} (h : 0 < cap) : ownB (.slice (some ⟨g, 0, none⟩) n cap) = some g := by
  have : ¬ cap = 0 := by omega
  simp [ownB, this]

theorem ownB_zero {a : Option Addr} {n : Nat} : ownB (.slice a n 0) = none := by cases a <;> simp [ownB]

/-- Where the elements of a block to itself lie. -/
theorem Owns.at {w : World} {e : TypeId} {size : Nat} {v : Value} {n : Nat} {xs : List Value} (h : Owns w e size v n xs) {g : Nat} (hg : ownB v = some g) :
    ∃ cap cur fz, v = .slice (some ⟨g, 0, none⟩) n cap ∧ 0 < cap ∧ w.heap[g]? = some (.cells cur e fz) ∧ fzOK cur fz ∧ n ≤ cap ∧ cap ≤ maxLen ∧ cur.size = cap * size ∧ cur.toList.take (n * size) = xs := by
  rcases h.2 with ⟨_, a, rfl⟩ | ⟨g', cap, cur, fz, rfl, h0, r⟩
  · rw [ownB_zero] at hg; cases hg
  · rw [ownB_pos h0] at hg
    cases hg
    exact ⟨cap, cur, fz, rfl, h0, r⟩

/-- Cells that are stored, past which alone something is marked. -/
theorem storeCells_fz {P : Program} {g o : Nat} {t : TypeId} {fz : Nat × Nat} : ∀ (vs : List Value) (i : Nat) (cur : Array Value) (w : World), w.heap[g]? = some (.cells cur t fz) → fzOK cur fz → o + i + vs.length ≤ cur.size → (∀ v ∈ vs, v.oneCell' = true) →
    (storeCells ⟨g, o, none⟩ vs i).run P w = .ok () (w.setRow g (cur.toList.take (o + i) ++ vs ++ cur.toList.drop (o + i + vs.length)).toArray)
  | [], i, cur, w, hg, _, _, _ => by
    have e : (cur.toList.take (o + i) ++ [] ++ cur.toList.drop (o + i + ([] : List Value).length)).toArray = cur := by simp
    rw [e, setRow_self w g cur t fz hg]
    rfl
  | v :: vs, i, cur, w, hg, hz, hle, h1 => by
    simp only [List.length_cons] at hle
    have hlt : o + i < cur.size := by omega
    have hst : (store ((⟨g, o, none⟩ : Addr).add i) v).run P w = .ok () (w.setRow g (cur.setIfInBounds (o + i) v)) := by
      have ea : (⟨g, o, none⟩ : Addr).add i = ⟨g, o + i, none⟩ := by unfold Addr.add; split <;> simp_all
      have ec : w.cell? ⟨g, o + i, none⟩ = some cur[o + i] := by simp [World.cell?, hg, hlt]
      have ef : w.frozen? ⟨g, o + i, none⟩ = false := by
        rcases hz with rfl | hz
        · simp [World.frozen?, hg]
        · obtain ⟨a, b⟩ := fz
          have hz' : cur.size ≤ a := hz
          simp only [World.frozen?, hg, Bool.and_eq_false_iff, decide_eq_false_iff_not]
          left
          omega
      rw [ea, run_store P w _ v _ (h1 v (by simp)), ec]
      simp [ef, setCell_eq_setRow w g (o + i) cur t fz v hg]
    have ih := storeCells_fz (P := P) (g := g) (o := o) (t := t) (fz := fz) vs (i + 1) (cur.setIfInBounds (o + i) v) (w.setRow g (cur.setIfInBounds (o + i) v)) (setRow_heap w g cur _ t _ hg)
      (hz.imp id fun h => by simpa using h) (by simp; omega) (fun x hx => h1 x (by simp [hx]))
    simp only [storeCells, Sem.run_bind, hst, Result.andThen_ok, ih, setRow_setRow]
    congr 3
    have e := list_seg_step cur.toList (o + i) v vs (by simp; omega)
    simpa [Array.toList_setIfInBounds, Nat.add_assoc] using e

/-- Where the frame's blocks lie. -/
structure Asg where
  m : Nat → Nat
  hd : Nat → Value

def has (h : Heap) (id : Nat) : Prop := (h.get id).isSome = true

def LeafR (w : World) (K : KSet) (A : Asg) (h : Heap) : Leaf → Value → Prop
  | .undef, _ => True
  | .hole, v => v = Go.undef
  | .kb b, v => v = .bool b
  | .dat k x, v => Kd.R w K k x [v]
  | .clip k xs, v => Kd.R w K (.sl k) xs [v] ∧ ∃ a, v = .slice a xs.length xs.length
  | .nils, v => v = .slice none 0 0
  | .nn b k xs, v => Kd.R w K (.sl k) xs [v] ∧ ∃ a n c, v = .slice a n c ∧ a.isNone = b
  | .row id, v => has h id ∧ v = A.hd id ∧ ∃ a n c, v = .slice a n c
  | .ptr id off, v => has h id ∧ v = .pointer (some ⟨A.m id, off, none⟩)
  | .eptr id i off, v => has h id ∧ (∀ e k xs, h.get id = some (.row e k xs) → i < xs.length ∧ v = .pointer (some ⟨A.m id, i * k.sz + off, none⟩)) ∧
      (∀ k xs, h.get id = some (.frz k xs) → i < xs.length ∧ v = .pointer (some ⟨A.m id, i * k.sz + off, none⟩))
  | .vw id sz lo n, v => has h id ∧ 0 ≤ lo ∧ 0 ≤ n ∧ ∃ a c, v = .slice a n.toNat c ∧ n.toNat ≤ c ∧ (n.toNat = 0 ∨ ∃ N M, A.hd id = .slice (some ⟨A.m id, 0, none⟩) N M ∧ lo.toNat + n.toNat ≤ N ∧ a = some ⟨A.m id, lo.toNat * sz, none⟩)
  | .dptr k x, v => ∃ b off cs t fr, v = .pointer (some ⟨b, off, none⟩) ∧ K b ∧ w.heap[b]? = some (.cells cs t fr) ∧ Kd.R w K k x (cellsAt cs off k.sz)
  | .nilp, v => v = .pointer none
  | .fn f caps, v => (∀ id ∈ caps, has h id) ∧ v = .func (.func f) #[] (caps.map fun id => Value.pointer (some ⟨A.m id, 0, none⟩)).toArray
  | .nilf, v => v = .nilFunc
  | .emp, v => ∃ a, v = .slice a 0 0
  | .aptr k xs, v => ∃ b off cs t fr, v = .pointer (some ⟨b, off, none⟩) ∧ K b ∧ w.heap[b]? = some (.cells cs t fr) ∧ ∀ i, i < xs.length → Kd.R w K k (xs.getD i k.dflt) (cellsAt cs (off + i * k.sz) k.sz)
  | .yld id, v => has h id ∧ v = .func (.yield (A.m id)) #[] #[]

inductive All2 {α β : Type} (R : α → β → Prop) : List α → List β → Prop
  | nil : All2 R [] []
  | cons {a : α} {b : β} {l : List α} {m : List β} : R a b → All2 R l m → All2 R (a :: l) (b :: m)

theorem All2.imp {α β : Type} {R S : α → β → Prop} (h : ∀ a b, R a b → S a b) {l : List α} {m : List β} (H : All2 R l m) : All2 S l m := by
  induction H with
  | nil => exact .nil
  | cons r _ ih => exact .cons (h _ _ r) ih

theorem All2.len {α β : Type} {R : α → β → Prop} {l : List α} {m : List β} (H : All2 R l m) : l.length = m.length := by
  induction H with
  | nil => rfl
  | cons _ _ ih => simp [ih]

theorem All2.app {α β : Type} {R : α → β → Prop} {l l' : List α} {m m' : List β} (H : All2 R l m) (H' : All2 R l' m') : All2 R (l ++ l') (m ++ m') := by
  induction H with
  | nil => exact H'
  | cons r _ ih => exact .cons r ih

def AVR (w : World) (K : KSet) (A : Asg) (h : Heap) : AV → Value → Prop
  | .one l, v => LeafR w K A h l v
  | .agg ls, v => ∃ cs : List Value, v = .agg cs.toArray ∧ All2 (LeafR w K A h) ls cs

def SlotR (w : World) (K : KSet) (A : Asg) (h : Heap) : Slot → Value → Prop
  | .av x, v => AVR w K A h x v
  | .tup xs, v => ∃ vs : List Value, v = .tuple vs.toArray ∧ All2 (AVR w K A h) xs vs

/-- A row's cells, element by element. -/
def RowR (w : World) (K : KSet) (k : Kd) : List k.T → List Value → Prop
  | [], l => l = []
  | x :: xs, l => ∃ l1 l2, l = l1 ++ l2 ∧ Kd.R w K k x l1 ∧ RowR w K k xs l2

theorem RowR_len {w : World} {K : KSet} {k : Kd} : ∀ {xs : List k.T} {l : List Value}, RowR w K k xs l → l.length = xs.length * k.sz
  | [], _, h => by rw [show _ = _ from h]; simp
  | x :: xs, _, ⟨_, _, h, h1, h2⟩ => by rw [h, List.length_append, Kd.R_len h1, RowR_len h2, List.length_cons, Nat.succ_mul, Nat.add_comm]

theorem RowR_mono {w w' : World} {K K' : KSet} (hK : ∀ b, K b → K' b) (hw : ∀ b, K b → w'.heap[b]? = w.heap[b]?) {k : Kd} :
    ∀ {xs : List k.T} {l : List Value}, RowR w K k xs l → RowR w' K' k xs l
  | [], _, h => h
  | _ :: _, _, ⟨l1, l2, h, h1, h2⟩ => ⟨l1, l2, h, Kd.R_mono hK hw h1, RowR_mono hK hw h2⟩

theorem RowR_cell {w : World} {K : KSet} {k : Kd} : ∀ {xs : List k.T} {l : List Value}, RowR w K k xs l → ∀ v ∈ l, v.oneCell' = true
  | [], _, h, v, hv => by rw [show _ = _ from h] at hv; cases hv
  | _ :: _, _, ⟨_, _, h, h1, h2⟩, v, hv => by
    rw [h] at hv
    rcases List.mem_append.1 hv with hv | hv
    · exact Kd.R_cell h1 v hv
    · exact RowR_cell h2 v hv

theorem RowR_app {w : World} {K : KSet} {k : Kd} : ∀ {xs ys : List k.T} {l m : List Value}, RowR w K k xs l → RowR w K k ys m → RowR w K k (xs ++ ys) (l ++ m)
  | [], _, l, _, h, h' => by rw [show l = [] from h]; exact h'
  | _ :: _, _, _, _, ⟨l1, l2, h, h1, h2⟩, h' => ⟨l1, _, by rw [h, List.append_assoc], h1, RowR_app h2 h'⟩

/-- An element of a row. -/
theorem RowR_get {w : World} {K : KSet} {k : Kd} : ∀ {xs : List k.T} {l : List Value}, RowR w K k xs l → ∀ i, i < xs.length → Kd.R w K k (xs.getD i k.dflt) ((l.drop (i * k.sz)).take k.sz)
  | [], _, _, i, hi => absurd hi (by simp)
  | x :: xs, _, ⟨l1, l2, h, h1, h2⟩, 0, _ => by
    rw [h, Nat.zero_mul, List.drop_zero, List.take_append_of_le_length (by rw [Kd.R_len h1]; exact Nat.le_refl _), List.take_of_length_le (by rw [Kd.R_len h1]; exact Nat.le_refl _)]
    exact h1
  | x :: xs, _, ⟨l1, l2, h, h1, h2⟩, i + 1, hi => by
    have e : (l1 ++ l2).drop ((i + 1) * k.sz) = l2.drop (i * k.sz) := by
      rw [Nat.succ_mul, Nat.add_comm, ← Kd.R_len h1, ← List.drop_drop, List.drop_append_of_le_length (Nat.le_refl _), List.drop_length, List.nil_append]
    rw [h, e]
    exact RowR_get h2 i (by simpa using hi)

/-- Out of the elements, one by one. -/
theorem RowR_of {w : World} {K : KSet} {k : Kd} : ∀ {xs : List k.T} {l : List Value}, l.length = xs.length * k.sz →
    (∀ i, i < xs.length → Kd.R w K k (xs.getD i k.dflt) ((l.drop (i * k.sz)).take k.sz)) → RowR w K k xs l
  | [], l, h, _ => by
    have : l.length = 0 := by simpa using h
    exact List.eq_nil_of_length_eq_zero this
  | x :: xs, l, h, hi => by
    have h' : l.length = xs.length * k.sz + k.sz := by rw [h, List.length_cons, Nat.succ_mul]
    refine ⟨l.take k.sz, l.drop k.sz, (List.take_append_drop _ _).symm, ?_, RowR_of (by rw [List.length_drop]; omega) fun i hlt => ?_⟩
    · have := hi 0 (by simp)
      simpa using this
    · have := hi (i + 1) (by simpa using hlt)
      have e : (i + 1) * k.sz = k.sz + i * k.sz := by rw [Nat.succ_mul, Nat.add_comm]
      rw [e, ← List.drop_drop] at this
      simpa using this

theorem RowR_set {w : World} {K : KSet} {k : Kd} {y : k.T} {m : List Value} (hy : Kd.R w K k y m) : ∀ {xs : List k.T} {l : List Value}, RowR w K k xs l → ∀ i, i < xs.length →
    RowR w K k (xs.set i y) (l.take (i * k.sz) ++ m ++ l.drop (i * k.sz + k.sz))
  | [], _, _, i, hi => absurd hi (by simp)
  | x :: xs, _, ⟨l1, l2, h, h1, h2⟩, 0, _ => by
    refine ⟨m, l2, ?_, hy, h2⟩
    have e : (l1 ++ l2).drop k.sz = l2 := by
      rw [← Kd.R_len h1, List.drop_append_of_le_length (Nat.le_refl _), List.drop_length, List.nil_append]
    simp [h, e]
  | x :: xs, _, ⟨l1, l2, h, h1, h2⟩, i + 1, hi => by
    refine ⟨l1, _, ?_, h1, RowR_set hy h2 i (by simpa using hi)⟩
    have e : (i + 1) * k.sz = l1.length + i * k.sz := by rw [Kd.R_len h1, Nat.succ_mul, Nat.add_comm]
    rw [h, e, List.take_length_add_append, Nat.add_assoc, ← List.drop_drop, List.drop_append_of_le_length (Nat.le_refl _), List.drop_length, List.nil_append]
    simp [List.append_assoc]

def BlkR (w : World) (K : KSet) (A : Asg) (h : Heap) (id : Nat) : Blk → Prop
  | .box ls => ∃ cs : List Value, ∃ t, w.heap[A.m id]? = some (.cells cs.toArray t (0, 0)) ∧ All2 (LeafR w K A h) ls cs ∧ known ls = true
  | .row e k xs => ∃ l, Owns w e k.sz (A.hd id) xs.length l ∧ RowR w K k xs l ∧ (ownB (A.hd id) = none ∨ ownB (A.hd id) = some (A.m id)) ∧ 0 < k.sz
  | .frz k xs => Kd.R w K (.sl k) xs [A.hd id] ∧ 0 < k.sz ∧ (xs.length = 0 ∨ ∃ n c, A.hd id = .slice (some ⟨A.m id, 0, none⟩) n c)
  | .dead => True
  | .lrec b pe rl => ∃ r : Loop, w.heap[A.m id]? = some (.loop r) ∧ r.state = (match b, pe with | true, _ => .busy | false, none => .ready | false, some _ => .done) ∧ (b = true ∨ r.pending = pe) ∧
      r.params.toList = rl.ps ∧ r.assign = rl.asg ∧ r.body = rl.body ∧ A.hd id = .tuple r.tmps

def UsesO (A : Asg) (id : Nat) : Option Blk → Prop
  | some (.box _) => True
  | some (.lrec ..) => True
  | some (.row ..) => ownB (A.hd id) ≠ none
  | _ => False

def Uses (A : Asg) (h : Heap) (id : Nat) : Prop := UsesO A id (h.get id)

/-- What one activation has to itself, and what it may read. -/
structure Ctx where
  E : Env
  w0 : World
  lent : Nat → Prop
  K0 : KSet
  D : List Deferred

structure HR (C : Ctx) (w : World) (K : KSet) (A : Asg) (h : Heap) : Prop where
  blk : ∀ id b, h.get id = some b → BlkR w K A h id b
  inj : ∀ id id', Uses A h id → Uses A h id' → A.m id = A.m id' → id = id'
  own : ∀ id, Uses A h id → ¬ K (A.m id) ∧ A.m id < w.heap.size ∧ (C.w0.heap.size ≤ A.m id ∨ C.lent (A.m id))
  kset : ∀ b, K b → b < w.heap.size ∧ (C.K0 b ∨ C.w0.heap.size ≤ b ∨ C.lent b)
  k0 : ∀ b, C.K0 b → K b
  glob : ∀ g p, C.E.glob g = some p → LeafR w K A h p.leaf (.pointer (some ⟨g, 0, none⟩))
  os : w.os = C.w0.os
  tape : w.tape = C.w0.tape
  output : w.output = C.w0.output
  size : C.w0.heap.size ≤ w.heap.size
  frame : ∀ b, b < C.w0.heap.size → ¬ C.lent b → w.heap[b]? = C.w0.heap[b]?

/-- What lay stays readable. -/
structure Ext (K : KSet) (A : Asg) (h : Heap) (w : World) (K' : KSet) (A' : Asg) (h' : Heap) (w' : World) : Prop where
  kk : ∀ b, K b → K' b ∧ w'.heap[b]? = w.heap[b]?
  hh : ∀ id, Ev.has h id → Ev.has h' id ∧ A'.m id = A.m id ∧ A'.hd id = A.hd id
  rr : ∀ id e k xs', Ev.has h id → h'.get id = some (.row e k xs') → ∃ xs, h.get id = some (.row e k xs) ∧ xs.length = xs'.length
  ff : ∀ id k xs', Ev.has h id → h'.get id = some (.frz k xs') → (∃ e xs, h.get id = some (.row e k xs) ∧ xs.length = xs'.length) ∨ (∃ xs, h.get id = some (.frz k xs) ∧ xs.length = xs'.length)

theorem Ext.refl (K : KSet) (A : Asg) (h : Heap) (w : World) : Ext K A h w K A h w :=
  ⟨fun _ hb => ⟨hb, rfl⟩, fun _ hi => ⟨hi, rfl, rfl⟩, fun _ _ _ xs' _ hg => ⟨xs', hg, rfl⟩, fun _ _ xs' _ hg => .inr ⟨xs', hg, rfl⟩⟩

theorem Ext.trans {K K1 K2 : KSet} {A A1 A2 : Asg} {h h1 h2 : Heap} {w w1 w2 : World} (x : Ext K A h w K1 A1 h1 w1) (y : Ext K1 A1 h1 w1 K2 A2 h2 w2) : Ext K A h w K2 A2 h2 w2 where
  kk b hb := by
    obtain ⟨a, b'⟩ := x.kk b hb
    obtain ⟨c, d⟩ := y.kk b a
    exact ⟨c, d.trans b'⟩
  hh id hi := by
    obtain ⟨a, b, c⟩ := x.hh id hi
    obtain ⟨d, e, f⟩ := y.hh id a
    exact ⟨d, e.trans b, f.trans c⟩
  rr id e k xs' hi hg := by
    obtain ⟨xs1, h1, l1⟩ := y.rr id e k xs' (x.hh id hi).1 hg
    obtain ⟨xs, h0, l0⟩ := x.rr id e k xs1 hi h1
    exact ⟨xs, h0, l0.trans l1⟩
  ff id k xs' hi hg := by
    rcases y.ff id k xs' (x.hh id hi).1 hg with ⟨e, xs1, h1, l1⟩ | ⟨xs1, h1, l1⟩
    · obtain ⟨xs, h0, l0⟩ := x.rr id e k xs1 hi h1
      exact .inl ⟨e, xs, h0, l0.trans l1⟩
    · rcases x.ff id k xs1 hi h1 with ⟨e, xs, h0, l0⟩ | ⟨xs, h0, l0⟩
      · exact .inl ⟨e, xs, h0, l0.trans l1⟩
      · exact .inr ⟨xs, h0, l0.trans l1⟩

section
variable {K K' : KSet} {A A' : Asg} {h h' : Heap} {w w' : World}

theorem Ext.R (x : Ext K A h w K' A' h' w') {k : Kd} {y : k.T} {l : List Value} (H : Kd.R w K k y l) : Kd.R w' K' k y l :=
  Kd.R_mono (fun b hb => (x.kk b hb).1) (fun b hb => (x.kk b hb).2) H

theorem Ext.rowR (x : Ext K A h w K' A' h' w') {k : Kd} {y : List k.T} {l : List Value} (H : RowR w K k y l) : RowR w' K' k y l :=
  RowR_mono (fun b hb => (x.kk b hb).1) (fun b hb => (x.kk b hb).2) H

theorem Ext.leaf (x : Ext K A h w K' A' h' w') {l : Leaf} {v : Value} (H : LeafR w K A h l v) : LeafR w' K' A' h' l v := by
  cases l with
  | undef => trivial
  | hole => exact H
  | kb b => exact H
  | dat k y => exact x.R (k := k) H
  | clip k xs => exact ⟨x.R (k := .sl k) H.1, H.2⟩
  | nils => exact H
  | nn b k xs => exact ⟨x.R (k := .sl k) H.1, H.2⟩
  | row id =>
    obtain ⟨a, b, f⟩ := H
    obtain ⟨c, _, e⟩ := x.hh id a
    exact ⟨c, by rw [e]; exact b, f⟩
  | ptr id off =>
    obtain ⟨a, b⟩ := H
    obtain ⟨c, d, _⟩ := x.hh id a
    exact ⟨c, by rw [d]; exact b⟩
  | eptr id i off =>
    obtain ⟨a, hr, hf⟩ := H
    obtain ⟨c, d, _⟩ := x.hh id a
    refine ⟨c, fun e k xs' hg => ?_, fun k xs' hg => ?_⟩
    · obtain ⟨xs, h0, l0⟩ := x.rr id e k xs' a hg
      rw [← l0, d]
      exact hr e k xs h0
    · rcases x.ff id k xs' a hg with ⟨e, xs, h0, l0⟩ | ⟨xs, h0, l0⟩
      · rw [← l0, d]
        exact hr e k xs h0
      · rw [← l0, d]
        exact hf k xs h0
  | vw id sz lo n =>
    obtain ⟨a, b, b', p, c, e, f, g⟩ := H
    obtain ⟨d, em, eh⟩ := x.hh id a
    exact ⟨d, b, b', p, c, e, f, by rw [em, eh]; exact g⟩
  | dptr k y =>
    obtain ⟨b, off, cs, t, fr, e, hb, hc, hR⟩ := H
    exact ⟨b, off, cs, t, fr, e, (x.kk b hb).1, (x.kk b hb).2.trans hc, x.R hR⟩
  | emp => exact H
  | aptr k ys =>
    obtain ⟨b, off, cs, t, fr, e, hb, hc, hR⟩ := H
    exact ⟨b, off, cs, t, fr, e, (x.kk b hb).1, (x.kk b hb).2.trans hc, fun i hi => x.R (hR i hi)⟩
  | nilp => exact H
  | fn f caps =>
    obtain ⟨a, b⟩ := H
    refine ⟨fun id hi => (x.hh id (a id hi)).1, ?_⟩
    rw [b]
    congr 2
    exact List.map_congr_left fun id hi => by rw [(x.hh id (a id hi)).2.1]
  | nilf => exact H
  | yld id =>
    obtain ⟨a, b⟩ := H
    obtain ⟨c, d, _⟩ := x.hh id a
    exact ⟨c, by rw [d]; exact b⟩

theorem Ext.leaves (x : Ext K A h w K' A' h' w') {ls : List Leaf} {vs : List Value} (H : All2 (LeafR w K A h) ls vs) : All2 (LeafR w' K' A' h') ls vs := H.imp fun _ _ => x.leaf

theorem Ext.av (x : Ext K A h w K' A' h' w') {l : AV} {v : Value} (H : AVR w K A h l v) : AVR w' K' A' h' l v := by
  cases l with
  | one l => exact x.leaf H
  | agg ls =>
    obtain ⟨cs, e, H⟩ := H
    exact ⟨cs, e, x.leaves H⟩

theorem Ext.slot (x : Ext K A h w K' A' h' w') {s : Slot} {v : Value} (H : SlotR w K A h s v) : SlotR w' K' A' h' s v := by
  cases s with
  | av l => exact x.av H
  | tup xs =>
    obtain ⟨vs, e, H⟩ := H
    exact ⟨vs, e, H.imp fun _ _ => x.av⟩
end

/-! ### The heap's list -/
theorem beq_ne {a b : Nat} (h : a ≠ b) : Nat.beq a b = false := by
  cases e : Nat.beq a b
  · rfl
  · exact absurd (Nat.eq_of_beq_eq_true e) h

theorem Heap.get_set (h : Heap) (id : Nat) (b : Blk) (id' : Nat) : (h.set id b).get id' = if id' = id then some b else h.get id' := by
  induction h with
  | nil =>
    by_cases e : id' = id
    · subst e; simp [Heap.set, Heap.get]
    · have := beq_ne (fun h => e h.symm : id ≠ id')
      simp [Heap.set, Heap.get, this, e]
  | cons p h ih =>
    obtain ⟨k, c⟩ := p
    by_cases e1 : k = id
    · subst e1
      by_cases e : id' = k
      · subst e; simp [Heap.set, Heap.get]
      · have := beq_ne (fun h => e h.symm : k ≠ id')
        simp [Heap.set, Heap.get, this, e]
    · have h1 := beq_ne e1
      simp only [Heap.set, h1, cond_false, Heap.get]
      by_cases e2 : k = id'
      · subst e2
        simp [e1]
      · have h2 := beq_ne e2
        simp only [h2, cond_false]
        exact ih

end Go.Ev
