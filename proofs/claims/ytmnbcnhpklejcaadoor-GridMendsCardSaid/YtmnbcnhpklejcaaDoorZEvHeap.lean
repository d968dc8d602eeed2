/- Steps on a frame's blocks. -/
import Derived.Test.YtmnbcnhpklejcaaDoorZEvPack
set_option linter.unusedVariables false
namespace Go.Ev
open Go.RowKit

section
variable {C : Ctx} {w w' : World} {K K' : KSet} {A A' : Asg} {h h' : Heap}

theorem has_of_get {id : Nat} {b : Blk} (hg : h.get id = some b) : has h id := by unfold Ev.has; rw [hg]; rfl

theorem uses_has {id : Nat} (hu : Uses A h id) : has h id := by
  unfold Uses at hu
  unfold Ev.has
  cases hg : h.get id with
  | none => rw [hg] at hu; exact hu.elim
  | some b => rfl

theorem uses_row {i : Nat} {e : TypeId} {k : Kd} {xs : List k.T} (hg : h.get i = some (.row e k xs)) {g : Nat} (ho : ownB (A.hd i) = some g) : Uses A h i := by
  unfold Uses
  rw [hg]
  simp [UsesO, ho]

theorem uses_box {i : Nat} {ls : List Leaf} (hg : h.get i = some (.box ls)) : Uses A h i := by
  unfold Uses
  rw [hg]
  trivial

theorem BlkR.keep (x : Ext K A h w K' A' h' w') {i : Nat} {b : Blk} (hg : h.get i = some b) (hh : Uses A h i → w'.heap[A.m i]? = w.heap[A.m i]?) (H : BlkR w K A h i b) : BlkR w' K' A' h' i b := by
  obtain ⟨_, em, eh⟩ := x.hh i (has_of_get hg)
  cases b with
  | box ls =>
    obtain ⟨cs, t, h1, h2, h3⟩ := H
    exact ⟨cs, t, by rw [em, hh (uses_box hg)]; exact h1, x.leaves h2, h3⟩
  | row e k xs =>
    obtain ⟨l, h1, h2, h3, h4⟩ := H
    refine ⟨l, ?_, x.rowR h2, by rw [eh, em]; exact h3, h4⟩
    rw [eh]
    obtain ⟨hl, h1 | ⟨g, cap, cur, fz, hv, hb, hc, r⟩⟩ := h1
    · exact ⟨hl, .inl h1⟩
    · refine ⟨hl, .inr ⟨g, cap, cur, fz, hv, hb, ?_, r⟩⟩
      have hgm : g = A.m i := by
        rcases h3 with h3 | h3
        · rw [hv, ownB_pos hb] at h3; cases h3
        · rw [hv, ownB_pos hb] at h3; simpa using h3
      rw [hgm, hh (uses_row hg (g := g) (by rw [hv]; exact ownB_pos hb)), ← hgm]
      exact hc
  | frz k xs =>
    obtain ⟨h1, h2, h3⟩ := H
    exact ⟨by rw [eh]; exact x.R h1, h2, by rw [eh, em]; exact h3⟩
  | dead => trivial
  | lrec b pe rl =>
    obtain ⟨r, h1, h2⟩ := H
    exact ⟨r, by rw [em, hh (by unfold Uses; rw [hg]; trivial)]; exact h1, by rw [eh]; exact h2⟩

theorem HR.update (H : HR C w K A h) {id : Nat} {b : Blk} (x : Ext K A h w K A' (h.set id b) w')
    (hnew : BlkR w' K A' (h.set id b) id b)
    (huse : UsesO A' id (some b) → ¬ K (A'.m id) ∧ A'.m id < w'.heap.size ∧ (C.w0.heap.size ≤ A'.m id ∨ C.lent (A'.m id)) ∧ ∀ i, i ≠ id → Uses A h i → A.m i ≠ A'.m id)
    (hheap : ∀ i, i ≠ id → Uses A h i → w'.heap[A.m i]? = w.heap[A.m i]?)
    (hos : w'.os = w.os) (htape : w'.tape = w.tape) (hout : w'.output = w.output) (hsize : w.heap.size ≤ w'.heap.size)
    (hframe : ∀ k, k < C.w0.heap.size → ¬ C.lent k → w'.heap[k]? = w.heap[k]?) : HR C w' K A' (h.set id b) where
  blk i b' hg := by
    rw [Heap.get_set] at hg
    by_cases e : i = id
    · rw [if_pos e] at hg
      cases hg
      rw [e]
      exact hnew
    · rw [if_neg e] at hg
      exact BlkR.keep x hg (hheap i e) (H.blk i b' hg)
  inj i i' hu hu' hm := by
    have key : ∀ j, Uses A' (h.set id b) j → j = id ∧ UsesO A' id (some b) ∨ j ≠ id ∧ Uses A h j ∧ A'.m j = A.m j := fun j hj => by
      have hj' := hj
      unfold Uses at hj
      rw [Heap.get_set] at hj
      by_cases e : j = id
      · rw [if_pos e] at hj
        rw [e] at hj
        exact .inl ⟨e, hj⟩
      · rw [if_neg e] at hj
        have hhas : has h j := by
          unfold Ev.has
          cases hg : h.get j with
          | none => rw [hg] at hj; exact hj.elim
          | some b => rfl
        obtain ⟨_, em, eh⟩ := x.hh j hhas
        refine .inr ⟨e, ?_, em⟩
        unfold Uses
        cases hg : h.get j with
        | none => rw [hg] at hj; exact hj.elim
        | some b' =>
          rw [hg] at hj
          cases b' with
          | box _ => trivial
          | row _ _ _ =>
            show ownB (A.hd j) ≠ none
            rw [← eh]
            exact hj
          | frz _ _ => exact hj
          | dead => exact hj
          | lrec _ _ _ => trivial
    rcases key i hu with ⟨e, u⟩ | ⟨e, u, m⟩ <;> rcases key i' hu' with ⟨e', u'⟩ | ⟨e', u', m'⟩
    · rw [e, e']
    · rw [e, m'] at hm
      exact absurd hm.symm ((huse u).2.2.2 i' e' u')
    · rw [e', m] at hm
      exact absurd hm ((huse u').2.2.2 i e u)
    · rw [m, m'] at hm
      exact H.inj i i' u u' hm
  own i hu := by
    unfold Uses at hu
    rw [Heap.get_set] at hu
    by_cases e : i = id
    · rw [if_pos e] at hu
      rw [e] at hu ⊢
      obtain ⟨a, b, c, _⟩ := huse hu
      exact ⟨a, b, c⟩
    · rw [if_neg e] at hu
      have hhas : has h i := by
        unfold Ev.has
        cases hg : h.get i with
        | none => rw [hg] at hu; exact hu.elim
        | some b => rfl
      obtain ⟨_, em, eh⟩ := x.hh i hhas
      have hu' : Uses A h i := by
        unfold Uses
        cases hg : h.get i with
        | none => rw [hg] at hu; exact hu.elim
        | some b' =>
          rw [hg] at hu
          cases b' with
          | box _ => trivial
          | row _ _ _ =>
            show ownB (A.hd i) ≠ none
            rw [← eh]
            exact hu
          | frz _ _ => exact hu
          | dead => exact hu
          | lrec _ _ _ => trivial
      obtain ⟨a, b, c⟩ := H.own i hu'
      rw [em]
      exact ⟨a, Nat.lt_of_lt_of_le b hsize, c⟩
  kset b hb := by
    obtain ⟨a, c⟩ := H.kset b hb
    exact ⟨Nat.lt_of_lt_of_le a hsize, c⟩
  k0 := H.k0
  glob g l hl := x.leaf (H.glob g l hl)
  os := hos.trans H.os
  tape := htape.trans H.tape
  output := hout.trans H.output
  size := Nat.le_trans H.size hsize
  frame b hb hl := (hframe b hb hl).trans (H.frame b hb hl)

/-- A block's number told anew. -/
def Asg.at (A : Asg) (id m : Nat) (v : Value) : Asg := { m := fun i => if i = id then m else A.m i, hd := fun i => if i = id then v else A.hd i }

theorem ext_new {id : Nat} {b : Blk} (hn : h.get id = none) (m : Nat) (v : Value) (hw : ∀ b, K b → w'.heap[b]? = w.heap[b]?) : Ext K A h w K (A.at id m v) (h.set id b) w' := by
  have ne : ∀ i, has h i → i ≠ id := fun i hi e => by
    unfold Ev.has at hi
    rw [e, hn] at hi
    cases hi
  refine ⟨fun b hb => ⟨hb, hw b hb⟩, fun i hi => ⟨?_, by simp [Asg.at, ne i hi], by simp [Asg.at, ne i hi]⟩, fun i e k xs' hi hg => ?_, fun i k xs' hi hg => ?_⟩
  · unfold Ev.has
    rw [Heap.get_set, if_neg (ne i hi)]
    exact hi
  · rw [Heap.get_set, if_neg (ne i hi)] at hg
    exact ⟨xs', hg, rfl⟩
  · rw [Heap.get_set, if_neg (ne i hi)] at hg
    exact .inr ⟨xs', hg, rfl⟩

theorem alloc_heap_lt (o : Obj) {b : Nat} (hb : b < w.heap.size) : (w.alloc o).heap[b]? = w.heap[b]? := Below.heap_alloc w o b hb
theorem alloc_heap_new (o : Obj) : (w.alloc o).heap[w.heap.size]? = some o := heap_alloc_new w o
theorem alloc_size (o : Obj) : (w.alloc o).heap.size = w.heap.size + 1 := by simp

/-- A new variable. -/
theorem HR.newBox (H : HR C w K A h) {id : Nat} {ls : List Leaf} {cs : List Value} (t : TypeId) (hn : h.get id = none) (hl : All2 (LeafR w K A h) ls cs) (hk : known ls = true) :
    ∃ A', HR C (w.alloc (.cells cs.toArray t)) K A' (h.set id (.box ls)) ∧ Ext K A h w K A' (h.set id (.box ls)) (w.alloc (.cells cs.toArray t)) ∧ A'.m id = w.heap.size := by
  have x : Ext K A h w K (A.at id w.heap.size undef) (h.set id (.box ls)) (w.alloc (.cells cs.toArray t)) :=
    ext_new hn _ _ fun b hb => alloc_heap_lt _ (H.kset b hb).1
  refine ⟨_, H.update x ⟨cs, t, by rw [show (A.at id w.heap.size undef).m id = w.heap.size from by simp [Asg.at]]; exact alloc_heap_new _, x.leaves hl, hk⟩ (fun _ => ⟨fun hb => ?_, by simp [Asg.at], .inl ?_, fun i _ hu => ?_⟩) (fun i _ hu => alloc_heap_lt _ (H.own i hu).2.1)
    rfl rfl rfl (by simp) (fun k hk _ => alloc_heap_lt _ (Nat.lt_of_lt_of_le hk H.size)), x, by simp [Asg.at]⟩
  · have := (H.kset _ hb).1
    simp [Asg.at] at this
  · simp [Asg.at]; exact H.size
  · have := (H.own i hu).2.1
    simp [Asg.at]; omega

/-- A row that is told no more. -/
theorem HR.kill (H : HR C w K A h) {id : Nat} (hh : has h id) : HR C w K A (h.set id .dead) ∧ Ext K A h w K A (h.set id .dead) w := by
  have x : Ext K A h w K A (h.set id .dead) w := by
    refine ⟨fun b hb => ⟨hb, rfl⟩, fun i hi => ⟨?_, rfl, rfl⟩, fun i e k xs' hi hg => ?_, fun i k xs' hi hg => ?_⟩
    · unfold Ev.has at *
      rw [Heap.get_set]
      split
      · rfl
      · exact hi
    · rw [Heap.get_set] at hg
      split at hg
      · cases hg
      · exact ⟨xs', hg, rfl⟩
    · rw [Heap.get_set] at hg
      split at hg
      · cases hg
      · exact .inr ⟨xs', hg, rfl⟩
  exact ⟨H.update x trivial (fun hu => hu.elim) (fun _ _ _ => rfl) rfl rfl rfl (Nat.le_refl _) (fun _ _ _ => rfl), x⟩

/-- A row that the call owns: new, or grown in the place of one that is told no more (its block: ob). -/
theorem HR.addRow (H : HR C w K A h) {id : Nat} {e : TypeId} {k : Kd} {xs : List k.T} {l : List Value} {v : Value} (ob : Option Nat) (hn : h.get id = none) (hg : w.grownBy w' ob)
    (hob : ∀ g, ob = some g → ¬ K g ∧ g < w.heap.size ∧ (C.w0.heap.size ≤ g ∨ C.lent g) ∧ ∀ i, Uses A h i → A.m i ≠ g)
    (ho : Owns w' e k.sz v xs.length l) (hr : RowR w K k xs l) (hz : 0 < k.sz) (hv : ∀ g, ownB v = some g → ob = some g ∨ w.heap.size ≤ g) :
    ∃ A', HR C w' K A' (h.set id (.row e k xs)) ∧ Ext K A h w K A' (h.set id (.row e k xs)) w' ∧ A'.hd id = v := by
  have hKw : ∀ b, K b → w'.heap[b]? = w.heap[b]? := fun b hb => hg.block b (H.kset b hb).1 fun ee => (hob b ee.symm).1 hb
  obtain ⟨m, hm⟩ : ∃ m, ownB v = none ∨ ownB v = some m := by
    cases hvo : ownB v with
    | none => exact ⟨0, .inl rfl⟩
    | some g => exact ⟨g, .inr rfl⟩
  have x : Ext K A h w K (A.at id m v) (h.set id (.row e k xs)) w' := ext_new hn _ _ hKw
  have hd : (A.at id m v).hd id = v := by simp [Asg.at]
  have hmm : (A.at id m v).m id = m := by simp [Asg.at]
  refine ⟨_, H.update x ⟨l, by rw [hd]; exact ho, x.rowR hr, by rw [hd, hmm]; exact hm, hz⟩ (fun hu => ?_) (fun i _ hu => ?_) hg.os hg.tape hg.output hg.size (fun b hb hl => ?_), x, hd⟩
  · have hu' : ownB v ≠ none := by rw [← hd]; exact hu
    have hvm : ownB v = some m := hm.resolve_left hu'
    rw [hmm]
    have hlt : m < w'.heap.size := by
      obtain ⟨cap, cur, fz, _, _, hc, _⟩ := ho.at hvm
      exact (Array.getElem?_eq_some_iff.1 hc).1
    rcases hv m hvm with h1 | h1
    · obtain ⟨a, b, c, d⟩ := hob m h1
      exact ⟨a, hlt, c, fun i _ hu => d i hu⟩
    · refine ⟨fun hb => ?_, hlt, .inl (Nat.le_trans H.size h1), fun i _ hu => ?_⟩
      · have := (H.kset _ hb).1
        omega
      · have := (H.own i hu).2.1
        omega
  · refine hg.block _ (H.own i hu).2.1 fun ee => ?_
    exact (hob _ ee.symm).2.2.2 i hu rfl
  · refine hg.block b (Nat.lt_of_lt_of_le hb H.size) fun ee => ?_
    obtain ⟨_, _, c, _⟩ := hob b ee.symm
    rcases c with c | c
    · omega
    · exact hl c

/-- A variable that is written. -/
theorem HR.setBox (H : HR C w K A h) {id : Nat} {ls ls' : List Leaf} {cs' : List Value} (hg : h.get id = some (.box ls)) (hl : All2 (LeafR w K A h) ls' cs') (hk : known ls' = true) :
    HR C (w.setRow (A.m id) cs'.toArray) K A (h.set id (.box ls')) ∧ Ext K A h w K A (h.set id (.box ls')) (w.setRow (A.m id) cs'.toArray) := by
  obtain ⟨cs, t, hc, _, _⟩ := H.blk id _ hg
  have hu0 : Uses A h id := uses_box hg
  obtain ⟨hnk, hlt, hbl⟩ := H.own id hu0
  have hne : ∀ b, b ≠ A.m id → (w.setRow (A.m id) cs'.toArray).heap[b]? = w.heap[b]? := fun b hb => setRow_other w _ _ _ hb
  have x : Ext K A h w K A (h.set id (.box ls')) (w.setRow (A.m id) cs'.toArray) := by
    refine ⟨fun b hb => ⟨hb, hne b fun e => hnk (e ▸ hb)⟩, fun i hi => ⟨?_, rfl, rfl⟩, fun i e k xs' hi hgi => ?_, fun i k xs' hi hgi => ?_⟩
    · unfold Ev.has at *
      rw [Heap.get_set]
      split
      · rfl
      · exact hi
    · rw [Heap.get_set] at hgi
      split at hgi
      · cases hgi
      · exact ⟨xs', hgi, rfl⟩
    · rw [Heap.get_set] at hgi
      split at hgi
      · cases hgi
      · exact .inr ⟨xs', hgi, rfl⟩
  have hsz : (w.setRow (A.m id) cs'.toArray).heap.size = w.heap.size := setRow_size w _ _
  refine ⟨H.update x ⟨cs', t, setRow_heap w _ cs.toArray _ t _ hc, x.leaves hl, hk⟩ (fun _ => ⟨hnk, by rw [hsz]; exact hlt, hbl, fun i hi hu e => hi (H.inj i id hu hu0 e)⟩)
    (fun i hi hu => hne _ fun e => hi (H.inj i id hu hu0 e)) rfl rfl rfl (Nat.le_of_eq hsz.symm) (fun b hb hl => hne b fun e => ?_), x⟩
  rcases hbl with hbl | hbl
  · omega
  · exact hl (e ▸ hbl)

end
end Go.Ev
