/- A region whose order is drawn: the order of its text serves every order. -/
import Derived.Test.YtmnbcnhpklejcaaDoorZEvStep
import Derived.OrdersIn
set_option linter.unusedVariables false
namespace Go.Ev
open Go.RowKit

/-! ### Told by the same numbers -/
theorem Leaf.ren_id (l : Leaf) : l.ren (fun x => x) = l := by cases l <;> simp [Leaf.ren]
theorem AV.ren_id (v : AV) : v.ren (fun x => x) = v := by
  cases v with
  | one l => simp [AV.ren, Leaf.ren_id]
  | agg ls => simp [AV.ren, show (Leaf.ren fun x => x) = id from funext Leaf.ren_id]
theorem Blk.ren_id (b : Blk) : b.ren (fun x => x) = b := by
  cases b <;> simp [Blk.ren, show (Leaf.ren fun x => x) = id from funext Leaf.ren_id]

def updG (g : Nat → Option Blk) : List (Nat × Blk) → Nat → Option Blk
  | [] => g
  | (k, b) :: u => updG (fun id => if id = k then some b else g id) u

theorem sets_get : ∀ (u : List (Nat × Blk)) (h : Heap), (h.sets u).get = updG h.get u
  | [], h => rfl
  | (k, b) :: u, h => by
    simp only [Heap.sets, updG]
    rw [sets_get u (h.set k b)]
    congr 1
    funext id
    exact Heap.get_set h k b id

theorem updG_out : ∀ {u : List (Nat × Blk)} {g : Nat → Option Blk} {id : Nat}, id ∉ keysOf u → updG g u id = g id
  | [], g, id, _ => rfl
  | (k, b) :: u, g, id, h => by
    simp only [keysOf, List.mem_cons, not_or] at h
    simp only [updG]
    rw [updG_out h.2, if_neg h.1]

theorem updG_in : ∀ {u : List (Nat × Blk)} {g g' : Nat → Option Blk} {id : Nat}, id ∈ keysOf u → updG g u id = updG g' u id ∧ (updG g u id).isSome = true
  | [], g, g', id, h => by simp [keysOf] at h
  | (k, b) :: u, g, g', id, h => by
    simp only [updG]
    by_cases hu : id ∈ keysOf u
    · exact updG_in hu
    · have : id = k := by
        simp only [keysOf, List.mem_cons] at h
        exact h.resolve_right hu
      rw [updG_out hu, updG_out hu, if_pos this, if_pos this]
      exact ⟨rfl, rfl⟩

theorem updG_congr {u : List (Nat × Blk)} {g g' : Nat → Option Blk} {id : Nat} (h : id ∉ keysOf u → g id = g' id) : updG g u id = updG g' u id := by
  by_cases hu : id ∈ keysOf u
  · exact (updG_in hu).1
  · rw [updG_out hu, updG_out hu, h hu]

theorem updG_comm {u v : List (Nat × Blk)} {g : Nat → Option Blk} (h : ∀ id, id ∈ keysOf u → id ∉ keysOf v) : updG (updG g u) v = updG (updG g v) u := by
  funext id
  by_cases hu : id ∈ keysOf u
  · have hv := h id hu
    rw [updG_out hv]
    exact (updG_in hu).1
  · rw [updG_out (u := u) hu]
    exact updG_congr fun _ => updG_out hu

theorem okNew_iff {g : Nat → Option Blk} {ids : List Nat} : ∀ {u : List (Nat × Blk)}, okNew g ids u = true ↔ ∀ k ∈ keysOf u, k ∈ ids ∨ g k = none
  | [] => by simp [okNew, keysOf]
  | p :: u => by
    simp only [okNew, keysOf, List.mem_cons, forall_eq_or_imp]
    cases hm : memN p.1 ids with
    | true => simp [memN_iff.1 hm, okNew_iff (u := u)]
    | false =>
      have hn : ¬ p.1 ∈ ids := fun h => by rw [memN_iff.2 h] at hm; cases hm
      cases hg : g p.1 with
      | none => simp [okNew_iff (u := u)]
      | some b => simp [hn]

theorem disj_iff {m : List Nat} : ∀ {l : List Nat}, disj l m = true ↔ ∀ a ∈ l, a ∉ m
  | [] => by simp [disj]
  | a :: l => by
    simp only [disj, List.mem_cons, forall_eq_or_imp]
    cases hm : memN a m with
    | true => simp [memN_iff.1 hm]
    | false =>
      have hn : ¬ a ∈ m := fun h => by rw [memN_iff.2 h] at hm; cases hm
      simp [hn, disj_iff (l := l)]

theorem reachO_spec {g g' : Nat → Option Blk} : ∀ {n : Nat} {todo seen L : List Nat}, reachO g n todo seen = some L → (∀ id ∈ seen, id ∈ L) ∧ ((∀ id ∈ L, g' id = g id) → reachO g' n todo seen = some L)
  | 0, _, _, _, h => by simp [reachO] at h
  | n + 1, [], seen, L, h => by
    simp only [reachO, Option.some.injEq] at h ⊢
    subst h
    exact ⟨fun _ h => h, fun _ => rfl⟩
  | n + 1, id :: todo, seen, L, h => by
    simp only [reachO] at h ⊢
    cases hm : memN id seen with
    | true =>
      rw [hm] at h
      exact reachO_spec (n := n) h
    | false =>
      rw [hm] at h
      simp only [cond_false] at h ⊢
      cases hg : g id with
      | none => rw [hg] at h; cases h
      | some b =>
        rw [hg] at h
        obtain ⟨h1, h2⟩ := reachO_spec (n := n) h
        refine ⟨fun i hi => h1 i (by rw [app_eq]; exact List.mem_append_left _ hi), fun hag => ?_⟩
        have hid : id ∈ L := h1 id (by rw [app_eq]; simp)
        rw [hag id hid, hg]
        exact h2 hag

theorem blksO_spec {g g' : Nat → Option Blk} : ∀ {ids : List Nat} {bs : List Blk}, blksO g ids = some bs →
    ((∀ id ∈ ids, g' id = g id) → blksO g' ids = some bs) ∧ bs.length = ids.length ∧ ∀ (j id : Nat), ids[j]? = some id → g id = bs[j]? ∧ (g id).isSome = true
  | [], bs, h => by
    simp only [blksO, Option.some.injEq] at h
    subst h
    exact ⟨fun _ => rfl, rfl, fun j id hj => by simp at hj⟩
  | id :: ids, bs, h => by
    simp only [blksO] at h
    split at h
    · rename_i b hg
      split at h
      · rename_i bs' hb
        cases h
        obtain ⟨h1, h2, h3⟩ := blksO_spec hb
        refine ⟨fun hag => ?_, by simp [h2], fun j i hj => ?_⟩
        · simp only [blksO]
          rw [hag id (by simp), hg, h1 (fun i hi => hag i (by simp [hi]))]
        · cases j with
          | zero => simp at hj; subst hj; simp [hg]
          | succ j => simpa using h3 j i (by simpa using hj)
      · cases h
    · cases h

/-! ### One operation, on what it looks at alone -/
def RunsTo (E : Env) (ops : List Oper) (o : Oper) (ρ : Rec) (t : Tms) (g : Nat → Option Blk) : Prop :=
  (runD E ops o t g).val = some ρ ∧ okNew g ρ.ids ρ.u = true

theorem splitD_val {b : Bool} {ρ ρ' : Rec} (h : (splitD b ρ).val = some ρ') : ρ'.u = ρ.u ∧ ρ'.ids = ρ.ids ∧ (ρ'.v = ρ.v ∨ ∃ x, ρ.v = one (.dat .bool x) ∧ ρ'.v = one (.kb x)) := by
  unfold splitD at h
  split at h
  · rename_i x hv
    simp only [Tr.val] at h
    cases x <;> cases h
    · exact ⟨rfl, rfl, .inr ⟨false, hv, rfl⟩⟩
    · exact ⟨rfl, rfl, .inr ⟨true, hv, rfl⟩⟩
  · cases h
    exact ⟨rfl, rfl, .inl rfl⟩

theorem runD_true {E : Env} {ops : List Oper} {o : Oper} {t : Tms} {g : Nat → Option Blk} {ρ : Rec} (h : (runD E ops o t g).val = some ρ) (hw : wantD ops (t.keep (looks ops o)) o = some true) (hp : ptrOp E (t.keep (looks ops o)) o = none) :
    ∃ bs r, reachO g 100 ((t.keep (looks ops o)).ids (looks ops o)) [] = some ρ.ids ∧ blksO g ρ.ids = some bs ∧ ρ.ids.Nodup ∧
      (∀ id ∈ (t.keep (looks ops o)).ids (looks ops o), id ∈ ρ.ids) ∧ (∀ id ∈ flat Blk.ids bs, id ∈ ρ.ids) ∧ opRun E { t := t.keep (looks ops o), h := zipK ρ.ids bs } o = some r ∧
      r.c ≠ some false ∧ ρ.u = r.u ∧ (ρ.v = r.v ∨ ∃ x, r.v = one (.dat .bool x) ∧ ρ.v = one (.kb x)) := by
  unfold runD at h
  simp only [hw, hp] at h
  split at h
  · rename_i ids hids
    split at h
    · rename_i bs hbs
      cases hck : (nodupN ids && (subN ((t.keep (looks ops o)).ids (looks ops o)) ids && subN (flat Blk.ids bs) ids)) with
      | false => rw [hck] at h; cases h
      | true =>
        rw [hck] at h
        simp only [cond_true] at h
        simp only [Bool.and_eq_true] at hck
        obtain ⟨h1, h2, h3⟩ := hck
        split at h
        · rename_i r hr
          rw [val_bind, Option.bind_eq_some_iff] at h
          obtain ⟨ρ0, h4, h5⟩ := h
          obtain ⟨hc, h4⟩ := need_val h4
          cases h4
          obtain ⟨e1, e2, e3⟩ := splitD_val h5
          simp only [] at e1 e2 e3
          rw [e2]
          exact ⟨bs, r, hids, hbs, nodupN_iff.1 h1, subN_iff.1 h2, subN_iff.1 h3, hr, hc, e1, e3⟩
        · cases h
    · cases h
  · cases h

theorem runD_congr {E : Env} {ops : List Oper} {o : Oper} {t t' : Tms} {g g' : Nat → Option Blk} {ρ : Rec} (h : (runD E ops o t g).val = some ρ)
    (hm : t'.keep (looks ops o) = t.keep (looks ops o)) (hg : ∀ id ∈ ρ.ids, g' id = g id) : (runD E ops o t' g').val = some ρ := by
  cases hw : wantD ops (t.keep (looks ops o)) o with
  | none => unfold runD at h; simp only [hw] at h; cases h
  | some b =>
    cases b with
    | false =>
      unfold runD at h ⊢
      simp only [hm, hw] at h ⊢
      exact h
    | true =>
      cases hp : ptrOp E (t.keep (looks ops o)) o with
      | some v =>
        unfold runD at h ⊢
        simp only [hm, hw, hp] at h ⊢
        exact h
      | none =>
      obtain ⟨bs, r, h1, h2, _⟩ := runD_true h hw hp
      have h1' := (reachO_spec (g' := g') h1).2 hg
      have h2' := (blksO_spec (g' := g') h2).1 hg
      unfold runD at h ⊢
      simp only [hm, hw, hp, h1, h2, h1', h2'] at h ⊢
      exact h

section
variable {P : Program} {F : Fence} {n : Nat} {C : Ctx} {X : Start}

theorem LeafR.part {w : World} {K : KSet} {A A' : Asg} {h h' : Heap} {l : Leaf} {v : Value} (hh : ∀ id ∈ l.ids, Ev.has h id → h'.get id = h.get id ∧ A'.m id = A.m id ∧ A'.hd id = A.hd id) (H : LeafR w K A h l v) : LeafR w K A' h' l v := by
  have hs : ∀ id ∈ l.ids, Ev.has h id → Ev.has h' id := fun id hi hx => by unfold Ev.has at hx ⊢; rw [(hh id hi hx).1]; exact hx
  cases l with
  | row id =>
    obtain ⟨a, b, c⟩ := H
    exact ⟨hs id (by simp [Leaf.ids]) a, by rw [(hh id (by simp [Leaf.ids]) a).2.2]; exact b, c⟩
  | ptr id off =>
    obtain ⟨a, b⟩ := H
    exact ⟨hs id (by simp [Leaf.ids]) a, by rw [(hh id (by simp [Leaf.ids]) a).2.1]; exact b⟩
  | vw id sz lo n =>
    obtain ⟨a, b, b', p, c, e', f', g⟩ := H
    have h3 := hh id (by simp [Leaf.ids]) a
    exact ⟨hs id (by simp [Leaf.ids]) a, b, b', p, c, e', f', by rw [h3.2.1, h3.2.2]; exact g⟩
  | eptr id i off =>
    obtain ⟨a, b, c⟩ := H
    have h3 := hh id (by simp [Leaf.ids]) a
    refine ⟨hs id (by simp [Leaf.ids]) a, fun e k xs hg => ?_, fun k xs hg => ?_⟩
    · rw [h3.2.1]; exact b e k xs (by rw [← h3.1]; exact hg)
    · rw [h3.2.1]; exact c k xs (by rw [← h3.1]; exact hg)
  | fn f caps =>
    obtain ⟨a, b⟩ := H
    refine ⟨fun id hi => hs id hi (a id hi), ?_⟩
    rw [b]
    congr 2
    exact List.map_congr_left fun id hi => by rw [(hh id hi (a id hi)).2.1]
  | yld id =>
    obtain ⟨a, b⟩ := H
    exact ⟨hs id (by simp [Leaf.ids]) a, by rw [(hh id (by simp [Leaf.ids]) a).2.1]; exact b⟩
  | _ => exact H

theorem All2.mapR {α β : Type} {R S : α → β → Prop} : ∀ {l : List α} {m : List β}, All2 R l m → (∀ a ∈ l, ∀ b, R a b → S a b) → All2 S l m
  | _, _, .nil, _ => .nil
  | _, _, .cons r H, h => .cons (h _ (by simp) _ r) (H.mapR fun a ha b hr => h a (by simp [ha]) b hr)

theorem AVR.part {w : World} {K : KSet} {A A' : Asg} {h h' : Heap} {l : AV} {v : Value} (hh : ∀ id ∈ l.ids, Ev.has h id → h'.get id = h.get id ∧ A'.m id = A.m id ∧ A'.hd id = A.hd id) (H : AVR w K A h l v) : AVR w K A' h' l v := by
  cases l with
  | one l => exact LeafR.part (l := l) (fun id hi => hh id (by simp [AV.ids, AV.leafs, flat, app_eq, hi])) H
  | agg ls =>
    obtain ⟨cs, e, H⟩ := H
    exact ⟨cs, e, H.mapR fun l hl v h0 => LeafR.part (fun id hi => hh id (mem_flat.2 ⟨l, hl, hi⟩)) h0⟩

theorem SlotR.part {w : World} {K : KSet} {A A' : Asg} {h h' : Heap} {s : Slot} {v : Value} (hh : ∀ id ∈ s.ids, Ev.has h id → h'.get id = h.get id ∧ A'.m id = A.m id ∧ A'.hd id = A.hd id) (H : SlotR w K A h s v) : SlotR w K A' h' s v := by
  cases s with
  | av l => exact AVR.part (l := l) hh H
  | tup xs =>
    obtain ⟨vs, e, H⟩ := H
    exact ⟨vs, e, H.mapR fun l hl v h0 => AVR.part (fun id hi => hh id (mem_flat.2 ⟨l, hl, hi⟩)) h0⟩

/-- The state that these slots and blocks tell. -/
def okG (C : Ctx) (X : Start) (t : Tms) (g : Nat → Option Blk) (a : Act) (w : World) : Prop := ∃ h : Heap, h.get = g ∧ St.ok C X { t := t, h := h } a w

theorem opnd_keep {E : Env} {t : Tms} {live : List Nat} {x : Operand} {h h' : Heap} {s : Slot} (hs : opnd E { t := t.keep live, h := h } x = some s) (hu : s ≠ undefS) : opnd E { t := t, h := h' } x = some s := by
  cases x with
  | tmp d =>
    rcases Tms.keep_at (show (t.keep live).at d = some s from hs) with h0 | ⟨_, h0⟩
    · exact absurd h0 hu
    · exact h0
  | const v => exact hs
  | global g => exact hs
  | func f => exact hs

theorem ptrOp_run {E : Env} {t : Tms} {live : List Nat} {o : Oper} {h : Heap} {v : Slot} (hp : ptrOp E (t.keep live) o = some v) : opRun E { t := t, h := h } o = some { v := v } := by
  unfold ptrOp at hp
  split at hp
  · rename_i ty x f hop
    split at hp
    · rename_i tyi hty
      split at hp
      · rename_i id off hl
        split at hp
        · rename_i l hf
          cases hp
          have hl' : opLeaf E { t := t, h := h } x = some (.ptr id off) := by
            unfold opLeaf at hl ⊢
            split at hl
            · rename_i l0 ho
              cases hl
              rw [opnd_keep ho (fun e => by cases e)]
            · cases hl
          have hf' : fieldAddrR tyi h (.ptr id off) f = some l := hf
          unfold opRun
          simp only [hop, hty, hl', hf', orL]
        · cases hp
      · cases hp
    · cases hp
  · rename_i x hop
    split at hp
    · rename_i id off ho
      cases hp
      unfold opRun
      simp only [hop, opnd_keep ho (fun e => by cases e)]
    · rename_i id ho
      cases hp
      unfold opRun
      simp only [hop, opnd_keep ho (fun e => by cases e)]
    · cases hp
  · cases hp

theorem runD_R (B : Base F P C.E) {ops : Array Oper} {o : Oper} {ρ : Rec} {t : Tms} {g : Nat → Option Blk} {a : Act} {w : World} {next : Act → World → Prop} {Q : Exit → Act → World → Prop}
    (hr : RunsTo C.E ops.toList o ρ t g) (hok : okG C X t g a w) (hk : ∀ a' w', okG C X (putSlot t o.dst ρ.v) (updG g ρ.u) a' w' → next a' w') :
    if Region.wanted o (yielded ops a.tmps) then o.wpIn F n P a w next Q else (∀ f, o.about P w a.eval = some f → F.fn f) ∧ next (a.put o.dst undef) w := by
  obtain ⟨hrun, hnew⟩ := hr
  obtain ⟨h, hg, hok⟩ := hok
  have hnew := okNew_iff.1 hnew
  have wanted : ∀ b, wantD ops.toList (t.keep (looks ops.toList o)) o = some b → Region.wanted o (yielded ops a.tmps) = b := by
    intro b hw
    unfold wantD at hw
    unfold Region.wanted
    cases hgu : o.guard with
    | none => simp only [hgu, Option.some.injEq] at hw; rw [hw]
    | some p =>
      obtain ⟨j, want⟩ := p
      simp only [hgu] at hw
      cases hgs : guardSlot ops.toList j with
      | none => simp only [hgs] at hw; cases hw
      | some d =>
        simp only [hgs] at hw
        split at hw
        · rename_i x hx
          rcases Tms.keep_at hx with h0 | ⟨_, h0⟩
          · cases h0
          · obtain ⟨hlt, K, A, hS⟩ := hok.slot h0
            have hy := yielded_of hgs hlt hS
            simp only [Option.some.injEq] at hw
            simp only [hy]
            rw [← hw]
            cases x <;> cases want <;> rfl
        · rename_i hx
          rcases Tms.keep_at hx with h0 | ⟨_, h0⟩
          · cases h0
          · obtain ⟨hlt, K, A, hS⟩ := hok.slot h0
            have hy := yielded_hole hgs hlt hS
            simp only [Option.some.injEq] at hw
            simp only [hy]
            rw [← hw]
            cases want <;> rfl
        · cases hw
  cases hw : wantD ops.toList (t.keep (looks ops.toList o)) o with
  | none => unfold runD at hrun; simp only [hw] at hrun; cases hrun
  | some b =>
    rw [wanted b hw]
    cases b with
    | false =>
      unfold runD at hrun
      simp only [hw, Tr.val, Option.some.injEq] at hrun
      subst hrun
      exact ⟨fun f _ => B.op.fn f, hk _ _ ⟨h, hg, hok.skip o.dst⟩⟩
    | true =>
      cases hp : ptrOp C.E (t.keep (looks ops.toList o)) o with
      | some v =>
        unfold runD at hrun
        simp only [hw, hp, Tr.val, Option.some.injEq] at hrun
        subst hrun
        obtain ⟨K, A, H, E1, S, hd⟩ := hok
        simp only [] at H E1 S
        have hop := ptrOp_run (h := h) hp
        have := oper_R (σ := { t := t, h := h }) (next := next) (Q := Q) (n := n) B H S hop (by simp) fun v' w' K' A' H' X' S' => hk _ _ ⟨h, by rw [hg]; rfl, K', A', H', E1.trans X', (S.ext X').put S', by rw [put_defers]; exact hd.mono X'.kk⟩
        exact this
      | none =>
      obtain ⟨bs, r, h1, h2, hnd, hs1, hs2, hop, hc, hu, hv⟩ := runD_true hrun hw hp
      obtain ⟨-, hbl, hbg⟩ := blksO_spec (g' := g) h2
      obtain ⟨K, A, H, E1, S, hd⟩ := hok
      simp only [] at H E1 S
      subst hg
      have hcget : ∀ id, Heap.get (zipK ρ.ids bs) id = if id ∈ ρ.ids then h.get id else none := fun id => by
        obtain ⟨z1, z2⟩ := get_zipK (h := []) hnd hbl
        have e : ∀ (ids : List Nat) (bs : List Blk) (h0 : Heap), ids.Nodup → (∀ i ∈ ids, h0.get i = none) → (h0.sets (zipK ids bs)).get = updG h0.get (zipK ids bs) := fun _ _ _ _ _ => sets_get _ _
        have lk : ∀ (ids : List Nat) (bs : List Blk), ids.Nodup → bs.length = ids.length → (∀ (j i : Nat), ids[j]? = some i → Heap.get (zipK ids bs) i = bs[j]?) ∧ ∀ i, i ∉ ids → Heap.get (zipK ids bs) i = none := by
          intro ids
          induction ids with
          | nil => intro bs _ _; exact ⟨fun j i hj => by simp at hj, fun i _ => by cases bs <;> rfl⟩
          | cons k ids ih =>
            intro bs hn hl
            cases bs with
            | nil => simp at hl
            | cons b bs =>
              have hn := List.nodup_cons.1 hn
              obtain ⟨i1, i2⟩ := ih bs hn.2 (by simpa using hl)
              refine ⟨fun j i hj => ?_, fun i hi => ?_⟩
              · cases j with
                | zero => simp at hj; subst hj; simp [zipK, Heap.get]
                | succ j =>
                  have hj' : ids[j]? = some i := by simpa using hj
                  have hne : k ≠ i := fun e => hn.1 (e ▸ List.mem_of_getElem? hj')
                  simp only [zipK, Heap.get, beq_ne hne, cond_false]
                  simpa using i1 j i hj'
              · simp only [List.mem_cons, not_or] at hi
                simp only [zipK, Heap.get, beq_ne (fun e => hi.1 e.symm), cond_false]
                exact i2 i hi.2
        obtain ⟨l1, l2⟩ := lk ρ.ids bs hnd hbl
        by_cases hi : id ∈ ρ.ids
        · rw [if_pos hi, l1 _ _ (toPos_spec hi)]
          exact (hbg _ _ (toPos_spec hi)).1.symm
        · rw [if_neg hi]
          exact l2 id hi
      have hclosed : ∀ id b, id ∈ ρ.ids → h.get id = some b → ∀ i ∈ b.ids, i ∈ ρ.ids := fun id b hi hb i hib => by
        have := hbg _ _ (toPos_spec hi)
        rw [hb] at this
        exact hs2 i (mem_flat.2 ⟨b, List.mem_of_getElem? this.1.symm, hib⟩)
      have hchas : ∀ id, Ev.has (zipK ρ.ids bs) id → id ∈ ρ.ids := fun id hh => by
        unfold Ev.has at hh
        rw [hcget] at hh
        split at hh
        · assumption
        · cases hh
      have sub : Sub (· ∈ ρ.ids) A h (fun x => x) A (zipK ρ.ids bs) := by
        refine ⟨⟨fun id hi hh => ⟨?_, rfl, rfl⟩⟩, fun j b hb => ?_, fun id b hi hb => ?_, fun id id' _ _ e => e⟩
        · unfold Ev.has at hh ⊢
          rw [hcget, if_pos hi]
          exact hh
        · have hj := hchas j (has_of_get hb)
          rw [hcget, if_pos hj] at hb
          exact ⟨j, b, hj, rfl, hb, (Blk.ren_id b).symm, hclosed j b hj hb⟩
        · rw [hcget, if_pos hi, hb, Blk.ren_id]
      have Hs := H.sub sub
      have Ss : SlotsR w K A (zipK ρ.ids bs) (t.keep (looks ops.toList o)) a := by
        refine ⟨S.len, fun i s hi => ?_⟩
        rcases Tms.keep_at hi with rfl | ⟨hil, h0⟩
        · trivial
        · refine SlotR.part (fun id hid _ => ⟨?_, rfl, rfl⟩) (S.at_ i s h0)
          rw [hcget, if_pos (hs1 id (ids_at hil (Tms.at_some.1 hi).2 id hid))]
      show o.wpIn F n P a w next Q
      have B' : Base F P (Ctx.call C.E w K A (zipK ρ.ids bs)).E := B
      refine oper_R (C := Ctx.call C.E w K A (zipK ρ.ids bs)) (σ := { t := t.keep (looks ops.toList o), h := zipK ρ.ids bs }) B' Hs Ss hop hc fun v w' K' A' H' X' S' => ?_
      simp only [] at H' X' S'
      rw [hu] at hnew
      let A2 : Asg := { m := fun id => if id ∈ ρ.ids ∨ id ∈ keysOf r.u then A'.m id else A.m id, hd := fun id => if id ∈ ρ.ids ∨ id ∈ keysOf r.u then A'.hd id else A.hd id }
      have cin : ∀ id, (id ∈ ρ.ids ∨ id ∈ keysOf r.u) → ((h.sets r.u).get id = (Heap.sets (zipK ρ.ids bs) r.u).get id) := fun id hi => by
        rw [sets_get, sets_get]
        refine updG_congr fun hn => ?_
        rw [hcget, if_pos (hi.resolve_right hn)]
      have chas : ∀ id, Ev.has (Heap.sets (zipK ρ.ids bs) r.u) id → id ∈ ρ.ids ∨ id ∈ keysOf r.u := fun id hh => by
        by_cases hn : id ∈ keysOf r.u
        · exact .inr hn
        · left
          unfold Ev.has at hh
          rw [sets_get, updG_out hn] at hh
          exact hchas id hh
      have cout : ∀ id, ¬ (id ∈ ρ.ids ∨ id ∈ keysOf r.u) → (h.sets r.u).get id = h.get id := fun id hi => by
        rw [sets_get, updG_out (fun hn => hi (.inr hn))]
      have jn : Join (· ∈ ρ.ids) A h (fun x => x) (fun x => x) A' (Heap.sets (zipK ρ.ids bs) r.u) A2 (h.sets r.u) := by
        refine ⟨⟨fun j _ hj => ?_⟩, fun id b hb => ?_, fun j b hb => ?_, fun j j' _ _ e => e, fun id _ => rfl, fun id hi hh j hj e => ?_, fun id hh => ?_⟩
        · have hc1 := chas j hj
          refine ⟨?_, if_pos hc1, if_pos hc1⟩
          unfold Ev.has at hj ⊢
          rw [cin j hc1]
          exact hj
        · by_cases hi : id ∈ ρ.ids ∨ id ∈ keysOf r.u
          · exact .inl ⟨id, b, by rw [← cin id hi]; exact hb, rfl, (Blk.ren_id b).symm⟩
          · exact .inr ⟨fun h => hi (.inl h), by rw [← cout id hi]; exact hb⟩
        · rw [cin j (chas j (has_of_get hb)), hb, Blk.ren_id]
        · have e : j = id := e
          subst e
          rcases chas j hj with h3 | h3
          · exact hi h3
          · rcases hnew j h3 with h4 | h4
            · exact hi h4
            · unfold Ev.has at hh
              rw [h4] at hh
              cases hh
        · by_cases hi : id ∈ ρ.ids
          · have hci : Ev.has (zipK ρ.ids bs) id := by
              unfold Ev.has at hh ⊢
              rw [hcget, if_pos hi]
              exact hh
            have hx := X'.hh id hci
            refine ⟨?_, ?_, ?_⟩
            · unfold Ev.has
              rw [cin id (.inl hi)]
              exact hx.1
            · show (if _ then A'.m id else _) = _
              rw [if_pos (.inl hi)]
              exact hx.2.1
            · show (if _ then A'.hd id else _) = _
              rw [if_pos (.inl hi)]
              exact hx.2.2
          · have hk2 : id ∉ keysOf r.u := fun h3 => by
              rcases hnew id h3 with h4 | h4
              · exact hi h4
              · unfold Ev.has at hh
                rw [h4] at hh
                cases hh
            have hno : ¬ (id ∈ ρ.ids ∨ id ∈ keysOf r.u) := fun h => h.elim hi hk2
            refine ⟨?_, if_neg hno, if_neg hno⟩
            unfold Ev.has at hh ⊢
            rw [cout id hno]
            exact hh
      obtain ⟨H2, X2⟩ := H.join sub H' X' jn
      refine hk _ _ ⟨h.sets r.u, by rw [sets_get, hu], K', A2, H2, E1.trans X2, ?_, by rw [put_defers]; exact hd.mono X2.kk⟩
      refine (S.ext X2).put ?_
      have S2 : SlotR w' K' A2 (h.sets r.u) r.v v := SlotR.part (fun id hid hh => by
        have hc1 := chas id hh
        exact ⟨cin id hc1, if_pos hc1, if_pos hc1⟩) S'
      rcases hv with hv | ⟨x, hx, hv⟩
      · rw [hv]; exact S2
      · rw [hv]
        rw [hx] at S2
        exact bool_R (w := w') (K := K') (A := A2) (h := h.sets r.u) S2
end
end Go.Ev
