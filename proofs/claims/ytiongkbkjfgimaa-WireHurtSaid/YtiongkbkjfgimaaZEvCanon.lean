/- A state told anew: slots that live on, blocks numbered anew. -/
import Derived.Test.YtiongkbkjfgimaaZEvRange
set_option linter.unusedVariables false
namespace Go.Ev
open Go.RowKit

section
variable {P : Program} {F : Fence} {n : Nat} {C : Ctx} {X : Start} {w : World} {K : KSet} {A : Asg} {h : Heap}

theorem HR.part {S : Nat → Prop} {ρ : Nat → Nat} {A0 : Asg} {hc : Heap} (H : HR C w K A h) (s : Sub S A h ρ A0 hc) : HR C w K A0 hc where
  blk j b hb := (H.sub s).blk j b hb
  inj j j' hu hu' e := (H.sub s).inj j j' hu hu' e
  own j hu := by
    obtain ⟨id, hs, rfl, h1, e1⟩ := s.uses hu
    rw [e1]
    exact H.own id h1
  kset := H.kset
  k0 := H.k0
  glob g p hp := by
    have := H.glob g p hp
    cases p <;> exact this
  os := H.os
  tape := H.tape
  output := H.output
  size := H.size
  frame := H.frame

theorem fixed_spec {ids : List Nat} : ∀ {m : Nat}, fixed ids m = true → ∀ j, j < m → j ∈ ids ∧ toPos ids j = j
  | 0, _, j, hj => by omega
  | m + 1, h, j, hj => by
    simp only [fixed] at h
    cases hc : (memN m ids && Nat.beq (toPos ids m) m) with
    | false => rw [hc] at h; cases h
    | true =>
      rw [hc] at h
      simp only [Bool.and_eq_true] at hc
      by_cases e : j = m
      · subst e; exact ⟨memN_iff.1 hc.1, Nat.eq_of_beq_eq_true hc.2⟩
      · exact fixed_spec h j (by omega)

theorem sub_pos {ids : List Nat} {bs : List Blk} (A : Asg) (hbs : blksAt h ids = some bs) (hnd : ids.Nodup) (hs2 : ∀ i ∈ flat Blk.ids bs, i ∈ ids) :
    Sub (· ∈ ids) A h (toPos ids) { m := fun j => A.m (ids.getD j 0), hd := fun j => A.hd (ids.getD j 0) } (zipN 0 (bs.map (Blk.ren (toPos ids)))) := by
  obtain ⟨hbl, hbg⟩ := blksAt_spec hbs
  have hgetb : ∀ id, id ∈ ids → ∃ b, h.get id = some b ∧ bs[toPos ids id]? = some b := fun id hi => hbg _ _ (toPos_spec hi)
  have hids : ∀ (j : Nat) (b : Blk), bs[j]? = some b → ∃ id, ids[j]? = some id ∧ h.get id = some b := fun j b hb => by
    have hj : j < ids.length := by rw [← hbl]; exact (List.getElem?_eq_some_iff.1 hb).1
    obtain ⟨b', h2, h3⟩ := hbg j ids[j] (List.getElem?_eq_getElem hj)
    rw [hb] at h3
    cases h3
    exact ⟨_, List.getElem?_eq_getElem hj, h2⟩
  refine ⟨⟨fun id hi hh => ?_⟩, fun j b hb => ?_, fun id b hi hb => ?_, fun id id' hi hi' e => ?_⟩
  · obtain ⟨b, h2, h3⟩ := hgetb id hi
    refine ⟨?_, by show A.m (ids.getD (toPos ids id) 0) = A.m id; rw [getD_pos hi], by show A.hd (ids.getD (toPos ids id) 0) = A.hd id; rw [getD_pos hi]⟩
    unfold Ev.has
    rw [get_zip0, List.getElem?_map, h3]
    rfl
  · rw [get_zip0, List.getElem?_map] at hb
    cases hj : bs[j]? with
    | none => rw [hj] at hb; cases hb
    | some b0 =>
      rw [hj] at hb
      cases hb
      obtain ⟨id, h2, h3⟩ := hids j b0 hj
      exact ⟨id, b0, List.mem_of_getElem? h2, (pos_of hnd h2).symm, h3, rfl, fun i hi => hs2 i (mem_flat.2 ⟨b0, List.mem_of_getElem? hj, hi⟩)⟩
  · obtain ⟨b', h2, h3⟩ := hgetb id hi
    rw [hb] at h2
    cases h2
    rw [get_zip0, List.getElem?_map, h3]
    rfl
  · have h2 := toPos_spec hi
    have h3 := toPos_spec hi'
    rw [e, h3] at h2
    exact (Option.some.inj h2).symm

/-- Blocks numbered anew; those that are lent keep theirs. -/
theorem renumber {m : Nat} {ids : List Nat} {bs : List Blk} (hX : ∀ j, Ev.has X.h j → j < m) (hbs : blksAt h ids = some bs) (hnd : ids.Nodup) (hs2 : ∀ i ∈ flat Blk.ids bs, i ∈ ids)
    (hf : ∀ j, j < m → j ∈ ids ∧ toPos ids j = j) (H : HR C w K A h) (E1 : Ext X.K X.A X.h X.w K A h w) :
    ∃ A0, HR C w K A0 (zipN 0 (bs.map (Blk.ren (toPos ids)))) ∧ Ext X.K X.A X.h X.w K A0 (zipN 0 (bs.map (Blk.ren (toPos ids)))) w ∧ Ren (· ∈ ids) A h (toPos ids) A0 (zipN 0 (bs.map (Blk.ren (toPos ids)))) := by
  have s := sub_pos A hbs hnd hs2
  refine ⟨_, H.part s, ⟨E1.kk, fun id hi => ?_, fun id e k xs' hi hg => ?_, fun id k xs' hi hg => ?_⟩, s.ren⟩
  · obtain ⟨h1, h2⟩ := hf id (hX id hi)
    obtain ⟨a, b, c⟩ := E1.hh id hi
    have := s.ren.map id h1 a
    rw [h2] at this
    exact ⟨this.1, this.2.1.trans b, this.2.2.trans c⟩
  · obtain ⟨h1, h2⟩ := hf id (hX id hi)
    obtain ⟨id0, b0, hs, e1, hg0, eb, _⟩ := s.get id _ hg
    have e2 : id = id0 := s.inj id id0 h1 hs (by rw [h2]; exact e1)
    subst e2
    have : b0 = .row e k xs' := by cases b0 <;> simp only [Blk.ren] at eb <;> first | exact eb.symm | cases eb
    rw [this] at hg0
    exact E1.rr id e k xs' hi hg0
  · obtain ⟨h1, h2⟩ := hf id (hX id hi)
    obtain ⟨id0, b0, hs, e1, hg0, eb, _⟩ := s.get id _ hg
    have e2 : id = id0 := s.inj id id0 h1 hs (by rw [h2]; exact e1)
    subst e2
    have : b0 = .frz k xs' := by cases b0 <;> simp only [Blk.ren] at eb <;> first | exact eb.symm | cases eb
    rw [this] at hg0
    exact E1.ff id k xs' hi hg0

theorem canon_ok {m : Nat} {live : List Nat} {σ : St} {a : Act} (hX : ∀ j, Ev.has X.h j → j < m) (hok : σ.ok C X a w) : (canon m live σ).ok C X a w := by
  obtain ⟨K, A, H, E1, S, hd⟩ := hok
  have S' : SlotsR w K A σ.h (σ.t.free live) a := by
    refine ⟨S.len, fun i s hi => ?_⟩
    rcases (Tms.free_at hi).2 with rfl | ⟨_, h1⟩
    · trivial
    · exact S.at_ i s h1
  unfold canon
  dsimp +zeta +zetaHave only
  generalize hids : reach σ.h 100 ((σ.t.free live).ids live) (reach σ.h 100 (upto m 0) []) = ids
  split
  · rename_i bs hbs
    cases hck : ((nodupN ids && fixed ids m) && (subN ((σ.t.free live).ids live) ids && subN (flat Blk.ids bs) ids)) with
    | false => exact ⟨K, A, H, E1, S', hd⟩
    | true =>
      simp only [Bool.and_eq_true] at hck
      obtain ⟨⟨h1, h2⟩, h3, h4⟩ := hck
      obtain ⟨A0, H0, E0, R0⟩ := renumber hX hbs (nodupN_iff.1 h1) (subN_iff.1 h4) (fixed_spec h2) H E1
      rw [cond_true, fHeap_eq]
      refine ⟨K, A0, H0, E0, ⟨S'.len, fun i s hi => ?_⟩, hd⟩
      rcases Tms.ren_at hi with rfl | ⟨hil, s0, hs0, rfl⟩
      · trivial
      · exact SlotR.ren R0 (Tms.free_at hs0).1 (fun id hid => subN_iff.1 h3 id (ids_at hil (Tms.at_some.1 hs0).2 id hid)) (S'.at_ i s0 hs0)
  · exact ⟨K, A, H, E1, S', hd⟩

theorem valsK_eq {α : Type} (t : Tm) : ∀ (live : List Nat) (k : List Slot → α), valsK t live k = k (live.map t.get)
  | [], _ => rfl
  | i :: l, k => by simp only [valsK, fSlot_eq, valsK_eq t l, List.map_cons]

theorem canonV_eq {α : Type} (m : Nat) (live : List Nat) (σ : St) (k : VS → α) : canonV m live σ k = k (canV m live σ) := by
  simp only [canV, canonV, fNat_eq, valsK_eq, fHeap_eq]

theorem unT_get (t : Tm) : ∀ (live : List Nat) (i : Nat), (unT live (live.map t.get) (Tm.full 10)).get i = undefS ∨ (unT live (live.map t.get) (Tm.full 10)).get i = t.get i := by
  intro live i
  have hb := build_get (f := fun i => t.get i) (build := fun live m => unT live (live.map t.get) m) (fun m => rfl) (fun i l m => by simp only [List.map_cons, unT, Tm.setK_eq]) (i := i) (live := live) (m := Tm.full 10)
  have h0 := Tm.get_full 10 i
  rcases hb with h1 | ⟨h1, hm⟩ | h1
  · exact .inl h1
  · exact .inr h1
  · rw [h0] at h1; exact .inl h1

theorem canon_n {m : Nat} {live : List Nat} {σ : St} : (canon m live σ).t.n = σ.t.n := by
  unfold canon
  dsimp +zeta +zetaHave only
  generalize hids : reach σ.h 100 ((σ.t.free live).ids live) (reach σ.h 100 (upto m 0) []) = ids
  split
  · rename_i bs hbs
    cases hck : ((nodupN ids && fixed ids m) && (subN ((σ.t.free live).ids live) ids && subN (flat Blk.ids bs) ids)) with
    | false => rfl
    | true => rw [cond_true, fHeap_eq]; rfl
  · rfl

theorem canV_eq {m : Nat} {live : List Nat} {σ : St} : canV m live σ = { n := σ.t.n, v := live.map (canon m live σ).t.m.get, h := (canon m live σ).h } := by
  simp only [canV, canonV, fNat_eq, valsK_eq, fHeap_eq]

theorem unV_ok {m : Nat} {live : List Nat} {σ : St} {a : Act} (hX : ∀ j, Ev.has X.h j → j < m) (hok : σ.ok C X a w) : (unV live (canV m live σ)).ok C X a w := by
  rw [canV_eq]
  obtain ⟨K, A, H, E1, S, hd⟩ := canon_ok (live := live) hX hok
  refine ⟨K, A, H, E1, ⟨?_, fun i s hi => ?_⟩, hd⟩
  · show σ.t.n = _
    rw [← S.len, canon_n]
  · have hi' := Tms.at_some.1 hi
    rcases unT_get (canon m live σ).t.m live i with h1 | h1
    · have : s = undefS := hi'.2.symm.trans h1
      subst this
      trivial
    · refine S.at_ i s (Tms.at_some.2 ⟨?_, h1.symm.trans hi'.2⟩)
      rw [canon_n]
      exact hi'.1

end
end Go.Ev
