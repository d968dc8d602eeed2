/- A state told anew: slots that live on, blocks numbered anew. -/
import Derived.Test.YtmnbcnhpklejcaaDoorZEvRange
set_option linter.unusedVariables false
namespace Go.Ev
open Go.RowKit

section
variable {P : Program} {F : Fence} {n : Nat} {C : Ctx} {X : Start} {w : World} {K : KSet} {A : Asg} {h : Heap}

theorem HR.part {S : Nat → Prop} {ρ : Nat → Nat} {A0 : Asg} {hc : Heap} (H : HR C w K A h) (s : Sub S A h ρ A0 hc) : HR C w K A0 hc where
  blk j b hb := (H.sub s).blk j b hb
  inj j j' hu hu' e := (H.sub s).inj j j' hu hu' e
  own j hu := by
    obtain ⟨id, hs, rfl, h1, e1⟩ := s.uses hu
    rw [e1]
    exact H.own id h1
  kset := H.kset
  k0 := H.k0
  glob g p hp := by
    have := H.glob g p hp
    cases p <;> exact this
  os := H.os
  tape := H.tape
  output := H.output
  size := H.size
  frame := H.frame

theorem fixed_spec {ids : List Nat} : ∀ {m : Nat}, fixed ids m = true → ∀ j, j < m → j ∈ ids ∧ toPos ids j = j
  | 0, _, j, hj => by omega
  | m + 1, h, j, hj => by
    simp only [fixed] at h
    cases hc : (memN m ids && Nat.beq (toPos ids m) m) with
    | false => rw [hc] at h; cases h
    | true =>
      rw [hc] at h
      simp only [Bool.and_eq_true] at hc
      by_cases e : j = m
      · subst e; exact ⟨memN_iff.1 hc.1, Nat.eq_of_beq_eq_true hc.2⟩
      · exact fixed_spec h j (by omega)

theorem sub_pos {ids : List Nat} {bs : List Blk} (A : Asg) (hbs : blksAt h ids = some bs) (hnd : ids.Nodup) (hs2 : ∀ i ∈ flat Blk.ids bs, i ∈ ids) :
    Sub (· ∈ ids) A h (toPos ids) { m := fun j => A.m (ids.getD j 0), hd := fun j => A.hd (ids.getD j 0) } (zipN 0 (bs.map (Blk.ren (toPos ids)))) := by
  obtain ⟨hbl, hbg⟩ := blksAt_spec hbs
  have hgetb : ∀ id, id ∈ ids → ∃ b, h.get id = some b ∧ bs[toPos ids id]? = some b := fun id hi => hbg _ _ (toPos_spec hi)
  have hids : ∀ (j : Nat) (b : Blk), bs[j]? = some b → ∃ id, ids[j]? = some id ∧ h.get id = some b := fun j b hb => by
    have hj : j < ids.length := by rw [← hbl]; exact (List.getElem?_eq_some_iff.1 hb).1
    obtain ⟨b', h2, h3⟩ := hbg j ids[j] (List.getElem?_eq_getElem hj)
    rw [hb] at h3
    cases h3
    exact ⟨_, List.getElem?_eq_getElem hj, h2⟩
  refine ⟨⟨fun id hi hh => ?_⟩, fun j b hb => ?_, fun id b hi hb => ?_, fun id id' hi hi' e => ?_⟩
  · obtain ⟨b, h2, h3⟩ := hgetb id hi
    refine ⟨?_, by show A.m (ids.getD (toPos ids id) 0) = A.m id; rw [getD_pos hi], by show A.hd (ids.getD (toPos ids id) 0) = A.hd id; rw [getD_pos hi]⟩
    unfold Ev.has
    rw [get_zip0, List.getElem?_map, h3]
    rfl
  · rw [get_zip0, List.getElem?_map] at hb
    cases hj : bs[j]? with
    | none => rw [hj] at hb; cases hb
    | some b0 =>
      rw [hj] at hb
      cases hb
      obtain ⟨id, h2, h3⟩ := hids j b0 hj
      exact ⟨id, b0, List.mem_of_getElem? h2, (pos_of hnd h2).symm, h3, rfl, fun i hi => hs2 i (mem_flat.2 ⟨b0, List.mem_of_getElem? hj, hi⟩)⟩
  · obtain ⟨b', h2, h3⟩ := hgetb id hi
    rw [hb] at h2
    cases h2
    rw [get_zip0, List.getElem?_map, h3]
    rfl
  · have h2 := toPos_spec hi
    have h3 := toPos_spec hi'
    rw [e, h3] at h2
    exact (Option.some.inj h2).symm

/-- Blocks numbered anew; those that are lent keep theirs. -/
theorem renumber {m : Nat} {ids : List Nat} {bs : List Blk} (hX : ∀ j, Ev.has X.h j → j < m) (hbs : blksAt h ids = some bs) (hnd : ids.Nodup) (hs2 : ∀ i ∈ flat Blk.ids bs, i ∈ ids)
    (hf : ∀ j, j < m → j ∈ ids ∧ toPos ids j = j) (H : HR C w K A h) (E1 : Ext X.K X.A X.h X.w K A h w) :
    ∃ A0, HR C w K A0 (zipN 0 (bs.map (Blk.ren (toPos ids)))) ∧ Ext X.K X.A X.h X.w K A0 (zipN 0 (bs.map (Blk.ren (toPos ids)))) w ∧ Ren (· ∈ ids) A h (toPos ids) A0 (zipN 0 (bs.map (Blk.ren (toPos ids)))) := by
  have s := sub_pos A hbs hnd hs2
  refine ⟨_, H.part s, ⟨E1.kk, fun id hi => ?_, fun id e k xs' hi hg => ?_, fun id k xs' hi hg => ?_⟩, s.ren⟩
  · obtain ⟨h1, h2⟩ := hf id (hX id hi)
    obtain ⟨a, b, c⟩ := E1.hh id hi
    have := s.ren.map id h1 a
    rw [h2] at this
    exact ⟨this.1, this.2.1.trans b, this.2.2.trans c⟩
  · obtain ⟨h1, h2⟩ := hf id (hX id hi)
    obtain ⟨id0, b0, hs, e1, hg0, eb, _⟩ := s.get id _ hg
    have e2 : id = id0 := s.inj id id0 h1 hs (by rw [h2]; exact e1)
    subst e2
    have : b0 = .row e k xs' := by cases b0 <;> simp only [Blk.ren] at eb <;> first | exact eb.symm | cases eb
    rw [this] at hg0
    exact E1.rr id e k xs' hi hg0
  · obtain ⟨h1, h2⟩ := hf id (hX id hi)
    obtain ⟨id0, b0, hs, e1, hg0, eb, _⟩ := s.get id _ hg
    have e2 : id = id0 := s.inj id id0 h1 hs (by rw [h2]; exact e1)
    subst e2
    have : b0 = .frz k xs' := by cases b0 <;> simp only [Blk.ren] at eb <;> first | exact eb.symm | cases eb
    rw [this] at hg0
    exact E1.ff id k xs' hi hg0

theorem canon0_ok {m : Nat} {live : List Nat} {σ : St} {a : Act} (hX : ∀ j, Ev.has X.h j → j < m) (hok : σ.ok C X a w) : (canon0 m live σ).ok C X a w := by
  obtain ⟨K, A, H, E1, S, hd⟩ := hok
  have S' : SlotsR w K A σ.h (σ.t.free live) a := by
    refine ⟨S.len, fun i s hi => ?_⟩
    rcases (Tms.free_at hi).2 with rfl | ⟨_, h1⟩
    · trivial
    · exact S.at_ i s h1
  unfold canon0
  dsimp +zeta +zetaHave only
  generalize hids : reach σ.h 100 ((σ.t.free live).ids live) (reach σ.h 100 (upto m 0) []) = ids
  split
  · rename_i bs hbs
    cases hck : ((nodupN ids && fixed ids m) && (subN ((σ.t.free live).ids live) ids && subN (flat Blk.ids bs) ids)) with
    | false => exact ⟨K, A, H, E1, S', hd⟩
    | true =>
      simp only [Bool.and_eq_true] at hck
      obtain ⟨⟨h1, h2⟩, h3, h4⟩ := hck
      obtain ⟨A0, H0, E0, R0⟩ := renumber hX hbs (nodupN_iff.1 h1) (subN_iff.1 h4) (fixed_spec h2) H E1
      rw [cond_true, fHeap_eq]
      refine ⟨K, A0, H0, E0, ⟨S'.len, fun i s hi => ?_⟩, hd⟩
      rcases Tms.ren_at hi with rfl | ⟨hil, s0, hs0, rfl⟩
      · trivial
      · exact SlotR.ren R0 (Tms.free_at hs0).1 (fun id hid => subN_iff.1 h3 id (ids_at hil (Tms.at_some.1 hs0).2 id hid)) (S'.at_ i s0 hs0)
  · exact ⟨K, A, H, E1, S', hd⟩

theorem valsK_eq {α : Type} (t : Tm) : ∀ (live : List Nat) (k : List Slot → α), valsK t live k = k (live.map t.get)
  | [], _ => rfl
  | i :: l, k => by simp only [valsK, fSlot_eq, valsK_eq t l, List.map_cons]

theorem unT_get (t : Tm) : ∀ (live : List Nat) (i : Nat), (unT live (live.map t.get) (Tm.full 10)).get i = undefS ∨ (unT live (live.map t.get) (Tm.full 10)).get i = t.get i := by
  intro live i
  have hb := build_get (f := fun i => t.get i) (build := fun live m => unT live (live.map t.get) m) (fun m => rfl) (fun i l m => by simp only [List.map_cons, unT, Tm.setK_eq]) (i := i) (live := live) (m := Tm.full 10)
  have h0 := Tm.get_full 10 i
  rcases hb with h1 | ⟨h1, hm⟩ | h1
  · exact .inl h1
  · exact .inr h1
  · rw [h0] at h1; exact .inl h1

theorem canon0_n {m : Nat} {live : List Nat} {σ : St} : (canon0 m live σ).t.n = σ.t.n := by
  unfold canon0
  dsimp +zeta +zetaHave only
  generalize hids : reach σ.h 100 ((σ.t.free live).ids live) (reach σ.h 100 (upto m 0) []) = ids
  split
  · rename_i bs hbs
    cases hck : ((nodupN ids && fixed ids m) && (subN ((σ.t.free live).ids live) ids && subN (flat Blk.ids bs) ids)) with
    | false => rfl
    | true => rw [cond_true, fHeap_eq]; rfl
  · rfl

theorem widLeaf_ok {key : Nat} {wd : Wd} {l l' : Leaf} {u : List (Nat × Blk)} {v : Value} (H : HR C w K A h) (hl : LeafR w K A h l v) (hw : widLeaf key wd l h = some (l', u)) :
    ∃ K' A', HR C w K' A' (h.sets u) ∧ Ext K A h w K' A' (h.sets u) w ∧ LeafR w K' A' (h.sets u) l' v := by
  have mk : ∀ (e : TypeId) (k : Kd) (a : Option Addr), ((isNew h key).bind fun _ => bif Nat.blt 0 k.sz then some (Leaf.row key, [(key, Blk.row e k [])]) else none) = some (l', u) → v = .slice a 0 0 →
      ∃ K' A', HR C w K' A' (h.sets u) ∧ Ext K A h w K' A' (h.sets u) w ∧ LeafR w K' A' (h.sets u) l' v := by
    intro e k a hb hv
    obtain ⟨hn, hb⟩ := isNew_ok hb
    cases hz : Nat.blt 0 k.sz with
    | false => rw [hz] at hb; cases hb
    | true =>
      rw [hz] at hb
      cases hb
      subst hv
      obtain ⟨K', A', H', x, r⟩ := new_row (e := e) (k := k) (xs := []) (l := []) (v := .slice a 0 0) H hn (grown_refl none) ⟨by simp, .inl ⟨rfl, a, rfl⟩⟩ rfl (blt_iff.1 hz) (fun g hg => by rw [ownB_zero] at hg; cases hg)
      exact ⟨K', A', H', x, r⟩
  cases wd with
  | row e k =>
    cases l <;> simp only [widLeaf] at hw <;> try (cases hw)
    · exact mk e k none hw hl
    · obtain ⟨a, ha⟩ := hl
      exact mk e k a hw ha
  | dat k =>
    simp only [widLeaf] at hw
    split at hw
    · rename_i x f hp
      cases hw
      obtain ⟨K', H', x', r⟩ := freezes f H
      exact ⟨K', A, H', x', packOne_R (fun b hb => (x'.kk b hb).1) H hl hp r⟩
    · cases hw

theorem all_nth {α : Type} {R : α → Value → Prop} : ∀ {l : List α} {j : Nat} {cs : List Value} {x : α}, All2 R l cs → nth l j = some x → ∃ v, cs[j]? = some v ∧ R x v
  | _, _, _, _, .nil, h => by cases h
  | _, 0, _, _, .cons r hr, h => by
    cases h
    exact ⟨_, rfl, r⟩
  | _, j + 1, _, _, .cons r hr, h => by
    obtain ⟨v, a, b⟩ := all_nth hr h
    exact ⟨v, by simpa using a, b⟩
theorem all_set {α : Type} {S : α → Value → Prop} {y : α} {v : Value} : ∀ {l : List α} {j : Nat} {cs : List Value}, All2 S l cs → cs[j]? = some v → S y v → All2 S (setNth l j y) cs
  | _, _, _, .nil, _, _ => .nil
  | _, 0, _, .cons r hr, h, hs => by
    simp at h
    subst h
    exact .cons hs hr
  | _, j + 1, _, .cons r hr, h, hs => .cons r (all_set hr (by simpa using h) hs)

theorem known_setNth {y : Leaf} (hy : y.known = true) : ∀ {l : List Leaf} {j : Nat}, known l = true → known (setNth l j y) = true
  | [], _, h => h
  | x :: l, 0, h => by
    simp only [known] at h
    cases hx : x.known with
    | false => rw [hx] at h; cases h
    | true => rw [hx] at h; simp only [setNth, known, hy, cond_true]; exact h
  | x :: l, j + 1, h => by
    simp only [known] at h
    cases hx : x.known with
    | false => rw [hx] at h; cases h
    | true => rw [hx] at h; simp only [setNth, known, hx, cond_true]; exact known_setNth hy h

theorem sets_getU {id : Nat} : ∀ (u : List (Nat × Blk)) (h : Heap), memN id (wid1.keysU u) = false → (h.sets u).get id = h.get id
  | [], _, _ => rfl
  | p :: u, h, hm => by
    simp only [wid1.keysU, memN] at hm
    cases e : Nat.beq id p.1 with
    | true => rw [e] at hm; cases hm
    | false =>
      rw [e] at hm
      rw [Heap.sets, sets_getU u _ hm, Heap.get_set, if_neg (fun h => by rw [h, Nat.beq_refl] at e; cases e)]

theorem wid1_spec (wl : Wl) (σ : St) : ∃ σ' : St, (∀ {α : Type} (k : St → α), wid1 wl σ k = k σ') ∧ σ'.t.n = σ.t.n ∧ ∀ {C : Ctx} {X : Start} {a : Act} {w : World}, σ.ok C X a w → σ'.ok C X a w := by
  unfold wid1
  have stay : ∃ σ' : St, (∀ {α : Type} (k : St → α), k σ = k σ') ∧ σ'.t.n = σ.t.n ∧ ∀ {C : Ctx} {X : Start} {a : Act} {w : World}, σ.ok C X a w → σ'.ok C X a w := ⟨σ, fun _ => rfl, rfl, fun h => h⟩
  split
  · rename_i l hat
    split
    · split
      · rename_i l' u hw
        refine ⟨{ t := σ.t.set wl.i (one l'), h := σ.h.sets u }, fun k => by rw [nextSt_eq]; rfl, Tms.set_n _ _ _, ?_⟩
        rintro C X a w ⟨K, A, H, E1, S, hd⟩
        have hl := S.at_ _ _ hat
        obtain ⟨K', A', H', x, r⟩ := widLeaf_ok H hl hw
        exact ⟨K', A', H', E1.trans x, (S.ext x).set fun _ => r, hd.mono x.kk⟩
      · exact stay
    · rename_i jc hjc
      split
      · rename_i id off
        split
        · rename_i ls hg
          split
          · rename_i x hj
            split
            · rename_i x' u hw
              cases hk : (x'.known && Bool.not (memN _ (wid1.keysU u))) with
              | false => exact stay
              | true =>
                simp only [Bool.and_eq_true, Bool.not_eq_true'] at hk
                refine ⟨{ t := σ.t, h := σ.h.sets (app u [(id, .box (setNth ls jc x'))]) }, fun k => by rw [cond_true, fSets_eq], rfl, ?_⟩
                rintro C X a w ⟨K, A, H, E1, S, hd⟩
                obtain ⟨cs, t, hc, hls, hkn⟩ := H.blk _ _ hg
                obtain ⟨v, hvj, hv⟩ := all_nth hls hj
                obtain ⟨K', A', H', x1, r⟩ := widLeaf_ok H hv hw
                have hg' := (sets_getU u σ.h hk.2).trans hg
                have hall := all_set (x1.leaves hls) hvj r
                obtain ⟨H2, x2⟩ := H'.setBox hg' hall (known_setNth hk.1 hkn)
                have e : A'.m id = A.m id := (x1.hh id (has_of_get hg)).2.1
                have hc' : w.heap[A'.m id]? = some (.cells cs.toArray t (0, 0)) := by rw [e]; exact hc
                rw [setRow_self w _ _ _ _ hc'] at H2 x2
                have hsets : (σ.h.sets u).set id (.box (setNth ls jc x')) = σ.h.sets (app u [(id, .box (setNth ls jc x'))]) := by rw [Heap.sets_app]; rfl
                rw [hsets] at H2 x2
                exact ⟨K', A', H2, E1.trans (x1.trans x2), S.ext (x1.trans x2), hd.mono (x1.trans x2).kk⟩
            · exact stay
          · exact stay
        · exact stay
      · exact stay
  · rename_i ls hat
    split
    · rename_i jc hjc
      split
      · rename_i x hj
        split
        · rename_i x' u hw
          refine ⟨{ t := σ.t.set wl.i (.av (.agg (setNth ls jc x'))), h := σ.h.sets u }, fun k => by rw [nextSt_eq]; rfl, Tms.set_n _ _ _, ?_⟩
          rintro C X a w ⟨K, A, H, E1, S, hd⟩
          obtain ⟨cs, hcs, hls⟩ := S.at_ _ _ hat
          obtain ⟨v, hvj, hv⟩ := all_nth hls hj
          obtain ⟨K', A', H', x1, r⟩ := widLeaf_ok H hv hw
          exact ⟨K', A', H', E1.trans x1, (S.ext x1).set fun _ => ⟨cs, hcs, all_set (x1.leaves hls) hvj r⟩, hd.mono x1.kk⟩
        · exact stay
      · exact stay
    · exact stay
  · exact stay

theorem wids_spec : ∀ (l : List Wl) (σ : St), ∃ σ' : St, (∀ {α : Type} (k : St → α), wids l σ k = k σ') ∧ σ'.t.n = σ.t.n ∧ ∀ {C : Ctx} {X : Start} {a : Act} {w : World}, σ.ok C X a w → σ'.ok C X a w
  | [], σ => ⟨σ, fun _ => rfl, rfl, fun h => h⟩
  | wl :: l, σ => by
    obtain ⟨σ1, h1, n1, o1⟩ := wid1_spec wl σ
    obtain ⟨σ2, h2, n2, o2⟩ := wids_spec l σ1
    exact ⟨σ2, fun k => by simp only [wids, h1, h2], n2.trans n1, fun h => o2 (o1 h)⟩

theorem canon_ok {m : Nat} {live : Lv} {σ : St} {a : Act} (hX : ∀ j, Ev.has X.h j → j < m) (hok : σ.ok C X a w) : (canon m live σ).ok C X a w := by
  obtain ⟨σ1, h1, n1, o1⟩ := wids_spec live.wd σ
  unfold canon
  rw [h1]
  exact canon0_ok hX (o1 hok)

theorem canon_n {m : Nat} {live : Lv} {σ : St} : (canon m live σ).t.n = σ.t.n := by
  obtain ⟨σ1, h1, n1, o1⟩ := wids_spec live.wd σ
  unfold canon
  rw [h1, canon0_n, n1]

theorem canonV_eq {α : Type} (m : Nat) (live : Lv) (σ : St) (k : VS → α) : canonV m live σ k = k (canV m live σ) := by
  obtain ⟨σ1, h1, n1, o1⟩ := wids_spec live.wd σ
  simp only [canV, canonV, h1, canonW, fNat_eq, valsK_eq, fHeap_eq]

theorem canV_eq {m : Nat} {live : Lv} {σ : St} : canV m live σ = { n := σ.t.n, v := live.ls.map (canon m live σ).t.m.get, h := (canon m live σ).h } := by
  obtain ⟨σ1, h1, n1, o1⟩ := wids_spec live.wd σ
  simp only [canV, canonV, canon, h1, canonW, fNat_eq, valsK_eq, fHeap_eq, n1]

theorem unV_ok {m : Nat} {live : Lv} {σ : St} {a : Act} (hX : ∀ j, Ev.has X.h j → j < m) (hok : σ.ok C X a w) : (unV live (canV m live σ)).ok C X a w := by
  rw [canV_eq]
  obtain ⟨K, A, H, E1, S, hd⟩ := canon_ok (live := live) hX hok
  refine ⟨K, A, H, E1, ⟨?_, fun i s hi => ?_⟩, hd⟩
  · show σ.t.n = _
    rw [← S.len, canon_n]
  · have hi' := Tms.at_some.1 hi
    rcases unT_get (canon m live σ).t.m live.ls i with h1 | h1
    · have : s = undefS := hi'.2.symm.trans h1
      subst this
      trivial
    · refine S.at_ i s (Tms.at_some.2 ⟨?_, h1.symm.trans hi'.2⟩)
      rw [canon_n]
      exact hi'.1

end
end Go.Ev
