/- Calls: what a callee's contract gives its caller. -/
import Derived.Test.YtmnbcnhpklejcaaDoorZEvSub
set_option linter.unusedVariables false
namespace Go.Ev
open Go.RowKit

/-- Every function may be called, however deep. -/
structure Open (F : Fence) : Prop where
  fn : ∀ f, F.fn f
  depth : F.depth = none

/-- Calling f with these comes to a value, in a world, as R says. -/
def Runs (F : Fence) (P : Program) (f : FuncId) (args : Array Value) (w : World) (R : Value → World → Prop) : Prop :=
  (∃ v w', (callFunc f args).run P w = .ok (.value v) w' ∧ R v w') ∨
  ((callFunc f args).run P w = .ok (.enter f args) w ∧ CallsIn F 0 P f args w fun e w' => ∃ v, e = .returned v ∧ R v w')

theorem Runs.mono {F : Fence} {P : Program} {f : FuncId} {args : Array Value} {w : World} {R R' : Value → World → Prop} (h : Runs F P f args w R) (hr : ∀ v w', R v w' → R' v w') : Runs F P f args w R' := by
  rcases h with ⟨v, w', h, r⟩ | ⟨h, c⟩
  · exact .inl ⟨v, w', h, hr _ _ r⟩
  · exact .inr ⟨h, c.mono fun e w' ⟨v, he, r⟩ => ⟨v, he, hr _ _ r⟩⟩

/-- What a contract says when its function is called with these. -/
def Does (F : Fence) (P : Program) (E : Env) (f : FuncId) (args : List AV) (bs : List Blk) (r : SRes) : Prop :=
  r.c ≠ some false → ∀ w K A (vs : List Value), HR (Ctx.call E w K A (zipN 0 bs)) w K A (zipN 0 bs) → All2 (AVR w K A (zipN 0 bs)) args vs →
    Runs F P f vs.toArray w fun v w' => ∃ K' A', HR (Ctx.call E w K A (zipN 0 bs)) w' K' A' (zipN 0 (r.upd ++ r.new)) ∧
      Ext K A (zipN 0 bs) w K' A' (zipN 0 (r.upd ++ r.new)) w' ∧ SlotR w' K' A' (zipN 0 (r.upd ++ r.new)) r.rs v ∧ r.upd.length = bs.length

def SpecOK (P : Program) (E : Env) (f : FuncId) (sp : FSpec) : Prop :=
  ∀ F, Open F → ∀ args bs r, sp.g args bs = some r → Does F P E f args bs r

def FnsOK (P : Program) (E : Env) : Prop := ∀ f sp, E.fn f = some sp → SpecOK P E f sp

section
variable {P : Program} {C : Ctx} {w : World} {K : KSet} {A : Asg} {h : Heap}

theorem toAV_R {K : KSet} {k : Kd} {x : k.T} {v : Value} (hR : Kd.R w K k x v.cells.toList) (ha : k.isAgg = true → ∃ cs, v = .agg cs) (h1 : k.isAgg = false → v.oneCell' = true) : AVR w K A h (toAV k x) v := by
  have hl := leafs_R (A := A) (h := h) hR
  have hn := leafs_len (k := k) (x := x)
  unfold toAV
  cases hag : k.isAgg with
  | true =>
    obtain ⟨cs, rfl⟩ := ha hag
    have : AVR w K A h (.agg (leafs k x)) (.agg cs) := ⟨cs.toList, by simp, hl⟩
    split
    · rename_i l e
      rw [e] at this
      exact this
    · exact this
  | false =>
    have h2 := h1 hag
    have hc : v.cells = #[v] := by cases v <;> first | rfl | cases h2
    rw [hc] at hl
    have h3 : (leafs k x).length = 1 := by rw [hl.len]; rfl
    split
    · rename_i l e
      rw [e] at hl
      cases hl with
      | cons h0 _ => exact h0
    · rename_i hno
      cases e : leafs k x with
      | nil => rw [e] at h3; cases h3
      | cons l ls =>
        cases ls with
        | nil => exact absurd e (hno l)
        | cons l' ls => rw [e] at h3; simp at h3

theorem packArgs_R (H : HR C w K A h) {K1 : KSet} (h1 : Heap) (X : Ext K A h w K1 A h1 w) : ∀ {ps : List PM} {args ws : List AV} {vs : List Value} {f : List Nat},
    packArgs h ps args = some (ws, f) → All2 (AVR w K A h) args vs → (∀ id ∈ f, ∀ e k xs, h.get id = some (.row e k xs) → Kd.R w K1 (.sl k) xs [A.hd id]) → All2 (AVR w K1 A h1) ws vs
  | [], [], ws, vs, f, hp, hv, _ => by
    simp only [packArgs, Option.some.injEq, Prod.mk.injEq] at hp
    obtain ⟨rfl, _⟩ := hp
    cases hv
    exact .nil
  | .raw :: ps, v :: args, ws, vs, f, hp, hv, hf => by
    simp only [packArgs] at hp
    split at hp
    · rename_i ws' f' hq
      simp only [Option.some.injEq, Prod.mk.injEq] at hp
      obtain ⟨rfl, rfl⟩ := hp
      cases hv with
      | cons h0 hv => exact .cons (X.av h0) (packArgs_R H h1 X hq hv hf)
    · cases hp
  | .data k :: ps, v :: args, ws, vs, f, hp, hv, hf => by
    simp only [packArgs] at hp
    split at hp
    · rename_i x f1 hq1
      split at hp
      · rename_i ws' f2 hq
        simp only [Option.some.injEq, Prod.mk.injEq, app_eq] at hp
        obtain ⟨rfl, rfl⟩ := hp
        cases hv with
        | cons h0 hv =>
          obtain ⟨a, b, c⟩ := packAV_R (fun b hb => (X.kk b hb).1) H h0 hq1 (fun id hi => hf id (List.mem_append_left _ hi))
          exact .cons (toAV_R a b c) (packArgs_R H h1 X hq hv (fun id hi => hf id (List.mem_append_right _ hi)))
      · cases hp
    · cases hp
  | [], _ :: _, _, _, _, hp, _, _ => by simp [packArgs] at hp
  | .raw :: _, [], _, _, _, hp, _, _ => by simp [packArgs] at hp
  | .data _ :: _, [], _, _, _, hp, _, _ => by simp [packArgs] at hp

/-! ### The heap, with blocks put in by a list of keys -/
theorem get_zipK : ∀ {ids : List Nat} {bs : List Blk} {h : Heap}, ids.Nodup → bs.length = ids.length →
    (∀ (j id : Nat), ids[j]? = some id → (h.sets (zipK ids bs)).get id = bs[j]?) ∧ (∀ id, id ∉ ids → (h.sets (zipK ids bs)).get id = h.get id)
  | [], [], h, _, _ => ⟨fun j id hj => by simp at hj, fun id _ => rfl⟩
  | id :: ids, b :: bs, h, hn, hl => by
    have hn' := List.nodup_cons.1 hn
    obtain ⟨h1, h2⟩ := get_zipK (h := h.set id b) hn'.2 (by simpa using hl)
    refine ⟨fun j i hj => ?_, fun i hi => ?_⟩
    · cases j with
      | zero =>
        simp at hj
        subst hj
        simp only [zipK, Heap.sets]
        rw [h2 _ hn'.1, Heap.get_set]
        simp
      | succ j =>
        simp only [zipK, Heap.sets]
        simpa using h1 j i (by simpa using hj)
    · simp only [List.mem_cons, not_or] at hi
      simp only [zipK, Heap.sets]
      rw [h2 i hi.2, Heap.get_set, if_neg hi.1]
  | [], _ :: _, _, _, hl => by simp at hl
  | _ :: _, [], _, _, hl => by simp at hl

theorem get_zipNs : ∀ {bs : List Blk} {h : Heap} {n id : Nat}, (h.sets (zipN n bs)).get id = if n ≤ id ∧ id < n + bs.length then bs[id - n]? else h.get id
  | [], h, n, id => by simp only [zipN, Heap.sets, List.length_nil]; rw [if_neg (by omega)]
  | b :: bs, h, n, id => by
    simp only [zipN, Heap.sets, List.length_cons]
    rw [get_zipNs (bs := bs)]
    by_cases h1 : n + 1 ≤ id ∧ id < n + 1 + bs.length
    · have h2 : n ≤ id ∧ id < n + (bs.length + 1) := by omega
      have h3 : id - n = (id - (n + 1)) + 1 := by omega
      simp [h1, h2, h3]
    · rw [if_neg h1, Heap.get_set]
      by_cases h2 : id = n
      · subst h2; simp
      · rw [if_neg h2, if_neg (by omega)]

theorem allNew_ok {key : Nat} {α : Type} {f : Unit → Option α} {y : α} : ∀ {n : Nat}, (allNew h key n).bind f = some y → (∀ i, i < n → h.get (key + i) = none) ∧ f () = some y
  | 0, hb => ⟨fun i hi => absurd hi (by omega), hb⟩
  | n + 1, hb => by
    simp only [allNew, Option.bind_assoc] at hb
    obtain ⟨h1, h2⟩ := isNew_ok hb
    obtain ⟨h3, h4⟩ := allNew_ok (n := n) h2
    refine ⟨fun i hi => ?_, h4⟩
    by_cases e : i = n
    · subst e; exact h1
    · exact h3 i (by omega)

theorem getD_pos {ids : List Nat} {id : Nat} (hi : id ∈ ids) : ids.getD (toPos ids id) 0 = id := by
  rw [List.getD_eq_getElem?_getD, toPos_spec hi]; rfl

theorem pos_lt {ids : List Nat} {id : Nat} (hi : id ∈ ids) : toPos ids id < ids.length := by
  have := toPos_spec hi
  exact (List.getElem?_eq_some_iff.1 this).1

theorem pos_of {ids : List Nat} (hn : ids.Nodup) {j id : Nat} (hj : ids[j]? = some id) : toPos ids id = j := by
  have hm : id ∈ ids := List.mem_of_getElem? hj
  have h1 := toPos_spec hm
  exact (List.getElem?_inj (pos_lt hm) hn).1 (h1.trans hj.symm)

/-- **A CALL**, by its callee's contract. -/
theorem callR_R {F : Fence} (O : Open F) (FO : FnsOK P C.E) (H : HR C w K A h) {key : Nat} {f : FuncId} {args : List AV} {vs : List Value} {r : OR} (hv : All2 (AVR w K A h) args vs)
    (hr : callR C.E key h f args = some r) (hc : r.c ≠ some false) :
    Runs F P f vs.toArray w fun v w' => ∃ K' A', HR C w' K' A' (h.sets r.u) ∧ Ext K A h w K' A' (h.sets r.u) w' ∧ SlotR w' K' A' (h.sets r.u) r.v v := by
  unfold callR at hr
  split at hr
  · rename_i sp hsp
    split at hr
    · rename_i ws fz hpa
      dsimp +zeta +zetaHave only at hr
      split at hr
      · rename_i bs hbs
        obtain ⟨hchk, hr⟩ := bif_some hr
        simp only [Bool.and_eq_true] at hchk
        obtain ⟨⟨hkn, hnd⟩, hs1, hs2⟩ := hchk
        split at hr
        · rename_i r0 hg
          obtain ⟨hnew, hr⟩ := allNew_ok hr
          obtain ⟨hks, hr⟩ := bif_some hr
          cases hr
          obtain ⟨K1, H1, X1, hf1⟩ := freezes fz H
          have hw := packArgs_R H _ X1 hpa hv hf1
          generalize hids0 : reach (h.sets (frozenUpd h fz)) 100 (flat AV.ids ws) [] = ids at *
          rw [len_eq] at hnew
          have hnd := nodupN_iff.1 hnd
          have hs1 := subN_iff.1 hs1
          have hs2 := subN_iff.1 hs2
          obtain ⟨hbl, hbg⟩ := blksAt_spec hbs
          have hsets : h.sets (app (frozenUpd h fz) (app (zipK ids (r0.upd.map (Blk.ren (fromPos ids (len ids) key)))) (zipN key (r0.new.map (Blk.ren (fromPos ids (len ids) key)))))) =
              ((h.sets (frozenUpd h fz)).sets (zipK ids (r0.upd.map (Blk.ren (fromPos ids (len ids) key))))).sets (zipN key (r0.new.map (Blk.ren (fromPos ids (len ids) key)))) := by
            rw [Heap.sets_app, Heap.sets_app]
          rw [len_eq] at hsets
          simp only [len_eq, hsets]
          have hnew1 : ∀ i, i < r0.new.length → (h.sets (frozenUpd h fz)).get (key + i) = none := fun i hi => get_none_frozenUpd fz h _ (hnew i hi)
          generalize h.sets (frozenUpd h fz) = h1 at *
          have hgetb : ∀ id, id ∈ ids → ∃ b, h1.get id = some b ∧ bs[toPos ids id]? = some b := fun id hi => hbg _ _ (toPos_spec hi)
          have hidk : ∀ i, i < r0.new.length → key + i ∉ ids := fun i hi hm => by
            obtain ⟨b, hb, _⟩ := hgetb _ hm
            rw [hnew1 i hi] at hb
            cases hb
          let A0 : Asg := { m := fun j => A.m (ids.getD j 0), hd := fun j => A.hd (ids.getD j 0) }
          have hids : ∀ (j : Nat) (b : Blk), bs[j]? = some b → ∃ id, ids[j]? = some id ∧ h1.get id = some b := fun j b hb => by
            have hj : j < ids.length := by rw [← hbl]; exact (List.getElem?_eq_some_iff.1 hb).1
            obtain ⟨b', h2, h3⟩ := hbg j ids[j] (List.getElem?_eq_getElem hj)
            rw [hb] at h3
            cases h3
            exact ⟨_, List.getElem?_eq_getElem hj, h2⟩
          have sub : Sub (· ∈ ids) A h1 (toPos ids) A0 (zipN 0 (bs.map (Blk.ren (toPos ids)))) := by
            refine ⟨⟨fun id hi hh => ?_⟩, fun j b hb => ?_, fun id b hi hb => ?_, fun id id' hi hi' e => ?_⟩
            · obtain ⟨b, h2, h3⟩ := hgetb id hi
              refine ⟨?_, by show A.m (ids.getD (toPos ids id) 0) = A.m id; rw [getD_pos hi], by show A.hd (ids.getD (toPos ids id) 0) = A.hd id; rw [getD_pos hi]⟩
              unfold Ev.has
              rw [get_zip0, List.getElem?_map, h3]
              rfl
            · rw [get_zip0, List.getElem?_map] at hb
              cases hj : bs[j]? with
              | none => rw [hj] at hb; cases hb
              | some b0 =>
                rw [hj] at hb
                cases hb
                obtain ⟨id, h2, h3⟩ := hids j b0 hj
                refine ⟨id, b0, List.mem_of_getElem? h2, (pos_of hnd h2).symm, h3, rfl, fun i hi => hs2 i (mem_flat.2 ⟨b0, List.mem_of_getElem? hj, hi⟩)⟩
            · obtain ⟨b', h2, h3⟩ := hgetb id hi
              rw [hb] at h2
              cases h2
              rw [get_zip0, List.getElem?_map, h3]
              rfl
            · have h2 := toPos_spec hi
              have h3 := toPos_spec hi'
              rw [e, h3] at h2
              exact (Option.some.inj h2).symm
          have Hs := H1.sub sub
          have hargs := avs_ren sub.ren (knownAVs_free hkn) hs1 hw
          refine (FO f sp hsp F O _ _ _ hg hc w K1 A0 vs Hs hargs).mono fun v w' ⟨K', A', H', X', S', hul⟩ => ?_
          have hul : r0.upd.length = ids.length := by rw [hul, List.length_map, hbl]
          let A2 : Asg := { m := fun id => if id ∈ ids then A.m id else if key ≤ id ∧ id < key + r0.new.length then A'.m (ids.length + (id - key)) else A.m id,
                            hd := fun id => if id ∈ ids then A.hd id else if key ≤ id ∧ id < key + r0.new.length then A'.hd (ids.length + (id - key)) else A.hd id }
          have g2 : ∀ (bs1 bs2 : List Blk), bs1.length = ids.length → bs2.length = r0.new.length → (∀ (j id : Nat), ids[j]? = some id → ((h1.sets (zipK ids bs1)).sets (zipN key bs2)).get id = bs1[j]?) ∧
              (∀ i, i < r0.new.length → ((h1.sets (zipK ids bs1)).sets (zipN key bs2)).get (key + i) = bs2[i]?) ∧
              (∀ id, id ∉ ids → ¬ (key ≤ id ∧ id < key + r0.new.length) → ((h1.sets (zipK ids bs1)).sets (zipN key bs2)).get id = h1.get id) := fun bs1 bs2 l1 l2 => by
            obtain ⟨z1, z2⟩ := get_zipK (h := h1) hnd l1
            refine ⟨fun j id hj => ?_, fun i hi => ?_, fun id hi hk => ?_⟩
            · rw [get_zipNs, l2, if_neg (fun hk => hidk (id - key) (by omega) (by
                have : key + (id - key) = id := by omega
                rw [this]; exact List.mem_of_getElem? hj))]
              exact z1 j id hj
            · rw [get_zipNs, l2, if_pos (by omega)]
              congr 1
              omega
            · rw [get_zipNs, l2, if_neg hk]
              exact z2 id hi
          obtain ⟨ga, gb, gc⟩ := g2 (r0.upd.map (Blk.ren (fromPos ids ids.length key))) (r0.new.map (Blk.ren (fromPos ids ids.length key))) (by simpa using hul) (by simp)
          have bk1 : ∀ (j id : Nat), ids[j]? = some id → fromPos ids ids.length key j = id := fun j id hj => by
            unfold fromPos
            rw [nth_eq, hj]
          have bk2 : ∀ j, ids.length ≤ j → fromPos ids ids.length key j = key + (j - ids.length) := fun j hj => by
            unfold fromPos
            rw [nth_eq, List.getElem?_eq_none hj]
            rfl
          have cget : ∀ j, Heap.get (zipN 0 (r0.upd ++ r0.new)) j = if j < ids.length then r0.upd[j]? else r0.new[j - ids.length]? := fun j => by
            rw [get_zip0, List.getElem?_append, hul]
          have chas : ∀ j, Ev.has (zipN 0 (r0.upd ++ r0.new)) j → j < ids.length ∨ (ids.length ≤ j ∧ j - ids.length < r0.new.length) := fun j hj => by
            obtain ⟨b, hb⟩ := get_has hj
            rw [cget] at hb
            split at hb
            · exact .inl (by assumption)
            · exact .inr ⟨by omega, (List.getElem?_eq_some_iff.1 hb).1⟩
          have jn : Join (· ∈ ids) A h1 (toPos ids) (fromPos ids ids.length key) A' (zipN 0 (r0.upd ++ r0.new)) A2
              ((h1.sets (zipK ids (r0.upd.map (Blk.ren (fromPos ids ids.length key))))).sets (zipN key (r0.new.map (Blk.ren (fromPos ids ids.length key))))) := by
            have of : ∀ j b, Heap.get (zipN 0 (r0.upd ++ r0.new)) j = some b →
                ((h1.sets (zipK ids (r0.upd.map (Blk.ren (fromPos ids ids.length key))))).sets (zipN key (r0.new.map (Blk.ren (fromPos ids ids.length key))))).get (fromPos ids ids.length key j) = some (b.ren (fromPos ids ids.length key)) := fun j b hb => by
              rw [cget] at hb
              split at hb
              · rename_i hlt
                rw [bk1 j _ (List.getElem?_eq_getElem hlt), ga j _ (List.getElem?_eq_getElem hlt), List.getElem?_map, hb]
                rfl
              · rename_i hlt
                have hl2 : j - ids.length < r0.new.length := (List.getElem?_eq_some_iff.1 hb).1
                rw [bk2 j (by omega), gb _ hl2, List.getElem?_map, hb]
                rfl
            refine ⟨⟨fun j _ hj => ?_⟩, fun id b hb => ?_, of, fun j j' hj hj' e => ?_, fun id hi => bk1 _ _ (toPos_spec hi), fun id hi hh j hj => ?_, fun id hh => ?_⟩
            · obtain ⟨b, hb⟩ := get_has hj
              refine ⟨has_of_get (of j b hb), ?_⟩
              rcases chas j hj with hlt | ⟨hle, hlt⟩
              · have e := bk1 j _ (List.getElem?_eq_getElem hlt)
                have hm : ids[j] ∈ ids := List.getElem_mem hlt
                have hc0 : Ev.has (zipN 0 (bs.map (Blk.ren (toPos ids)))) j := by
                  unfold Ev.has
                  rw [get_zip0, List.getElem?_map, List.getElem?_eq_getElem (by rw [hbl]; exact hlt)]
                  rfl
                have hx := X'.hh j hc0
                have hd0 : ids.getD j 0 = ids[j] := by simp [hlt]
                rw [e]
                constructor
                · show (if ids[j] ∈ ids then A.m ids[j] else _) = _
                  rw [if_pos hm, hx.2.1]
                  show _ = A.m (ids.getD j 0)
                  rw [hd0]
                · show (if ids[j] ∈ ids then A.hd ids[j] else _) = _
                  rw [if_pos hm, hx.2.2]
                  show _ = A.hd (ids.getD j 0)
                  rw [hd0]
              · have e := bk2 j hle
                have hni := hidk _ hlt
                have hjj : ids.length + (key + (j - ids.length) - key) = j := by omega
                rw [e]
                constructor
                · show (if key + (j - ids.length) ∈ ids then _ else if key ≤ key + (j - ids.length) ∧ key + (j - ids.length) < key + r0.new.length then A'.m (ids.length + (key + (j - ids.length) - key)) else _) = _
                  rw [if_neg hni, if_pos (by omega), hjj]
                · show (if key + (j - ids.length) ∈ ids then _ else if key ≤ key + (j - ids.length) ∧ key + (j - ids.length) < key + r0.new.length then A'.hd (ids.length + (key + (j - ids.length) - key)) else _) = _
                  rw [if_neg hni, if_pos (by omega), hjj]
            · by_cases hi : id ∈ ids
              · left
                have hp := toPos_spec hi
                rw [ga _ _ hp, List.getElem?_map] at hb
                cases hu : r0.upd[toPos ids id]? with
                | none => rw [hu] at hb; cases hb
                | some b' =>
                  rw [hu] at hb
                  cases hb
                  exact ⟨toPos ids id, b', by rw [cget, if_pos (pos_lt hi), hu], (bk1 _ _ hp).symm, rfl⟩
              · by_cases hk : key ≤ id ∧ id < key + r0.new.length
                · left
                  have e : key + (id - key) = id := by omega
                  have hb' := gb (id - key) (by omega)
                  rw [e, hb, List.getElem?_map] at hb'
                  cases hu : r0.new[id - key]? with
                  | none => rw [hu] at hb'; cases hb'
                  | some b' =>
                    rw [hu] at hb'
                    refine ⟨ids.length + (id - key), b', ?_, ?_, Option.some.inj hb'⟩
                    · rw [cget, if_neg (by omega)]
                      rw [← hu]
                      congr 1
                      omega
                    · rw [bk2 _ (by omega)]
                      omega
                · right
                  exact ⟨hi, by rw [← gc id hi hk]; exact hb⟩
            · rcases chas j hj with h2 | ⟨h2, h2'⟩
              · rcases chas j' hj' with h3 | ⟨h3, h3'⟩
                · have e1 := bk1 j _ (List.getElem?_eq_getElem h2)
                  have e2 := bk1 j' _ (List.getElem?_eq_getElem h3)
                  have e3 : ids[j] = ids[j'] := by rw [← e1, ← e2]; exact e
                  exact (List.getElem?_inj h2 hnd).1 (by rw [List.getElem?_eq_getElem h2, List.getElem?_eq_getElem h3, e3])
                · refine absurd ?_ (hidk _ h3')
                  rw [← bk2 j' h3, ← e, bk1 j _ (List.getElem?_eq_getElem h2)]
                  exact List.getElem_mem h2
              · rcases chas j' hj' with h3 | ⟨h3, h3'⟩
                · refine absurd ?_ (hidk _ h2')
                  rw [← bk2 j h2, e, bk1 j' _ (List.getElem?_eq_getElem h3)]
                  exact List.getElem_mem h3
                · rw [bk2 j h2, bk2 j' h3] at e
                  omega
            · rcases chas j hj with h2 | ⟨h2, h2'⟩
              · rw [bk1 j _ (List.getElem?_eq_getElem h2)]
                exact fun e => hi (e ▸ List.getElem_mem h2)
              · rw [bk2 j h2]
                intro e
                obtain ⟨b, hb⟩ := get_has hh
                rw [← e, hnew1 _ h2'] at hb
                cases hb
            · by_cases hi : id ∈ ids
              · have hp := toPos_spec hi
                refine ⟨?_, if_pos hi, if_pos hi⟩
                unfold Ev.has
                rw [ga _ _ hp, List.getElem?_map, List.getElem?_eq_getElem (by rw [hul]; exact pos_lt hi)]
                rfl
              · have hk : ¬ (key ≤ id ∧ id < key + r0.new.length) := fun hk => by
                  obtain ⟨b, hb⟩ := get_has hh
                  have := hnew1 (id - key) (by omega)
                  rw [show key + (id - key) = id from by omega, hb] at this
                  cases this
                refine ⟨?_, ?_, ?_⟩
                · unfold Ev.has at hh ⊢
                  rw [gc id hi hk]
                  exact hh
                · show (if id ∈ ids then _ else if key ≤ id ∧ id < key + r0.new.length then _ else A.m id) = _
                  rw [if_neg hi, if_neg hk]
                · show (if id ∈ ids then _ else if key ≤ id ∧ id < key + r0.new.length then _ else A.hd id) = _
                  rw [if_neg hi, if_neg hk]
          obtain ⟨H2, X2⟩ := H1.join sub H' X' jn
          exact ⟨K', A2, H2, X1.trans X2, SlotR.ren jn.ren (knownSlot_free hks) (fun _ _ => trivial) S'⟩
        · cases hr
      · cases hr
    · cases hr
  · cases hr

end
end Go.Ev
