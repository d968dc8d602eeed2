/- Every order that may be drawn comes to what the text's order comes to. -/
import Derived.Test.YtmnbcnhpklejcaaDoorZEvDraw
set_option linter.unusedVariables false
namespace Go.Ev
open Go.RowKit

theorem mem_waits {i : Nat} : ∀ {l : List Edge}, i ∈ waits l ↔ ∃ e ∈ l, binds e = true ∧ e.on = i
  | [] => by simp [waits]
  | e :: l => by
    simp only [waits]
    cases hb : binds e with
    | true =>
      simp only [cond_true, List.mem_cons, mem_waits (l := l), exists_eq_or_imp, hb, true_and]
      exact or_congr_left ⟨fun h => h.symm, fun h => h.symm⟩
    | false => simp [hb, mem_waits (l := l)]

theorem binds_eq (e : Edge) : Region.binds .any e = binds e := by
  unfold Region.binds binds
  cases e.ground <;> first | rfl | decide

theorem allLt_iff {k : Nat} : ∀ {l : List Nat}, allLt k l = true ↔ ∀ a ∈ l, a < k
  | [] => by simp [allLt]
  | a :: l => by
    simp only [allLt, List.mem_cons, forall_eq_or_imp]
    cases hb : Nat.blt a k with
    | true =>
      have : a < k := Nat.le_of_ble_eq_true hb
      simp [this, allLt_iff (l := l)]
    | false =>
      have : ¬ a < k := fun h => by
        have := Nat.ble_eq_true_of_le h
        rw [show Nat.ble (a + 1) k = Nat.blt a k from rfl, hb] at this
        cases this
      simp [this]

structure Apart (ops : List Oper) (o : Oper) (ρ : Rec) (o' : Oper) (ρ' : Rec) : Prop where
  ne : ∀ d, o.dst = some d → o'.dst ≠ some d
  d1 : ∀ d, o.dst = some d → d ∉ looks ops o'
  d2 : ∀ d, o'.dst = some d → d ∉ looks ops o
  k1 : ∀ k ∈ keysOf ρ.u, k ∉ ρ'.ids
  kk : ∀ k ∈ keysOf ρ.u, k ∉ keysOf ρ'.u
  k2 : ∀ k ∈ keysOf ρ'.u, k ∉ ρ.ids

theorem apart_spec {ops : List Oper} {o o' : Oper} {ρ ρ' : Rec} (h : apart ops o ρ o' ρ' = true) : Apart ops o ρ o' ρ' := by
  unfold apart at h
  simp only [Bool.and_eq_true] at h
  obtain ⟨⟨h1, h2, h3⟩, h4, h5⟩ := h
  have h4 := disj_iff.1 h4
  have h5 := disj_iff.1 h5
  have dn : ∀ (a : Option Nat) (l : List Nat), dstNot a l = true → ∀ d, a = some d → d ∉ l := fun a l ha d e hm => by
    subst e
    simp only [dstNot, memN_iff.2 hm] at ha
    cases ha
  refine ⟨fun d e e' => ?_, dn _ _ h2, dn _ _ h3, fun k hk hm => h4 k hk (by rw [app_eq]; exact List.mem_append_left _ hm), fun k hk hm => h4 k hk (by rw [app_eq]; exact List.mem_append_right _ hm), h5⟩
  rw [e, e'] at h1
  simp [dstNe] at h1

theorem RunsTo.after {E : Env} {ops : List Oper} {o o' : Oper} {ρ ρ' : Rec} {t : Tms} {g : Nat → Option Blk} (h : RunsTo E ops o ρ t g)
    (hd : ∀ d, o'.dst = some d → d ∉ looks ops o) (h1 : ∀ k ∈ keysOf ρ'.u, k ∉ ρ.ids) (h2 : ∀ k ∈ keysOf ρ'.u, k ∉ keysOf ρ.u) : RunsTo E ops o ρ (putSlot t o'.dst ρ'.v) (updG g ρ'.u) := by
  refine ⟨runD_congr h.1 (keep_put hd) fun id hi => updG_out fun hk => h1 id hk hi, okNew_iff.2 fun k hk => ?_⟩
  rcases okNew_iff.1 h.2 k hk with h3 | h3
  · exact .inl h3
  · right
    rw [updG_out fun hk' => h2 k hk' hk]
    exact h3

theorem RunsTo.before {E : Env} {ops : List Oper} {o o' : Oper} {ρ ρ' : Rec} {t : Tms} {g : Nat → Option Blk} (h : RunsTo E ops o ρ (putSlot t o'.dst ρ'.v) (updG g ρ'.u))
    (hd : ∀ d, o'.dst = some d → d ∉ looks ops o) (h1 : ∀ k ∈ keysOf ρ'.u, k ∉ ρ.ids) (h2 : ∀ k ∈ keysOf ρ'.u, k ∉ keysOf ρ.u) : RunsTo E ops o ρ t g := by
  refine ⟨runD_congr h.1 (keep_put hd).symm fun id hi => (updG_out fun hk => h1 id hk hi).symm, okNew_iff.2 fun k hk => ?_⟩
  rcases okNew_iff.1 h.2 k hk with h3 | h3
  · exact .inl h3
  · right
    rw [updG_out fun hk' => h2 k hk' hk] at h3
    exact h3

theorem put_comm {a b : Option Nat} {x y : Slot} {t : Tms} (h : ∀ d, a = some d → b ≠ some d) : putSlot (putSlot t a x) b y = putSlot (putSlot t b y) a x := by
  cases a with
  | none => rfl
  | some d =>
    cases b with
    | none => rfl
    | some e =>
      have : d ≠ e := fun h' => h d rfl (by rw [h'])
      exact Tms.set_comm t x y this

/-- Whatever order is picked from here on, these are the records, and so it ends. -/
def AnyR (E : Env) (ops : Array Oper) (R : Nat → Option Rec) (Qs : Tms → (Nat → Option Blk) → Prop) : Nat → Array Bool → Tms → (Nat → Option Blk) → Prop
  | 0, listed, t, g => Region.ready .any ops listed = [] ∧ Qs t g
  | fuel + 1, listed, t, g =>
    (Region.ready .any ops listed = [] → Qs t g) ∧
    ∀ i ∈ Region.ready .any ops listed, ∃ o ρ, ops[i]? = some o ∧ R i = some ρ ∧ RunsTo E ops.toList o ρ t g ∧ AnyR E ops R Qs fuel (listed.setIfInBounds i true) (putSlot t o.dst ρ.v) (updG g ρ.u)

theorem AnyR_first {E : Env} {ops : Array Oper} {R : Nat → Option Rec} {Qs : Tms → (Nat → Option Blk) → Prop} {i : Nat} {oi : Oper} {ρi : Rec} (hi : ops[i]? = some oi) (hri : R i = some ρi) :
    ∀ (fuel : Nat) (listed : Array Bool) (t : Tms) (g : Nat → Option Blk),
      (∀ j oj ρj, ops[j]? = some oj → R j = some ρj → j ≠ i → listed.getD j true = false → i ∉ waits oj.after.toList → Apart ops.toList oi ρi oj ρj) →
      i ∈ Region.ready .any ops listed → RunsTo E ops.toList oi ρi t g →
      AnyR E ops R Qs fuel (listed.setIfInBounds i true) (putSlot t oi.dst ρi.v) (updG g ρi.u) → AnyR E ops R Qs (fuel + 1) listed t g := by
  intro fuel
  induction fuel with
  | zero =>
    intro listed t g _ hr hy H
    refine ⟨fun h => (by rw [h] at hr; cases hr), fun j hj => ?_⟩
    by_cases hji : j = i
    · subst hji; exact ⟨oi, ρi, hi, hri, hy, H⟩
    · have := ready_mono hj hji
      rw [H.1] at this
      cases this
  | succ fuel ih =>
    intro listed t g hfree hr hy H
    refine ⟨fun h => (by rw [h] at hr; cases hr), fun j hj => ?_⟩
    by_cases hji : j = i
    · subst hji; exact ⟨oi, ρi, hi, hri, hy, H⟩
    · obtain ⟨oj, ρj, hoj, hrj, hyj, Hj⟩ := H.2 j (ready_mono hj hji)
      obtain ⟨hjun, oj', hoj', hall⟩ := mem_ready.1 hj
      have e : oj' = oj := by rw [hoj] at hoj'; exact (Option.some.inj hoj').symm
      subst e
      have hnot : i ∉ waits oj'.after.toList := fun hm => by
        obtain ⟨e, he, hb, heq⟩ := mem_waits.1 hm
        have h1 := hall e (by simpa using he) (by rw [binds_eq]; exact hb)
        have h0 := (mem_ready.1 hr).1
        rw [heq] at h1
        rcases Nat.lt_or_ge i listed.size with h' | h'
        · simp [h'] at h0 h1; rw [h0] at h1; cases h1
        · simp [Array.getElem?_eq_none h'] at h1
      have ha := hfree j oj' ρj hoj hrj hji hjun hnot
      have hyj0 : RunsTo E ops.toList oj' ρj t g := hyj.before ha.d1 ha.k1 ha.kk
      have hyi1 : RunsTo E ops.toList oi ρi (putSlot t oj'.dst ρj.v) (updG g ρj.u) := hy.after ha.d2 ha.k2 fun k hk hk' => ha.kk k hk' hk
      refine ⟨oj', ρj, hoj, hrj, hyj0, ih _ _ _ (fun k ok ρk hk hrk hki hun hno => ?_) (ready_mono hr (Ne.symm hji)) hyi1 ?_⟩
      · refine hfree k ok ρk hk hrk hki ?_ hno
        by_cases hjk : j = k
        · subst hjk; exact hjun
        · rw [getD_set_ne true hjk] at hun; exact hun
      · rw [Array.setIfInBounds_comm _ _ hji, ← put_comm ha.ne, ← updG_comm ha.kk]
        exact Hj

/-- The order of the text. -/
def LexR (E : Env) (ops : List Oper) (Qs : Tms → (Nat → Option Blk) → Prop) : List Oper → List Rec → Tms → (Nat → Option Blk) → Prop
  | [], _, t, g => Qs t g
  | o :: l, ρ :: rs, t, g => RunsTo E ops o ρ t g ∧ LexR E ops Qs l rs (putSlot t o.dst ρ.v) (updG g ρ.u)
  | _ :: _, [], _, _ => False

theorem okPrev_spec {ops : List Oper} {o : Oper} {ρ : Rec} : ∀ {prev : List (Nat × Oper × Rec)}, okPrev ops o ρ prev = true → ∀ p ∈ prev, p.1 ∈ waits o.after.toList ∨ Apart ops p.2.1 p.2.2 o ρ
  | [], _, p, hp => by cases hp
  | (i, o', ρ') :: l, h, p, hp => by
    simp only [okPrev] at h
    cases hc : (memN i (waits o.after.toList) || apart ops o' ρ' o ρ) with
    | false => rw [hc] at h; cases h
    | true =>
      rw [hc] at h
      rcases List.mem_cons.1 hp with rfl | hp
      · rcases Bool.or_eq_true_iff.1 hc with h1 | h1
        · exact .inl (memN_iff.1 h1)
        · exact .inr (apart_spec h1)
      · exact okPrev_spec h p hp

theorem stepsD_lex {E : Env} {ops : List Oper} : ∀ {l : List Oper} {k : Nat} {prev : List (Nat × Oper × Rec)} {σ σ' : St}, (stepsD E ops k l prev σ).val = some σ' →
    ∃ rs : List Rec, rs.length = l.length ∧ LexR E ops (fun t g => t = σ'.t ∧ g = σ'.h.get) l rs σ.t σ.h.get ∧
      ∀ (j : Nat) o ρ, l[j]? = some o → rs[j]? = some ρ → (∀ e ∈ waits o.after.toList, e < k + j) ∧ (∀ p ∈ prev, p.1 ∈ waits o.after.toList ∨ Apart ops p.2.1 p.2.2 o ρ) ∧
        ∀ (i : Nat) o' ρ', i < j → l[i]? = some o' → rs[i]? = some ρ' → (k + i) ∈ waits o.after.toList ∨ Apart ops o' ρ' o ρ
  | [], k, prev, σ, σ', h => by
    simp only [stepsD, Tr.val, Option.some.injEq] at h
    subst h
    exact ⟨[], rfl, ⟨rfl, rfl⟩, fun j o ρ hj => by simp at hj⟩
  | o :: l, k, prev, σ, σ', h => by
    simp only [stepsD] at h
    cases hlt : allLt k (waits o.after.toList) with
    | false => rw [hlt] at h; cases h
    | true =>
      rw [hlt] at h
      simp only [cond_true, val_bind, Option.bind_eq_some_iff] at h
      obtain ⟨ρ, hρ, h⟩ := h
      cases hc : (okNew σ.h.get ρ.ids ρ.u && okPrev ops o ρ prev) with
      | false => rw [hc] at h; cases h
      | true =>
        rw [hc] at h
        simp only [cond_true, nextSt_eq] at h
        simp only [Bool.and_eq_true] at hc
        obtain ⟨rs, h1, h2, h3⟩ := stepsD_lex h
        have hprev := okPrev_spec hc.2
        refine ⟨ρ :: rs, by simp [h1], ⟨⟨hρ, hc.1⟩, by rw [← sets_get]; exact h2⟩, fun j oj ρj hj hrj => ?_⟩
        cases j with
        | zero =>
          simp at hj hrj
          subst hj; subst hrj
          exact ⟨allLt_iff.1 hlt, hprev, fun i _ _ hi => by omega⟩
        | succ j =>
          obtain ⟨a, b, c⟩ := h3 j oj ρj (by simpa using hj) (by simpa using hrj)
          refine ⟨fun e he => by have := a e he; omega, fun p hp => b p (by simp [hp]), fun i o' ρ' hi hoi hri => ?_⟩
          cases i with
          | zero =>
            simp at hoi hri
            subst hoi; subst hri
            exact b (k, o, ρ) (by simp)
          | succ i =>
            have := c i o' ρ' (by omega) (by simpa using hoi) (by simpa using hri)
            rwa [show k + 1 + i = k + (i + 1) from by omega] at this

theorem AnyR_lex {E : Env} {ops : Array Oper} {R : List Rec} {Qs : Tms → (Nat → Option Blk) → Prop}
    (hw : ∀ (j : Nat) o, ops[j]? = some o → ∀ e ∈ waits o.after.toList, e < j)
    (hp : ∀ (i j : Nat) o' ρ' o ρ, i < j → ops[i]? = some o' → R[i]? = some ρ' → ops[j]? = some o → R[j]? = some ρ → i ∈ waits o.after.toList ∨ Apart ops.toList o' ρ' o ρ) :
    ∀ (l : List Oper) (rs : List Rec) (k : Nat) (listed : Array Bool) (t : Tms) (g : Nat → Option Blk), (∀ j : Nat, l[j]? = ops[k + j]?) → (∀ j : Nat, rs[j]? = R[k + j]?) → k + l.length = ops.size → listed.size = ops.size →
      (∀ i, i < ops.size → (listed.getD i true = true ↔ i < k)) → LexR E ops.toList Qs l rs t g → AnyR E ops (fun i => R[i]?) Qs l.length listed t g
  | [], rs, k, listed, t, g, hl, hr, hk, hs, hli, h => by
    refine ⟨?_, h⟩
    cases hrd : Region.ready .any ops listed with
    | nil => rfl
    | cons i is =>
      have hi : i ∈ Region.ready .any ops listed := by rw [hrd]; simp
      obtain ⟨h0, o, ho, _⟩ := mem_ready.1 hi
      have hlt : i < ops.size := (Array.getElem?_eq_some_iff.1 ho).1
      have := (hli i hlt).2 (by simp at hk; omega)
      rw [this] at h0
      cases h0
  | o :: l, [], k, listed, t, g, hl, hr, hk, hs, hli, h => h.elim
  | o :: l, ρ :: rs, k, listed, t, g, hl, hr, hk, hs, hli, h => by
    have h0 : ops[k]? = some o := by simpa using (hl 0).symm
    have r0 : R[k]? = some ρ := by simpa using (hr 0).symm
    have hkl : k < ops.size := by simp at hk; omega
    obtain ⟨hy, hK⟩ := h
    refine AnyR_first h0 r0 l.length listed t g (fun j oj ρj hj hrj hne hun hno => ?_) ?_ hy
      (AnyR_lex hw hp l rs (k + 1) _ _ _ (fun j => by have := hl (j + 1); simpa [Nat.add_assoc, Nat.add_comm 1 j] using this) (fun j => by have := hr (j + 1); simpa [Nat.add_assoc, Nat.add_comm 1 j] using this) (by simp at hk; omega) (by simpa using hs) (fun i hi => ?_) hK)
    · have hjl : j < ops.size := (Array.getElem?_eq_some_iff.1 hj).1
      have hkj : k < j := by
        rcases Nat.lt_or_ge j k with h1 | h1
        · rw [(hli j hjl).2 h1] at hun; cases hun
        · omega
      exact (hp k j o ρ oj ρj hkj h0 r0 hj hrj).resolve_left hno
    · refine mem_ready.2 ⟨?_, o, h0, fun e he hb => ?_⟩
      · cases hx : listed.getD k true with
        | false => rfl
        | true => exact absurd ((hli k hkl).1 hx) (by omega)
      · have hlt := hw k o h0 e.on (mem_waits.2 ⟨e, by simpa using he, by rw [← binds_eq]; exact hb, rfl⟩)
        have := (hli e.on (by omega)).2 hlt
        have hsz : e.on < listed.size := by omega
        simpa [Array.getD, hsz] using this
    · by_cases e : k = i
      · subst e
        have : k < listed.size := by omega
        simp [Array.getD, this]
      · rw [getD_set_ne true e, hli i hi]
        omega

section
variable {P : Program} {F : Fence} {n : Nat} {C : Ctx} {X : Start} {Q : Exit → Act → World → Prop}

theorem AnyR_R (B : Base F P C.E) {ops : Array Oper} {R : Nat → Option Rec} {Qs : Tms → (Nat → Option Blk) → Prop} (hQ : ∀ t g a w, Qs t g → okG C X t g a w → Q .normal a w) :
    ∀ (fuel : Nat) (listed : Array Bool) (t : Tms) (g : Nat → Option Blk) (a : Act) (w : World), AnyR C.E ops R Qs fuel listed t g → okG C X t g a w → wpAnyIn F n P .any ops Q fuel listed a w
  | 0, listed, t, g, a, w, h, hok => ⟨h.1, hQ t g a w h.2 hok⟩
  | fuel + 1, listed, t, g, a, w, h, hok => by
    refine ⟨fun h0 => hQ t g a w (h.1 h0) hok, fun i hi => ?_⟩
    obtain ⟨o, ρ, ho, hr, hy, hn⟩ := h.2 i hi
    unfold wpOpIn
    simp only [ho]
    exact runD_R B hy hok fun a' w' hok' => AnyR_R B hQ fuel _ _ _ a' w' hn hok'

theorem HR.drawn {w : World} {K : KSet} {A : Asg} {h : Heap} (H : HR C w K A h) (d : Nat) : HR C { w with drawn := d } K A h ∧ Ext K A h w K A h { w with drawn := d } := by
  have x : Ext K A h w K A h { w with drawn := d } := ⟨fun b hb => ⟨hb, rfl⟩, fun id hi => ⟨hi, rfl, rfl⟩, fun id e k xs' hi hg => ⟨xs', hg, rfl⟩, fun id k xs' hi hg => .inr ⟨xs', hg, rfl⟩⟩
  exact ⟨⟨fun id b hb => BlkR.keep x hb (fun _ => rfl) (H.blk id b hb), H.inj, H.own, H.kset, H.k0, fun g p hp => x.leaf (l := p.leaf) (H.glob g p hp), H.os, H.tape, H.output, H.size, H.frame⟩, x⟩

theorem St.ok.drawn {σ : St} {a : Act} {w : World} (hok : σ.ok C X a w) (d : Nat) : σ.ok C X a { w with drawn := d } := by
  obtain ⟨K, A, H, E1, S, hd⟩ := hok
  obtain ⟨H', x⟩ := H.drawn d
  exact ⟨K, A, H', E1.trans x, S.ext x, hd⟩

theorem St.ok.congr {σ σ' : St} {a : Act} {w : World} (ht : σ'.t = σ.t) (hg : σ'.h.get = σ.h.get) (hok : σ.ok C X a w) : σ'.ok C X a w := by
  obtain ⟨K, A, H, E1, S, hd⟩ := hok
  have hp : ∀ id, σ'.h.get id = σ.h.get id := fun id => congrFun hg id
  have hh : ∀ id, Ev.has σ'.h id ↔ Ev.has σ.h id := fun id => by unfold Ev.has; rw [hp id]
  have hu : ∀ id, Uses A σ'.h id ↔ Uses A σ.h id := fun id => by unfold Uses; rw [hp id]
  have x : Ext K A σ.h w K A σ'.h w := ⟨fun b hb => ⟨hb, rfl⟩, fun id hi => ⟨(hh id).2 hi, rfl, rfl⟩, fun id e k xs' hi hg' => ⟨xs', by rw [← hp id]; exact hg', rfl⟩, fun id k xs' hi hg' => .inr ⟨xs', by rw [← hp id]; exact hg', rfl⟩⟩
  refine ⟨K, A, ⟨fun id b hb => ?_, fun id id' h1 h2 => H.inj id id' ((hu id).1 h1) ((hu id').1 h2), fun id h1 => H.own id ((hu id).1 h1), H.kset, H.k0, fun g p hp => x.leaf (l := p.leaf) (H.glob g p hp), H.os, H.tape, H.output, H.size, H.frame⟩, E1.trans x, ?_, hd⟩
  · have hb' : σ.h.get id = some b := by rw [← hp id]; exact hb
    exact BlkR.keep x hb' (fun _ => rfl) (H.blk id b hb')
  · rw [ht]
    exact S.ext x

theorem stepsD_R (B : Base F P C.E) (hm : P.follows .mixedOrders = true) {id : Nat} {ops : Array Oper} {σ σ' : St} {a : Act} {w : World} (hs : (stepsD C.E ops.toList 0 ops.toList [] σ).val = some σ') (hok : σ.ok C X a w)
    (hk : ∀ a' w', σ'.ok C X a' w' → Q .normal a' w') : (Code.region id ops true).wpIn F n P Q a w := by
  obtain ⟨rs, h1, h2, h3⟩ := stepsD_lex hs
  have hlist : ∀ j : Nat, ops.toList[j]? = ops[0 + j]? := fun j => by simp
  refine wpIn_region_any hm ?_
  have any := AnyR_lex (E := C.E) (ops := ops) (R := rs) (Qs := fun t g => t = σ'.t ∧ g = σ'.h.get)
    (fun j o ho e he => by
      have hj : j < ops.toList.length := by simpa using (Array.getElem?_eq_some_iff.1 ho).1
      have := (h3 j o rs[j] (by rw [hlist]; simpa using ho) (List.getElem?_eq_getElem (by omega))).1 e he
      simpa using this)
    (fun i j o' ρ' o ρ hij hoi hri hoj hrj => by
      have := (h3 j o ρ (by rw [hlist]; simpa using hoj) hrj).2.2 i o' ρ' hij (by rw [hlist]; simpa using hoi) hri
      simpa using this)
    ops.toList rs 0 (Array.replicate ops.size false) σ.t σ.h.get hlist (fun j => by simp) (by simp) (by simp) (fun i hi => by simp [Array.getD, hi]) h2
  have := AnyR_R (n := n) (Q := Q) B (X := X) (Qs := fun t g => t = σ'.t ∧ g = σ'.h.get) (fun t g a w ⟨ht, hg⟩ ⟨h, hgh, hok⟩ => hk a w (St.ok.congr (σ := { t := t, h := h }) ht.symm (by rw [hgh]; exact hg.symm) hok))
    _ _ _ _ a { w with drawn := w.drawn + 1 } any ⟨σ.h, rfl, hok.drawn _⟩
  simpa using this
end
end Go.Ev
