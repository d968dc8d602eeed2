/- The tree of a frame's slots. -/
import Derived.Test.YtmnbcnhpklejcaaDoorZEvRun
set_option linter.unusedVariables false
namespace Go.Ev

theorem Tm.get_node (l : Tm) (v : Slot) (r : Tm) (n : Nat) : (Tm.node l v r).get n = if n = 0 then v else if n % 2 = 1 then l.get (n / 2) else r.get (n / 2 - 1) := by
  simp only [Tm.get]
  by_cases h : n = 0
  · subst h; simp
  · have h1 : Nat.beq n 0 = false := by cases e : Nat.beq n 0; rfl; exact absurd (Nat.eq_of_beq_eq_true e) h
    rw [h1, if_neg h]
    simp only [cond_false]
    by_cases h2 : n % 2 = 1
    · have : Nat.beq (Nat.mod n 2) 1 = true := by show Nat.beq (n % 2) 1 = true; rw [h2]; rfl
      rw [this, if_pos h2]
      rfl
    · have : Nat.beq (Nat.mod n 2) 1 = false := by cases e : Nat.beq (Nat.mod n 2) 1; rfl; exact absurd (Nat.eq_of_beq_eq_true e) h2
      rw [this, if_neg h2]
      rfl

theorem Tm.set_node (l : Tm) (x : Slot) (r : Tm) (n : Nat) (v : Slot) : (Tm.node l x r).set n v = if n = 0 then .node l v r else if n % 2 = 1 then .node (l.set (n / 2) v) x r else .node l x (r.set (n / 2 - 1) v) := by
  simp only [Tm.set]
  by_cases h : n = 0
  · subst h; simp
  · have h1 : Nat.beq n 0 = false := by cases e : Nat.beq n 0; rfl; exact absurd (Nat.eq_of_beq_eq_true e) h
    rw [h1, if_neg h]
    simp only [cond_false]
    by_cases h2 : n % 2 = 1
    · have : Nat.beq (Nat.mod n 2) 1 = true := by show Nat.beq (n % 2) 1 = true; rw [h2]; rfl
      rw [this, if_pos h2]
      rfl
    · have : Nat.beq (Nat.mod n 2) 1 = false := by cases e : Nat.beq (Nat.mod n 2) 1; rfl; exact absurd (Nat.eq_of_beq_eq_true e) h2
      rw [this, if_neg h2]
      rfl

theorem Tm.get_set_ne : ∀ (t : Tm) (n i : Nat) (v : Slot), i ≠ n → (t.set n v).get i = t.get i
  | .nil, _, _, _, _ => rfl
  | .node l x r, n, i, v, h => by
    rw [Tm.set_node]
    by_cases h0 : n = 0
    · have hi : ¬ i = 0 := by omega
      rw [if_pos h0, Tm.get_node, Tm.get_node, if_neg hi, if_neg hi]
    · rw [if_neg h0]
      by_cases h1 : n % 2 = 1
      · rw [if_pos h1, Tm.get_node, Tm.get_node]
        by_cases hi : i = 0
        · rw [if_pos hi, if_pos hi]
        · rw [if_neg hi, if_neg hi]
          by_cases h2 : i % 2 = 1
          · rw [if_pos h2, if_pos h2, Tm.get_set_ne l _ _ v (by omega)]
          · rw [if_neg h2, if_neg h2]
      · rw [if_neg h1, Tm.get_node, Tm.get_node]
        by_cases hi : i = 0
        · rw [if_pos hi, if_pos hi]
        · rw [if_neg hi, if_neg hi]
          by_cases h2 : i % 2 = 1
          · rw [if_pos h2, if_pos h2]
          · rw [if_neg h2, if_neg h2, Tm.get_set_ne r _ _ v (by omega)]

theorem Tm.get_set_eq : ∀ (t : Tm) (n : Nat) (v : Slot), (t.set n v).get n = v ∨ (t.set n v).get n = undefS
  | .nil, _, _ => .inr rfl
  | .node l x r, n, v => by
    rw [Tm.set_node]
    by_cases h0 : n = 0
    · left; rw [if_pos h0, Tm.get_node, if_pos h0]
    · rw [if_neg h0]
      by_cases h1 : n % 2 = 1
      · rw [if_pos h1, Tm.get_node, if_neg h0, if_pos h1]
        exact Tm.get_set_eq l _ v
      · rw [if_neg h1, Tm.get_node, if_neg h0, if_neg h1]
        exact Tm.get_set_eq r _ v

theorem Tm.set_comm : ∀ (t : Tm) (a b : Nat) (x y : Slot), a ≠ b → (t.set a x).set b y = (t.set b y).set a x
  | .nil, _, _, _, _, _ => rfl
  | .node l v r, a, b, x, y, h => by
    simp only [Tm.set_node]
    by_cases a0 : a = 0
    · have b0 : ¬ b = 0 := by omega
      by_cases b1 : b % 2 = 1 <;> simp [a0, b0, b1, Tm.set_node]
    · by_cases b0 : b = 0
      · by_cases a1 : a % 2 = 1 <;> simp [a0, b0, a1, Tm.set_node]
      · by_cases a1 : a % 2 = 1
        · by_cases b1 : b % 2 = 1
          · simp only [if_neg a0, if_neg b0, if_pos a1, if_pos b1, Tm.set_node]
            rw [Tm.set_comm l _ _ x y (by omega)]
          · simp only [if_neg a0, if_neg b0, if_pos a1, if_neg b1, Tm.set_node]
        · by_cases b1 : b % 2 = 1
          · simp only [if_neg a0, if_neg b0, if_neg a1, if_pos b1, Tm.set_node]
          · simp only [if_neg a0, if_neg b0, if_neg a1, if_neg b1, Tm.set_node]
            rw [Tm.set_comm r _ _ x y (by omega)]

theorem Tm.get_full : ∀ (d i : Nat), (Tm.full d).get i = undefS
  | 0, _ => rfl
  | d + 1, i => by
    simp only [Tm.full, Tm.get_node]
    by_cases h : i = 0
    · rw [if_pos h]; rfl
    · rw [if_neg h]
      by_cases h1 : i % 2 = 1
      · rw [if_pos h1, Tm.get_full d]
      · rw [if_neg h1, Tm.get_full d]

theorem blt_iff {a b : Nat} : Nat.blt a b = true ↔ a < b := by
  constructor
  · exact fun h => Nat.le_of_ble_eq_true h
  · exact fun h => Nat.ble_eq_true_of_le h

theorem Tms.at_some {t : Tms} {i : Nat} {s : Slot} : t.at i = some s ↔ i < t.n ∧ t.m.get i = s := by
  unfold Tms.at
  cases h : Nat.blt i t.n with
  | true => simp [blt_iff.1 h]
  | false =>
    have : ¬ i < t.n := fun h' => by rw [blt_iff.2 h'] at h; cases h
    simp [this]

theorem Tms.set_n (t : Tms) (i : Nat) (v : Slot) : (t.set i v).n = t.n := by
  unfold Tms.set
  cases Nat.blt i t.n <;> rfl

theorem Tms.set_ne {t : Tms} {d i : Nat} {v : Slot} (h : i ≠ d) : (t.set d v).m.get i = t.m.get i := by
  unfold Tms.set
  cases Nat.blt d t.n with
  | true => exact Tm.get_set_ne _ _ _ _ h
  | false => rfl

theorem Tms.at_set {t : Tms} {d i : Nat} {v s : Slot} (h : (t.set d v).at i = some s) : (i = d ∧ (s = v ∨ s = undefS)) ∨ (i ≠ d ∧ t.at i = some s) := by
  rw [Tms.at_some, Tms.set_n] at h
  by_cases e : i = d
  · left
    refine ⟨e, ?_⟩
    subst e
    unfold Tms.set at h
    rw [blt_iff.2 h.1] at h
    rcases Tm.get_set_eq t.m i v with h1 | h1
    · left; rw [← h.2]; exact h1
    · right; rw [← h.2]; exact h1
  · right
    exact ⟨e, Tms.at_some.2 ⟨h.1, by rw [← h.2, Tms.set_ne e]⟩⟩

theorem Tms.set_comm (t : Tms) {a b : Nat} (x y : Slot) (h : a ≠ b) : (t.set a x).set b y = (t.set b y).set a x := by
  unfold Tms.set
  cases ha : Nat.blt a t.n <;> cases hb : Nat.blt b t.n <;> simp [ha, hb, Tm.set_comm t.m a b x y h]

theorem put_n (t : Tms) (dst : Option Tmp) (v : Slot) : (putSlot t dst v).n = t.n := by cases dst <;> simp [putSlot, Tms.set_n]

/-! ### Parts of the slots -/
theorem keepT_get {t : Tm} {i : Nat} : ∀ {live : List Nat} {m : Tm}, (m.get i = undefS ∨ (m.get i = t.get i ∧ True)) → (keepT t live m).get i = undefS ∨ (keepT t live m).get i = t.get i ∧ (i ∈ live ∨ m.get i ≠ undefS)
  | [], m, h => by
    rcases h with h | ⟨h, _⟩
    · exact .inl h
    · by_cases hu : m.get i = undefS
      · exact .inl hu
      · exact .inr ⟨h, .inr hu⟩
  | j :: live, m, h => by
    simp only [keepT, Tm.setK_eq]
    by_cases e : i = j
    · subst e
      have h1 : (m.set i (t.get i)).get i = undefS ∨ ((m.set i (t.get i)).get i = t.get i ∧ True) := (Tm.get_set_eq m i (t.get i)).symm.imp id fun h => ⟨h, trivial⟩
      rcases keepT_get (live := live) h1 with h2 | ⟨h2, _⟩
      · exact .inl h2
      · exact .inr ⟨h2, .inl (by simp)⟩
    · have h0 := Tm.get_set_ne m j i (t.get j) e
      rcases keepT_get (t := t) (live := live) (m := m.set j (t.get j)) (by rw [h0]; exact h) with h2 | ⟨h2, h3⟩
      · exact .inl h2
      · rw [h0] at h3
        exact .inr ⟨h2, h3.imp (fun h => by simp [h]) id⟩

theorem Tms.keep_at {t : Tms} {live : List Nat} {i : Nat} {s : Slot} (h : (t.keep live).at i = some s) : s = undefS ∨ (i ∈ live ∧ t.at i = some s) := by
  rw [Tms.at_some] at h
  have h0 := Tm.get_full 10 i
  rcases keepT_get (t := t.m) (i := i) (live := live) (m := Tm.full 10) (.inl h0) with h2 | ⟨h2, h3⟩
  · exact .inl (h.2.symm.trans h2)
  · right
    rcases h3 with h3 | h3
    · exact ⟨h3, Tms.at_some.2 ⟨h.1, h2.symm.trans h.2⟩⟩
    · exact absurd h0 h3

theorem keepT_congr {t t' : Tm} : ∀ {live : List Nat} {m : Tm}, (∀ i ∈ live, t.get i = t'.get i) → keepT t live m = keepT t' live m
  | [], m, h => rfl
  | j :: live, m, h => by
    simp only [keepT, Tm.setK_eq]
    rw [h j (by simp)]
    exact keepT_congr fun i hi => h i (by simp [hi])

theorem keep_put {live : List Nat} {dst : Option Tmp} {v : Slot} {t : Tms} (h : ∀ d, dst = some d → d ∉ live) : (putSlot t dst v).keep live = t.keep live := by
  cases dst with
  | none => rfl
  | some d =>
    unfold Tms.keep
    simp only [putSlot, Tms.set_n]
    rw [keepT_congr (t' := t.m) fun i hi => Tms.set_ne fun e => h d rfl (by rw [← e]; exact hi)]

theorem ids_at {t : Tms} : ∀ {live : List Nat} {i : Nat} {s : Slot}, i ∈ live → t.m.get i = s → ∀ id ∈ s.ids, id ∈ t.ids live
  | j :: live, i, s, hi, hs, id, hid => by
    simp only [Tms.ids]
    have app_mem : ∀ (l m : List Nat), id ∈ l ∨ id ∈ m → id ∈ app l m := by
      intro l
      induction l with
      | nil => intro m h; simpa [app] using h
      | cons a l ih =>
        intro m h
        simp only [app, List.mem_cons]
        rcases h with h | h
        · rcases List.mem_cons.1 h with h | h
          · exact .inl h
          · exact .inr (ih m (.inl h))
        · exact .inr (ih m (.inr h))
    rcases List.mem_cons.1 hi with e | e
    · subst e
      exact app_mem _ _ (.inl (by rw [hs]; exact hid))
    · exact app_mem _ _ (.inr (ids_at e hs id hid))

theorem freeT_get {t : Tm} {i : Nat} : ∀ {live : List Nat} {m : Tm}, (m.get i = undefS ∨ (m.get i = t.get i ∧ (t.get i).free = true ∧ i ∈ live) ∨ True) → True := fun _ => trivial

/-- What a slot of a tree that is built from a list of slots may be. -/
theorem build_get {f : Nat → Slot} {build : List Nat → Tm → Tm} (hn : ∀ m, build [] m = m) (hc : ∀ i l m, build (i :: l) m = build l (m.set i (f i))) {i : Nat} :
    ∀ {live : List Nat} {m : Tm}, (build live m).get i = undefS ∨ ((build live m).get i = f i ∧ i ∈ live) ∨ (build live m).get i = m.get i
  | [], m => .inr (.inr (by rw [hn]))
  | j :: live, m => by
    rw [hc]
    rcases build_get hn hc (i := i) (live := live) (m := m.set j (f j)) with h | ⟨h, hm⟩ | h
    · exact .inl h
    · exact .inr (.inl ⟨h, by simp [hm]⟩)
    · by_cases e : i = j
      · subst e
        rcases Tm.get_set_eq m i (f i) with h1 | h1
        · exact .inr (.inl ⟨h.trans h1, by simp⟩)
        · exact .inl (h.trans h1)
      · exact .inr (.inr (h.trans (Tm.get_set_ne m j i (f j) e)))

theorem Tms.free_at {t : Tms} {live : List Nat} {i : Nat} {s : Slot} (h : (t.free live).at i = some s) : s.free = true ∧ (s = undefS ∨ (i ∈ live ∧ t.at i = some s)) := by
  rw [Tms.at_some] at h
  have hb := build_get (f := fun i => bif (t.m.get i).free then t.m.get i else undefS) (build := freeT t.m) (fun _ => rfl) (fun i l m => by simp only [freeT, Tm.setK_eq]) (i := i) (live := live) (m := Tm.full 10)
  have h0 := Tm.get_full 10 i
  have he : (freeT t.m live (Tm.full 10)).get i = s := h.2
  rcases hb with h1 | ⟨h1, hm⟩ | h1
  · rw [he] at h1; subst h1; exact ⟨rfl, .inl rfl⟩
  · rw [he] at h1
    cases hf : (t.m.get i).free with
    | true => rw [hf] at h1; simp only [cond_true] at h1; subst h1; exact ⟨hf, .inr ⟨hm, Tms.at_some.2 ⟨h.1, rfl⟩⟩⟩
    | false => rw [hf] at h1; simp only [cond_false] at h1; subst h1; exact ⟨rfl, .inl rfl⟩
  · rw [he, h0] at h1; subst h1; exact ⟨rfl, .inl rfl⟩

theorem Tms.ren_at {t : Tms} {ρ : Nat → Nat} {live : List Nat} {i : Nat} {s : Slot} (h : (t.ren ρ live).at i = some s) : s = undefS ∨ (i ∈ live ∧ ∃ s0, t.at i = some s0 ∧ s = s0.ren ρ) := by
  rw [Tms.at_some] at h
  have hb := build_get (f := fun i => (t.m.get i).ren ρ) (build := renT ρ t.m) (fun _ => rfl) (fun i l m => by simp only [renT, fSlot_eq, Tm.setK_eq]) (i := i) (live := live) (m := Tm.full 10)
  have h0 := Tm.get_full 10 i
  have he : (renT ρ t.m live (Tm.full 10)).get i = s := h.2
  rcases hb with h1 | ⟨h1, hm⟩ | h1
  · rw [he] at h1; exact .inl h1
  · rw [he] at h1; exact .inr ⟨hm, t.m.get i, Tms.at_some.2 ⟨h.1, rfl⟩, h1⟩
  · rw [he, h0] at h1; exact .inl h1

theorem argsT_get : ∀ {args : List AV} {k i : Nat} {m : Tm}, (argsT k args m).get i = undefS ∨ (k ≤ i ∧ ∃ v, args[i - k]? = some v ∧ (argsT k args m).get i = .av v) ∨ (argsT k args m).get i = m.get i
  | [], k, i, m => .inr (.inr rfl)
  | v :: args, k, i, m => by
    simp only [argsT, fAV_eq, Tm.setK_eq]
    rcases argsT_get (args := args) (k := k + 1) (i := i) (m := m.set k (.av v)) with h | ⟨hle, x, hx, h⟩ | h
    · exact .inl h
    · refine .inr (.inl ⟨by omega, x, ?_, h⟩)
      have : i - k = (i - (k + 1)) + 1 := by omega
      rw [this]
      simpa using hx
    · by_cases e : i = k
      · subst e
        rcases Tm.get_set_eq m i (.av v) with h1 | h1
        · exact .inr (.inl ⟨Nat.le_refl _, v, by simp, h.trans h1⟩)
        · exact .inl (h.trans h1)
      · exact .inr (.inr (h.trans (Tm.get_set_ne m k i (.av v) e)))
end Go.Ev
