/- Packing data; freezing rows. -/
import Derived.Test.YtmnbcnhpklejcaaDoorZEvOps
set_option linter.unusedVariables false
namespace Go.Ev
open Go.RowKit

theorem Heap.sets_app : ∀ (h : Heap) (u v : List (Nat × Blk)), h.sets (app u v) = (h.sets u).sets v
  | _, [], _ => rfl
  | h, (id, b) :: u, v => by simp [app, Heap.sets, Heap.sets_app (h.set id b) u v]

section
variable {C : Ctx} {w : World} {K : KSet} {A : Asg} {h : Heap}

theorem owns_R {e : TypeId} {k : Kd} {xs : List k.T} {l : List Value} {v : Value} {K' : KSet} (ho : Owns w e k.sz v xs.length l) (hr : RowR w K k xs l) (hk : ∀ b, K b → K' b)
    (hm : ∀ g, ownB v = some g → K' g) : Kd.R w K' (.sl k) xs [v] := by
  obtain ⟨hl, ⟨h0, a, h1⟩ | ⟨g, cap, cur, fz, hv, h0, hg, _, hle, _, hcur, htake⟩⟩ := ho
  · exact ⟨a, 0, by rw [h1]; simp only [show (List.length (α := k.T) xs) = 0 from h0], by rw [show (List.length (α := k.T) xs) = 0 from h0]; exact Nat.le_refl _, .inl h0⟩
  · refine ⟨_, cap, by rw [hv], hle, .inr ⟨g, 0, cur, e, fz, rfl, hm g (by rw [hv]; exact ownB_pos h0), hg, fun i hi => ?_⟩⟩
    have hR := Kd.R_mono (K' := K') hk (fun _ _ => rfl) (RowR_get hr i hi)
    have e1 : cellsAt cur (0 + i * k.sz) k.sz = (l.drop (i * k.sz)).take k.sz := by
      have hle2 : i * k.sz + k.sz ≤ xs.length * k.sz := by
        rw [← Nat.succ_mul]
        exact Nat.mul_le_mul_right _ hi
      unfold cellsAt
      rw [Nat.zero_add, ← htake, List.drop_take, List.take_take, Nat.min_eq_left (by omega)]
    rw [e1]
    exact hR

/-- A row that is told as data from now on. -/
theorem freeze1 (H : HR C w K A h) {id : Nat} {e : TypeId} {k : Kd} {xs : List k.T} (hg : h.get id = some (.row e k xs)) :
    ∃ K', HR C w K' A (h.set id (.frz k xs)) ∧ Ext K A h w K' A (h.set id (.frz k xs)) w ∧ Kd.R w K' (.sl k) xs [A.hd id] := by
  obtain ⟨l, ho, hr, hb, hz⟩ := H.blk id _ hg
  let K' : KSet := fun b => K b ∨ (b = A.m id ∧ ownB (A.hd id) = some (A.m id))
  have hK : ∀ b, K b → K' b := fun b hb => .inl hb
  have hext : Ext K A h w K' A (h.set id (.frz k xs)) w := by
    refine ⟨fun b hb => ⟨.inl hb, rfl⟩, fun i hi => ⟨?_, rfl, rfl⟩, fun i e' k' xs' hi hgi => ?_, fun i k' xs' hi hgi => ?_⟩
    · unfold Ev.has at *
      rw [Heap.get_set]
      split
      · rfl
      · exact hi
    · rw [Heap.get_set] at hgi
      split at hgi
      · cases hgi
      · exact ⟨xs', hgi, rfl⟩
    · rw [Heap.get_set] at hgi
      split at hgi
      · rename_i e0
        cases hgi
        rw [e0]
        exact .inl ⟨e, xs, hg, rfl⟩
      · exact .inr ⟨xs', hgi, rfl⟩
  have hR : Kd.R w K' (.sl k) xs [A.hd id] := by
    refine owns_R ho hr hK fun g hgo => .inr ?_
    rcases hb with hb | hb
    · rw [hb] at hgo; cases hgo
    · rw [hb] at hgo
      cases hgo
      exact ⟨rfl, hb⟩
  have huse : ∀ i, Uses A (h.set id (.frz k xs)) i → i ≠ id ∧ Uses A h i := fun i hu => by
    unfold Uses at hu ⊢
    rw [Heap.get_set] at hu
    by_cases e0 : i = id
    · rw [if_pos e0] at hu
      exact hu.elim
    · rw [if_neg e0] at hu
      exact ⟨e0, hu⟩
  refine ⟨K', ⟨?_, ?_, ?_, ?_, fun b hb => .inl (H.k0 b hb), fun g l hl => hext.leaf (H.glob g l hl), H.os, H.tape, H.output, H.size, H.frame⟩, hext, hR⟩
  · intro i b hgi
    rw [Heap.get_set] at hgi
    split at hgi
    · rename_i e0
      cases hgi
      rw [e0]
      refine ⟨hR, hz, ?_⟩
      obtain ⟨_, h1 | ⟨g, cap, cur, fz, hv, h0, _⟩⟩ := ho
      · exact .inl h1.1
      · refine .inr ⟨xs.length, cap, ?_⟩
        rcases hb with hb | hb
        · rw [hv, ownB_pos h0] at hb; cases hb
        · rw [hv, ownB_pos h0] at hb
          have : g = A.m id := by simpa using hb
          rw [hv, this]
    · have hB := H.blk i b hgi
      cases b with
      | box ls =>
        obtain ⟨cs, t, h1, h2, h3⟩ := hB
        exact ⟨cs, t, h1, hext.leaves h2, h3⟩
      | row e' k' xs' =>
        obtain ⟨l', h1, h2, h3⟩ := hB
        exact ⟨l', h1, hext.rowR h2, h3⟩
      | frz k' xs' => exact ⟨hext.R hB.1, hB.2⟩
      | dead => trivial
      | lrec b pe rl => exact hB
  · intro i i' hu hu' hm
    exact H.inj i i' (huse i hu).2 (huse i' hu').2 hm
  · intro i hu
    obtain ⟨hne, hu0⟩ := huse i hu
    obtain ⟨h1, h2, h3⟩ := H.own i hu0
    refine ⟨fun hK' => ?_, h2, h3⟩
    rcases hK' with hK' | ⟨he, hob⟩
    · exact h1 hK'
    · have hui : Uses A h id := by
        unfold Uses
        rw [hg]
        simp [UsesO, hob]
      exact hne (H.inj i id hu0 hui he)
  · intro b hb
    rcases hb with hb | ⟨he, hob⟩
    · exact H.kset b hb
    · have hui : Uses A h id := by
        unfold Uses
        rw [hg]
        simp [UsesO, hob]
      obtain ⟨_, h2, h3⟩ := H.own id hui
      rw [he]
      exact ⟨h2, .inr h3⟩

/-- The rows of a list, told as data from now on. -/
theorem freezes : ∀ (f : List Nat) {h : Heap} {K : KSet}, HR C w K A h →
    ∃ K', HR C w K' A (h.sets (frozenUpd h f)) ∧ Ext K A h w K' A (h.sets (frozenUpd h f)) w ∧
      ∀ id ∈ f, ∀ e k xs, h.get id = some (.row e k xs) → Kd.R w K' (.sl k) xs [A.hd id]
  | [], h, K, H => ⟨K, H, Ext.refl _ _ _ _, fun _ hi => by cases hi⟩
  | id :: f, h, K, H => by
    simp only [frozenUpd]
    split
    · rename_i e k xs hg
      obtain ⟨K1, H1, x1, r1⟩ := freeze1 H hg
      obtain ⟨K2, H2, x2, r2⟩ := freezes f H1
      refine ⟨K2, H2, x1.trans x2, fun i hi e' k' xs' hgi => ?_⟩
      by_cases hid : i = id
      · subst hid
        rw [hg] at hgi
        cases hgi
        exact x2.R r1
      · rcases List.mem_cons.1 hi with hi | hi
        · exact absurd hi hid
        · exact r2 i hi e' k' xs' (by rw [Heap.get_set, if_neg hid]; exact hgi)
    · rename_i hno
      obtain ⟨K2, H2, x2, r2⟩ := freezes f H
      refine ⟨K2, H2, x2, fun i hi e' k' xs' hgi => ?_⟩
      rcases List.mem_cons.1 hi with hi | hi
      · subst hi
        exact absurd hgi (hno _ _ _)
      · exact r2 i hi e' k' xs' hgi

theorem R_cast {k k' : Kd} {x : k.T} {y : k'.T} {K : KSet} {l : List Value} (h : castK k' x = some y) (H : Kd.R w K k x l) : Kd.R w K k' y l := by
  obtain ⟨e, h⟩ := castK_eq h
  subst e
  subst h
  exact H

theorem packOne_R {K' : KSet} (hk : ∀ b, K b → K' b) {k : Kd} {l : Leaf} {v : Value} {x : k.T} {f : List Nat} (H : HR C w K A h) (hl : LeafR w K A h l v) (hp : packOne h k l = some (x, f))
    (hf : ∀ id ∈ f, ∀ e k xs, h.get id = some (.row e k xs) → Kd.R w K' (.sl k) xs [A.hd id]) : Kd.R w K' k x [v] := by
  have mono : ∀ {k : Kd} {x : k.T}, Kd.R w K k x [v] → Kd.R w K' k x [v] := fun h => Kd.R_mono hk (fun _ _ => rfl) h
  cases l with
  | dat k' y =>
    simp only [packOne, Option.map_eq_some_iff, Prod.mk.injEq] at hp
    obtain ⟨z, hz, rfl, rfl⟩ := hp
    exact R_cast hz (mono hl)
  | kb b =>
    simp only [packOne, Option.map_eq_some_iff, Prod.mk.injEq] at hp
    obtain ⟨z, hz, rfl, rfl⟩ := hp
    exact R_cast (k := .bool) hz (by rw [show v = _ from hl]; exact rfl)
  | clip k' xs =>
    simp only [packOne, Option.map_eq_some_iff, Prod.mk.injEq] at hp
    obtain ⟨z, hz, rfl, rfl⟩ := hp
    exact R_cast (k := .sl k') hz (mono hl.1)
  | nn b k' xs =>
    simp only [packOne, Option.map_eq_some_iff, Prod.mk.injEq] at hp
    obtain ⟨z, hz, rfl, rfl⟩ := hp
    exact R_cast (k := .sl k') hz (mono hl.1)
  | nils =>
    cases k with
    | sl k' =>
      simp only [packOne, Option.some.injEq, Prod.mk.injEq] at hp
      obtain ⟨rfl, rfl⟩ := hp
      exact ⟨none, 0, by rw [show v = _ from hl]; rfl, Nat.le_refl _, .inl rfl⟩
    | _ => cases hp
  | row id =>
    simp only [packOne] at hp
    split at hp
    · rename_i e k' xs hg
      simp only [Option.map_eq_some_iff, Prod.mk.injEq] at hp
      obtain ⟨z, hz, rfl, rfl⟩ := hp
      rw [hl.2.1]
      exact R_cast (k := .sl k') hz (hf id (by simp) _ _ _ hg)
    · rename_i k' xs hg
      simp only [Option.map_eq_some_iff, Prod.mk.injEq] at hp
      obtain ⟨z, hz, rfl, rfl⟩ := hp
      rw [hl.2.1]
      have := (H.blk id _ hg).1
      rw [← hl.2.1] at this ⊢
      exact R_cast (k := .sl k') hz (mono this)
    · cases hp
  | undef => cases hp
  | hole => cases hp
  | ptr _ _ => cases hp
  | eptr _ _ _ => cases hp
  | vw _ _ _ _ => cases hp
  | dptr _ _ => cases hp
  | emp =>
    obtain ⟨a, hl⟩ := hl
    cases k with
    | sl k' =>
      simp only [packOne, Option.some.injEq, Prod.mk.injEq] at hp
      obtain ⟨rfl, rfl⟩ := hp
      exact ⟨a, 0, by rw [hl]; rfl, Nat.le_refl _, .inl rfl⟩
    | _ => cases hp
  | aptr _ _ => cases hp
  | nilp => cases hp
  | fn _ _ => cases hp
  | nilf => cases hp
  | yld _ => cases hp

theorem packL_R {K' : KSet} (hk : ∀ b, K b → K' b) (H : HR C w K A h) : ∀ {k : Kd} {ls : List Leaf} {cs : List Value} {x : k.T} {r : List Leaf} {f : List Nat},
    All2 (LeafR w K A h) ls cs → packL h k ls = some (x, r, f) → (∀ id ∈ f, ∀ e k xs, h.get id = some (.row e k xs) → Kd.R w K' (.sl k) xs [A.hd id]) →
    ∃ c1 c2, cs = c1 ++ c2 ∧ Kd.R w K' k x c1 ∧ All2 (LeafR w K A h) r c2
  | .un, ls, cs, x, r, f, hl, hp, _ => by
    simp only [packL, Option.some.injEq, Prod.mk.injEq] at hp
    obtain ⟨_, rfl, _⟩ := hp
    exact ⟨[], cs, rfl, rfl, hl⟩
  | .pr a b, ls, cs, x, r, f, hl, hp, hf => by
    simp only [packL] at hp
    split at hp
    · rename_i x1 r1 f1 h1
      split at hp
      · rename_i x2 r2 f2 h2
        simp only [Option.some.injEq, Prod.mk.injEq, app_eq] at hp
        obtain ⟨rfl, rfl, rfl⟩ := hp
        obtain ⟨c1, c2, e1, R1, l1⟩ := packL_R hk H hl h1 (fun id hi => hf id (List.mem_append_left _ hi))
        obtain ⟨c3, c4, e2, R2, l2⟩ := packL_R hk H l1 h2 (fun id hi => hf id (List.mem_append_right _ hi))
        exact ⟨c1 ++ c3, c4, by rw [e1, e2, List.append_assoc], ⟨c1, c3, rfl, R1, R2⟩, l2⟩
      · cases hp
    · cases hp
  | .int k, ls, cs, x, r, f, hl, hp, hf => by
    cases hl with
    | nil => cases hp
    | cons h0 h1 =>
      simp only [packL] at hp
      split at hp
      · rename_i hq
        simp only [Option.some.injEq, Prod.mk.injEq] at hp
        obtain ⟨rfl, rfl, rfl⟩ := hp
        exact ⟨[_], _, rfl, packOne_R hk H h0 hq hf, h1⟩
      · cases hp
  | .bool, ls, cs, x, r, f, hl, hp, hf => by
    cases hl with
    | nil => cases hp
    | cons h0 h1 =>
      simp only [packL] at hp
      split at hp
      · rename_i hq
        simp only [Option.some.injEq, Prod.mk.injEq] at hp
        obtain ⟨rfl, rfl, rfl⟩ := hp
        exact ⟨[_], _, rfl, packOne_R hk H h0 hq hf, h1⟩
      · cases hp
  | .str, ls, cs, x, r, f, hl, hp, hf => by
    cases hl with
    | nil => cases hp
    | cons h0 h1 =>
      simp only [packL] at hp
      split at hp
      · rename_i hq
        simp only [Option.some.injEq, Prod.mk.injEq] at hp
        obtain ⟨rfl, rfl, rfl⟩ := hp
        exact ⟨[_], _, rfl, packOne_R hk H h0 hq hf, h1⟩
      · cases hp
  | .sl k, ls, cs, x, r, f, hl, hp, hf => by
    cases hl with
    | nil => cases hp
    | cons h0 h1 =>
      simp only [packL] at hp
      split at hp
      · rename_i hq
        simp only [Option.some.injEq, Prod.mk.injEq] at hp
        obtain ⟨rfl, rfl, rfl⟩ := hp
        exact ⟨[_], _, rfl, packOne_R hk H h0 hq hf, h1⟩
      · cases hp
end

end Go.Ev
