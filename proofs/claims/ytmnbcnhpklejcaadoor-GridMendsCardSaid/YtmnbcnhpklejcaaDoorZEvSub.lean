/- A part of the blocks, lent out and taken back. -/
import Derived.Test.YtmnbcnhpklejcaaDoorZEvRen
set_option linter.unusedVariables false
namespace Go.Ev
open Go.RowKit

/-- What one who is lent these blocks has to himself. -/
def Ctx.call (E : Env) (w : World) (K : KSet) (A : Asg) (h : Heap) : Ctx :=
  { E := E, w0 := w, lent := fun b => ∃ j, Uses A h j ∧ A.m j = b, K0 := K, D := [] }

/-- hc is the part S of h, told by other numbers. -/
structure Sub (S : Nat → Prop) (A : Asg) (h : Heap) (ρ : Nat → Nat) (A0 : Asg) (hc : Heap) : Prop where
  ren : Ren S A h ρ A0 hc
  get : ∀ j b, hc.get j = some b → ∃ id b0, S id ∧ j = ρ id ∧ h.get id = some b0 ∧ b = b0.ren ρ ∧ ∀ i ∈ b0.ids, S i
  of : ∀ id b, S id → h.get id = some b → hc.get (ρ id) = some (b.ren ρ)
  inj : ∀ id id', S id → S id' → ρ id = ρ id' → id = id'

/-- And back: hc' is what the part has become. -/
structure Join (S : Nat → Prop) (A : Asg) (h : Heap) (ρ : Nat → Nat) (back : Nat → Nat) (A' : Asg) (hc' : Heap) (A'' : Asg) (h'' : Heap) : Prop where
  ren : Ren (fun _ => True) A' hc' back A'' h''
  get : ∀ id b, h''.get id = some b → (∃ j b', hc'.get j = some b' ∧ id = back j ∧ b = b'.ren back) ∨ (¬ S id ∧ h.get id = some b)
  of : ∀ j b, hc'.get j = some b → h''.get (back j) = some (b.ren back)
  inj : ∀ j j', has hc' j → has hc' j' → back j = back j' → j = j'
  rb : ∀ id, S id → back (ρ id) = id
  out : ∀ id, ¬ S id → has h id → ∀ j, has hc' j → back j ≠ id
  keep : ∀ id, has h id → has h'' id ∧ A''.m id = A.m id ∧ A''.hd id = A.hd id

section
variable {C : Ctx} {w w' : World} {K K' : KSet} {A A0 A' A'' : Asg} {h hc hc' h'' : Heap} {S : Nat → Prop} {ρ back : Nat → Nat}

theorem get_has {h : Heap} {id : Nat} (hh : has h id) : ∃ b, h.get id = some b := by
  unfold has at hh
  cases hg : h.get id with
  | none => rw [hg] at hh; cases hh
  | some b => exact ⟨b, rfl⟩

theorem Sub.uses (s : Sub S A h ρ A0 hc) {j : Nat} (hu : Uses A0 hc j) : ∃ id, S id ∧ j = ρ id ∧ Uses A h id ∧ A0.m j = A.m id := by
  obtain ⟨b, hb⟩ := get_has (uses_has hu)
  obtain ⟨id, b0, hs, rfl, hg, rfl, _⟩ := s.get j b hb
  have hh : has h id := has_of_get hg
  have e : hc.get (ρ id) = (h.get id).map (Blk.ren ρ) := by rw [hg, hb]; rfl
  exact ⟨id, hs, rfl, (ren_uses s.ren hs e).1 hu, (s.ren.map id hs hh).2.1⟩

theorem Sub.uses' (s : Sub S A h ρ A0 hc) {id : Nat} (hs : S id) (hu : Uses A h id) : Uses A0 hc (ρ id) ∧ A0.m (ρ id) = A.m id := by
  obtain ⟨b, hb⟩ := get_has (uses_has hu)
  have e : hc.get (ρ id) = (h.get id).map (Blk.ren ρ) := by rw [hb, s.of id b hs hb]; rfl
  exact ⟨(ren_uses s.ren hs e).2 hu, (s.ren.map id hs (has_of_get hb)).2.1⟩

theorem HR.sub (H : HR C w K A h) (s : Sub S A h ρ A0 hc) : HR (Ctx.call C.E w K A0 hc) w K A0 hc where
  blk j b hb := by
    obtain ⟨id, b0, hs, rfl, hg, rfl, hi⟩ := s.get j b hb
    exact BlkR.ren s.ren hs (has_of_get hg) hi (H.blk id b0 hg)
  inj j j' hu hu' e := by
    obtain ⟨id, hs, rfl, h1, e1⟩ := s.uses hu
    obtain ⟨id', hs', rfl, h2, e2⟩ := s.uses hu'
    rw [H.inj id id' h1 h2 (by rw [← e1, ← e2]; exact e)]
  own j hu := by
    obtain ⟨id, hs, rfl, h1, e1⟩ := s.uses hu
    obtain ⟨a, b, _⟩ := H.own id h1
    rw [e1]
    exact ⟨a, b, .inr ⟨ρ id, hu, e1⟩⟩
  kset b hb := ⟨(H.kset b hb).1, .inl hb⟩
  k0 b hb := hb
  glob g p hp := by
    have := H.glob g p hp
    cases p <;> exact this
  os := rfl
  tape := rfl
  output := rfl
  size := Nat.le_refl _
  frame _ _ _ := rfl

theorem HR.join (H : HR C w K A h) (s : Sub S A h ρ A0 hc) (H' : HR (Ctx.call C.E w K A0 hc) w' K' A' hc') (x : Ext K A0 hc w K' A' hc' w')
    (j : Join S A h ρ back A' hc' A'' h'') : HR C w' K' A'' h'' ∧ Ext K A h w K' A'' h'' w' := by
  have bren : ∀ (b : Blk) e k xs, b.ren back = .row e k xs → b = .row e k xs := fun b e k xs hb => by
    cases b <;> simp only [Blk.ren] at hb <;> first | exact hb | cases hb
  have bfrz : ∀ (b : Blk) k xs, b.ren back = .frz k xs → b = .frz k xs := fun b k xs hb => by
    cases b <;> simp only [Blk.ren] at hb <;> first | exact hb | cases hb
  have rren : ∀ (b : Blk) e k xs, b.ren ρ = .row e k xs → b = .row e k xs := fun b e k xs hb => by
    cases b <;> simp only [Blk.ren] at hb <;> first | exact hb | cases hb
  have rfrz : ∀ (b : Blk) k xs, b.ren ρ = .frz k xs → b = .frz k xs := fun b k xs hb => by
    cases b <;> simp only [Blk.ren] at hb <;> first | exact hb | cases hb
  have back' : ∀ id, S id → has h id → ∀ i, id = back i → has hc' i → i = ρ id := fun id hs hh i e hi => by
    have h1 := (s.ren.map id hs hh).1
    have h2 := (x.hh _ h1).1
    exact j.inj i (ρ id) hi h2 (by rw [j.rb id hs]; exact e.symm)
  have X : Ext K A h w K' A'' h'' w' := by
    refine ⟨x.kk, j.keep, fun id e k xs' hh hg => ?_, fun id k xs' hh hg => ?_⟩
    · by_cases hs : S id
      · rcases j.get id _ hg with ⟨i, b', hb, e1, e2⟩ | ⟨hn, _⟩
        · have hb2 := bren b' e k xs' e2.symm
          subst hb2
          have hi := back' id hs hh i e1 (has_of_get hb)
          subst hi
          obtain ⟨xs, h0, l0⟩ := x.rr (ρ id) e k xs' (s.ren.map id hs hh).1 hb
          obtain ⟨b0, hb0⟩ := get_has hh
          have := s.of id b0 hs hb0
          rw [h0] at this
          cases this' : b0.ren ρ <;> rw [this'] at this <;> cases this
          exact ⟨xs, by rw [hb0, rren b0 e k xs this'], l0⟩
        · exact absurd hs hn
      · obtain ⟨b0, hb0⟩ := get_has hh
        have h1 := j.keep id hh
        rcases j.get id _ hg with ⟨i, b', hb, e1, e2⟩ | ⟨_, h2⟩
        · exact absurd e1.symm (j.out id hs hh i (has_of_get hb))
        · exact ⟨xs', h2, rfl⟩
    · by_cases hs : S id
      · rcases j.get id _ hg with ⟨i, b', hb, e1, e2⟩ | ⟨hn, _⟩
        · have hb2 := bfrz b' k xs' e2.symm
          subst hb2
          have hi := back' id hs hh i e1 (has_of_get hb)
          subst hi
          obtain ⟨b0, hb0⟩ := get_has hh
          have := s.of id b0 hs hb0
          rcases x.ff (ρ id) k xs' (s.ren.map id hs hh).1 hb with ⟨e, xs, h0, l0⟩ | ⟨xs, h0, l0⟩
          · rw [h0] at this
            cases this' : b0.ren ρ <;> rw [this'] at this <;> cases this
            exact .inl ⟨e, xs, by rw [hb0, rren b0 e k xs this'], l0⟩
          · rw [h0] at this
            cases this' : b0.ren ρ <;> rw [this'] at this <;> cases this
            exact .inr ⟨xs, by rw [hb0, rfrz b0 k xs this'], l0⟩
        · exact absurd hs hn
      · rcases j.get id _ hg with ⟨i, b', hb, e1, e2⟩ | ⟨_, h2⟩
        · exact absurd e1.symm (j.out id hs hh i (has_of_get hb))
        · exact .inr ⟨xs', h2, rfl⟩
  -- a block that is used afterwards: one of the part, or one that was left alone
  have used : ∀ id, Uses A'' h'' id → (∃ i, id = back i ∧ Uses A' hc' i ∧ A''.m id = A'.m i) ∨ (¬ S id ∧ Uses A h id ∧ A''.m id = A.m id) := fun id hu => by
    obtain ⟨b, hb⟩ := get_has (uses_has hu)
    rcases j.get id b hb with ⟨i, b', hb', rfl, rfl⟩ | ⟨hn, hg⟩
    · have e : h''.get (back i) = (hc'.get i).map (Blk.ren back) := by rw [hb, hb']; rfl
      exact .inl ⟨i, rfl, (ren_uses j.ren trivial e).1 hu, (j.ren.map i trivial (has_of_get hb')).2.1⟩
    · have hk := j.keep id (has_of_get hg)
      refine .inr ⟨hn, ?_, hk.2.1⟩
      unfold Uses at hu ⊢
      rw [hb] at hu
      rw [hg]
      cases b with
      | box ls => trivial
      | row e k xs => simp only [UsesO] at hu ⊢; rw [← hk.2.2]; exact hu
      | frz k xs => exact hu
      | dead => exact hu
      | lrec _ _ _ => trivial
  have lent1 : ∀ b, (Ctx.call C.E w K A0 hc).lent b → ∃ id, S id ∧ Uses A h id ∧ A.m id = b := fun b ⟨i, hu, e⟩ => by
    obtain ⟨id, hs, _, hu', e'⟩ := s.uses hu
    exact ⟨id, hs, hu', by rw [← e', e]⟩
  have alone : ∀ id, ¬ S id → Uses A h id → ¬ (Ctx.call C.E w K A0 hc).lent (A.m id) := fun id hn hu hl => by
    obtain ⟨id', hs, hu', e⟩ := lent1 _ hl
    exact hn (H.inj id' id hu' hu e ▸ hs)
  have part : ∀ i, Uses A' hc' i → C.w0.heap.size ≤ A'.m i ∨ C.lent (A'.m i) := fun i hu => by
    rcases (H'.own i hu).2.2 with h1 | h1
    · exact .inl (Nat.le_trans H.size h1)
    · obtain ⟨id, _, hu', e⟩ := lent1 _ h1
      rw [← e]
      exact (H.own id hu').2.2
  refine ⟨⟨fun id b hb => ?_, fun id id' hu hu' e => ?_, fun id hu => ?_, fun b hb => ?_, fun b hb => H'.k0 b (H.k0 b hb), fun g p hp => X.leaf (l := p.leaf) (H.glob g p hp), H'.os.trans H.os, H'.tape.trans H.tape, H'.output.trans H.output, Nat.le_trans H.size H'.size, fun b hb hl => ?_⟩, X⟩
  · rcases j.get id b hb with ⟨i, b', hb', rfl, rfl⟩ | ⟨hn, hg⟩
    · exact BlkR.ren j.ren trivial (has_of_get hb') (fun _ _ => trivial) (H'.blk i b' hb')
    · exact BlkR.keep X hg (fun hu => H'.frame _ (H.own id hu).2.1 (alone id hn hu)) (H.blk id b hg)
  · rcases used id hu with ⟨i, rfl, h1, e1⟩ | ⟨hn, h1, e1⟩
    · rcases used id' hu' with ⟨i', rfl, h2, e2⟩ | ⟨hn', h2, e2⟩
      · rw [H'.inj i i' h1 h2 (by rw [← e1, ← e2]; exact e)]
      · refine absurd ?_ (alone id' hn' h2)
        have ei : A'.m i = A.m id' := by rw [← e1, ← e2]; exact e
        rcases (H'.own i h1).2.2 with h3 | h3
        · rw [ei] at h3
          exact absurd (H.own id' h2).2.1 (Nat.not_lt.2 h3)
        · rw [← ei]; exact h3
    · rcases used id' hu' with ⟨i', rfl, h2, e2⟩ | ⟨hn', h2, e2⟩
      · refine absurd ?_ (alone id hn h1)
        have ei : A'.m i' = A.m id := by rw [← e1, ← e2]; exact e.symm
        rcases (H'.own i' h2).2.2 with h3 | h3
        · rw [ei] at h3
          exact absurd (H.own id h1).2.1 (Nat.not_lt.2 h3)
        · rw [← ei]; exact h3
      · exact H.inj id id' h1 h2 (by rw [← e1, ← e2]; exact e)
  · rcases used id hu with ⟨i, rfl, h1, e1⟩ | ⟨hn, h1, e1⟩
    · rw [e1]
      exact ⟨(H'.own i h1).1, (H'.own i h1).2.1, part i h1⟩
    · rw [e1]
      obtain ⟨o1, o2, o3⟩ := H.own id h1
      refine ⟨fun hk => ?_, Nat.lt_of_lt_of_le o2 H'.size, o3⟩
      rcases (H'.kset _ hk).2 with h3 | h3 | h3
      · exact o1 h3
      · exact absurd o2 (Nat.not_lt.2 h3)
      · exact alone id hn h1 h3
  · refine ⟨(H'.kset b hb).1, ?_⟩
    rcases (H'.kset b hb).2 with h3 | h3 | h3
    · exact (H.kset b h3).2
    · exact .inr (.inl (Nat.le_trans H.size h3))
    · obtain ⟨id, _, hu, e⟩ := lent1 b h3
      rw [← e]
      exact .inr (H.own id hu).2.2
  · rw [← H.frame b hb hl]
    refine H'.frame b (Nat.lt_of_lt_of_le hb H.size) fun h3 => ?_
    obtain ⟨id, _, hu, e⟩ := lent1 b h3
    rcases (H.own id hu).2.2 with h4 | h4
    · rw [e] at h4
      exact absurd hb (Nat.not_lt.2 h4)
    · rw [e] at h4
      exact hl h4
end
end Go.Ev
