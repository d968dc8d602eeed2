/- Code, and functions. -/
import Derived.Test.YtmnbcnhpklejcaaDoorZEvRound
set_option linter.unusedVariables false
namespace Go.Ev
open Go.RowKit

section
variable {P : Program} {F : Fence} {n : Nat} {C : Ctx} {X : Start} {w : World} {K : KSet} {A : Asg} {h : Heap}

/-- What is told of loops and ranges ahead is so. -/
def LsOK (inner : Env → Code → St → Tr (Ex × St)) (E : Env) : Code → Prop
  | .loop c => (∀ x tr r, E.ls (loopKey c) x = some tr → tr.val = some r → ∃ k r', (loopN (evC inner c E) E.lent (E.live (loopKey c)) k (unV (E.live (loopKey c)) x)).val = some r' ∧
      r = (r'.1, canV E.lent (E.live (Nat.add 1000 (loopKey c))) r'.2)) ∧ LsOK inner E c
  | .rangeFunc f ps asg body => ∀ x tr r, E.ls (Nat.add 500 (loopKey body)) x = some tr → tr.val = some r → ∃ k r', (ranges inner (E.fueled k) { ps := ps.toList, asg := asg, body := body } f (unV (E.live (Nat.add 500 (loopKey body))) x)).val = some r' ∧
      r = (r'.1, canV E.lent (E.live (Nat.add 1500 (loopKey body))) r'.2)
  | .seq a b => LsOK inner E a ∧ LsOK inner E b
  | .cond _ a b => LsOK inner E a ∧ LsOK inner E b
  | .block _ c => LsOK inner E c
  | _ => True

theorem LsOK_none {inner : Env → Code → St → Tr (Ex × St)} {E : Env} (h : E.ls = fun _ _ => none) (c : Code) : LsOK inner E c := by
  induction c with
  | loop c ih => exact ⟨fun x tr r e => by (rw [h] at e; cases e), ih⟩
  | rangeFunc f ps asg body _ _ => exact fun x tr r e => by (rw [h] at e; cases e)
  | seq a b iha ihb => exact ⟨iha, ihb⟩
  | cond _ a b iha ihb => exact ⟨iha, ihb⟩
  | block _ c ih => exact ih
  | _ => trivial

theorem BaseY.fueled (B : BaseY F P C X) (k : Nat) : BaseY F P { E := C.E.fueled k, w0 := C.w0, lent := C.lent, K0 := C.K0, D := C.D } X :=
  { op := B.op, tab := B.tab, fns := FnsOK.tabs (E := C.E) (E' := C.E.fueled k) rfl rfl B.fns, it := B.it, yl := fun id vs h b h' hv w K A us m H E2 hus => by
      obtain ⟨fn, tmps, asg, body, h1, h2⟩ := B.yl id vs h b h' hv w K A us m (HR.tabs' (E := C.E.fueled k) rfl H) E2 hus
      exact ⟨fn, tmps, asg, body, h1, h2.mono fun e w' ⟨he, K', A', a, b⟩ => ⟨he, K', A', a.tabs rfl, b⟩⟩ }

theorem St.ok.tabs {E : Env} {σ : St} {a : Act} (hg : E.glob = C.E.glob) (hok : σ.ok C X a w) : σ.ok { E := E, w0 := C.w0, lent := C.lent, K0 := C.K0, D := C.D } X a w := by
  obtain ⟨K, A, H, E1, S, hd⟩ := hok
  exact ⟨K, A, H.tabs hg, E1, S, hd⟩
theorem St.ok.tabs' {E : Env} {σ : St} {a : Act} (hg : E.glob = C.E.glob) (hok : σ.ok { E := E, w0 := C.w0, lent := C.lent, K0 := C.K0, D := C.D } X a w) : σ.ok C X a w := by
  obtain ⟨K, A, H, E1, S, hd⟩ := hok
  exact ⟨K, A, H.tabs' hg, E1, S, hd⟩

/-- **CODE.** -/
theorem evC_R {inner : Env → Code → St → Tr (Ex × St)} (IH : CodeOK P inner) (hm : P.follows .mixedOrders = true) (F : Fence) (n : Nat) (C : Ctx) (X : Start) (B : BaseY F P C X) (Z : Zok F C X) (c : Code) (L : LsOK inner C.E c)
    {σ σ' : St} {ex : Ex} {a : Act} {w : World} {Q : Exit → Act → World → Prop} : (evC inner c C.E σ).val = some (ex, σ') → σ.ok C X a w → (∀ a' w', σ'.ok C X a' w' → Q (toExit ex) a' w') → c.wpIn F n P Q a w := by
  induction c generalizing σ σ' ex a w Q with
  | skip =>
    intro hs hok hk
    simp only [evC, Tr.val, Option.some.injEq, Prod.mk.injEq] at hs
    obtain ⟨rfl, rfl⟩ := hs
    exact wpIn_skip (hk a w hok)
  | region id ops d =>
    intro hs hok hk
    cases d with
    | false =>
      simp only [evC, val_bind, Option.bind_eq_some_iff, Tr.val, Option.some.injEq, Prod.mk.injEq] at hs
      obtain ⟨σ1, h1, rfl, rfl⟩ := hs
      exact wpIn_region_list (steps_R B h1 hok hk)
    | true =>
      simp only [evC, val_bind, Option.bind_eq_some_iff, Tr.val, Option.some.injEq, Prod.mk.injEq] at hs
      obtain ⟨σ1, h1, rfl, rfl⟩ := hs
      exact stepsD_R B.toBase hm h1 hok hk
  | seq x y ihx ihy =>
    intro hs hok hk
    simp only [evC, val_bind, Option.bind_eq_some_iff] at hs
    obtain ⟨⟨e1, σ1⟩, h1, h2⟩ := hs
    refine wpIn_seq (ihx L.1 h1 hok fun a' w' hok' => ?_)
    cases e1 with
    | nrm => exact ihy L.2 h2 hok' hk
    | ret => simp only [Tr.val, Option.some.injEq, Prod.mk.injEq] at h2; obtain ⟨rfl, rfl⟩ := h2; exact hk a' w' hok'
    | exit i => simp only [Tr.val, Option.some.injEq, Prod.mk.injEq] at h2; obtain ⟨rfl, rfl⟩ := h2; exact hk a' w' hok'
  | cond c x y ihx ihy =>
    intro hs hok hk
    simp only [evC] at hs
    split at hs
    · rename_i d
      split at hs
      · rename_i hd
        obtain ⟨_, K, A, hS⟩ := hok.slot hd
        exact wpIn_cond (t := true) hS (ihx L.1 hs hok hk)
      · rename_i hd
        obtain ⟨_, K, A, hS⟩ := hok.slot hd
        exact wpIn_cond (t := false) hS (ihy L.2 hs hok hk)
      · rename_i b hd
        obtain ⟨_, K, A, hS⟩ := hok.slot hd
        have hS := bool_R (w := w) (K := K) (A := A) (h := σ.h) hS
        have hok1 := hok.know hd
        simp only [Tr.val, nextSt_eq] at hs
        cases b with
        | true => exact wpIn_cond (t := true) hS (ihx L.1 hs hok1 hk)
        | false => exact wpIn_cond (t := false) hS (ihy L.2 hs hok1 hk)
      · cases hs
    · exact wpIn_cond (t := true) rfl (ihx L.1 hs hok hk)
    · exact wpIn_cond (t := false) rfl (ihy L.2 hs hok hk)
    · cases hs
  | block id c ih =>
    intro hs hok hk
    simp only [evC, val_bind, Option.bind_eq_some_iff] at hs
    obtain ⟨⟨e1, σ1⟩, h1, h2⟩ := hs
    refine wpIn_block (ih L h1 hok fun a' w' hok' => ?_)
    cases e1 with
    | nrm => simp only [Tr.val, Option.some.injEq, Prod.mk.injEq] at h2; obtain ⟨rfl, rfl⟩ := h2; exact hk a' w' hok'
    | ret => simp only [Tr.val, Option.some.injEq, Prod.mk.injEq] at h2; obtain ⟨rfl, rfl⟩ := h2; exact hk a' w' hok'
    | exit i =>
      show if i = id then Q .normal a' w' else Q (.exit i) a' w'
      simp only [] at h2
      cases hi : Nat.beq i id with
      | true =>
        rw [hi] at h2
        simp only [cond_true, Tr.val, Option.some.injEq, Prod.mk.injEq] at h2
        obtain ⟨rfl, rfl⟩ := h2
        rw [if_pos (Nat.eq_of_beq_eq_true hi)]
        exact hk a' w' hok'
      | false =>
        rw [hi] at h2
        simp only [cond_false, Tr.val, Option.some.injEq, Prod.mk.injEq] at h2
        obtain ⟨rfl, rfl⟩ := h2
        rw [if_neg (Nat.ne_of_beq_eq_false hi)]
        exact hk a' w' hok'
  | loop c ih =>
    intro hs hok hk
    simp only [evC] at hs
    -- the loop itself, from wherever, so many rounds
    have loop : (hX : ∀ j, Ev.has X.h j → j < C.E.lent) → ∀ (live : Lv) (fuel : Nat) {σ σ' : St} {ex : Ex} {a : Act} {w : World} {Q : Exit → Act → World → Prop}, (loopN (evC inner c C.E) C.E.lent live fuel σ).val = some (ex, σ') → σ.ok C X a w →
        (∀ a' w', σ'.ok C X a' w' → Q (toExit ex) a' w') → Code.roundsIn F n P c Q fuel a w := by
      intro hX live fuel σ σ' ex a w Q hs hok hk
      revert hs hok
      induction fuel generalizing σ a w with
      | zero => intro hs _; cases hs
      | succ fuel ihf =>
        intro hs hok
        simp only [loopN, canonV_eq, val_bind, Option.bind_eq_some_iff] at hs
        obtain ⟨⟨e1, σ1⟩, h1, h2⟩ := hs
        rw [roundsIn_succ]
        refine ih L.2 h1 (unV_ok hX hok) fun a' w' hok' => ?_
        cases e1 with
        | nrm => exact ihf h2 hok'
        | ret => simp only [Tr.val, Option.some.injEq, Prod.mk.injEq] at h2; obtain ⟨rfl, rfl⟩ := h2; exact hk a' w' hok'
        | exit i => simp only [Tr.val, Option.some.injEq, Prod.mk.injEq] at h2; obtain ⟨rfl, rfl⟩ := h2; exact hk a' w' hok'
    -- what is told of it
    have told : (hX : ∀ j, Ev.has X.h j → j < C.E.lent) → ∀ {tr : Tr (Ex × VS)} {σ σ' : St} {ex : Ex}, C.E.ls (loopKey c) (canV C.E.lent (C.E.live (loopKey c)) σ) = some tr →
        (tr.bind fun r => Tr.ret (r.1, unV (C.E.live (Nat.add 1000 (loopKey c))) r.2)).val = some (ex, σ') → ∃ k, ∀ {a : Act} {w : World} {Q : Exit → Act → World → Prop}, σ.ok C X a w → (∀ a' w', σ'.ok C X a' w' → Q (toExit ex) a' w') → Code.roundsIn F n P c Q k a w := by
      intro hX tr σ σ' ex htr hs
      simp only [val_bind, Option.bind_eq_some_iff, Tr.val, Option.some.injEq, Prod.mk.injEq] at hs
      obtain ⟨⟨e1, x1⟩, hs, rfl, rfl⟩ := hs
      obtain ⟨k, r', h1, h2⟩ := L.1 _ _ _ htr hs
      cases h2
      exact ⟨k, fun {a w Q} hok hk => loop hX _ k h1 (unV_ok hX hok) fun a' w' hok' => hk a' w' (unV_ok hX hok')⟩
    have peel : (hX : ∀ j, Ev.has X.h j → j < C.E.lent) → ∀ (fuel : Nat) {σ σ' : St} {ex : Ex}, (loopT (evC inner c C.E) (C.E.ls (loopKey c)) C.E.lent (C.E.live (loopKey c)) (C.E.live (Nat.add 1000 (loopKey c))) fuel σ).val = some (ex, σ') →
        ∃ k, ∀ {a : Act} {w : World} {Q : Exit → Act → World → Prop}, σ.ok C X a w → (∀ a' w', σ'.ok C X a' w' → Q (toExit ex) a' w') → Code.roundsIn F n P c Q k a w := by
      intro hX fuel
      induction fuel with
      | zero =>
        intro σ σ' ex hs
        simp only [loopT, canonV_eq] at hs
        split at hs
        · rename_i tr htr
          exact told hX htr hs
        · cases hs
      | succ fuel ihf =>
        intro σ σ' ex hs
        simp only [loopT, canonV_eq] at hs
        split at hs
        · rename_i tr htr
          exact told hX htr hs
        · simp only [val_bind, Option.bind_eq_some_iff] at hs
          obtain ⟨⟨e1, σ1⟩, h1, h2⟩ := hs
          cases e1 with
          | nrm =>
            obtain ⟨k, hk0⟩ := ihf h2
            refine ⟨k + 1, fun {a w Q} hok hk => ?_⟩
            rw [roundsIn_succ]
            exact ih L.2 h1 (unV_ok hX hok) fun a' w' hok' => hk0 hok' hk
          | ret =>
            simp only [Tr.val, Option.some.injEq, Prod.mk.injEq] at h2
            obtain ⟨rfl, rfl⟩ := h2
            refine ⟨1, fun {a w Q} hok hk => ?_⟩
            rw [roundsIn_succ]
            exact ih L.2 h1 (unV_ok hX hok) fun a' w' hok' => hk a' w' hok'
          | exit i =>
            simp only [Tr.val, Option.some.injEq, Prod.mk.injEq] at h2
            obtain ⟨rfl, rfl⟩ := h2
            refine ⟨1, fun {a w Q} hok hk => ?_⟩
            rw [roundsIn_succ]
            exact ih L.2 h1 (unV_ok hX hok) fun a' w' hok' => hk a' w' hok'
    rcases Z with ⟨Z, _, Z'⟩ | ⟨_, hX⟩
    · rw [Z] at hs
      simp only [loopT, canonV_eq, Z'] at hs
      cases hs
    · obtain ⟨k, hk0⟩ := peel hX _ hs
      exact wpIn_loop_rounds k (hk0 hok hk)
  | exit id =>
    intro hs hok hk
    simp only [evC, Tr.val, Option.some.injEq, Prod.mk.injEq] at hs
    obtain ⟨rfl, rfl⟩ := hs
    exact wpIn_exit (hk a w hok)
  | ret =>
    intro hs hok hk
    simp only [evC, Tr.val, Option.some.injEq, Prod.mk.injEq] at hs
    obtain ⟨rfl, rfl⟩ := hs
    exact wpIn_ret (hk a w hok)
  | rangeFunc f ps asg body _ _ =>
    intro hs hok hk
    simp only [evC, canonV_eq] at hs
    split at hs
    · rename_i tr htr
      simp only [val_bind, Option.bind_eq_some_iff, Tr.val, Option.some.injEq, Prod.mk.injEq] at hs
      obtain ⟨⟨e1, x1⟩, hs, rfl, rfl⟩ := hs
      obtain ⟨k, r', h1, h2⟩ := L _ _ _ htr hs
      rcases Z with ⟨_, _, Z⟩ | ⟨hro, hX⟩
      · rw [Z] at htr; cases htr
      · cases h2
        exact ranges_R (C := { E := C.E.fueled k, w0 := C.w0, lent := C.lent, K0 := C.K0, D := C.D }) IH (B.fueled k) hro h1 ((unV_ok hX hok).tabs rfl) fun a' w' hok' => hk a' w' (unV_ok hX (hok'.tabs' (E := C.E.fueled k) rfl))
    · rcases Z with ⟨_, Z, _⟩ | ⟨hro, hX⟩
      · unfold ranges at hs
        split at hs
        · rw [Z] at hs
          cases hs
        · cases hs
      · exact ranges_R IH B hro hs (unV_ok hX hok) hk
  | scope _ _ => intro hs; cases hs
  | label _ => intro hs; cases hs
  | goto _ => intro hs; cases hs
  | refuse _ => intro hs; cases hs

theorem evI_R (hm : P.follows .mixedOrders = true) : ∀ k, CodeOK P (evI k)
  | 0 => fun F n C X B Z _ c σ σ' ex a w Q hs => by cases hs
  | k + 1 => fun F n C X B Z hl c => evC_R (evI_R hm k) hm F n C X B Z c (LsOK_none hl c)

theorem ev_R (B : BaseY F P C X) (hm : P.follows .mixedOrders = true) (hro : F.round = none) (hX : ∀ j, Ev.has X.h j → j < C.E.lent) (c : Code) (L : LsOK (evI 2) C.E c) {σ σ' : St} {ex : Ex} {a : Act} {w : World} {Q : Exit → Act → World → Prop}
    (hs : (ev C.E c σ).val = some (ex, σ')) (hok : σ.ok C X a w) (hk : ∀ a' w', σ'.ok C X a' w' → Q (toExit ex) a' w') : c.wpIn F n P Q a w :=
  evC_R (evI_R hm 2) hm F n C X B (.inr ⟨hro, hX⟩) c L hs hok hk
end
end Go.Ev
