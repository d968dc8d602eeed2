/- One operation, and a region whose order is that of its text. -/
import Derived.Test.YtmnbcnhpklejcaaDoorZEvCall
import Derived.RangeFuncNested
import Derived.LoopNIn
import Derived.TacticsIn
import Derived.ControlIn
set_option linter.unusedVariables false
namespace Go.Ev
open Go.RowKit

section
variable {P : Program} {F : Fence} {n : Nat} {C : Ctx} {w : World} {K : KSet} {A : Asg}

/-- What is fixed in a walk: the fence, the program, the tables. -/
def ItOK (P : Program) (E : Env) : Prop := ∀ g fn, E.it g = some fn → P.funcs[g]? = some fn ∧ (fn.name == "runtime.NumGoroutine") = false

structure Base (F : Fence) (P : Program) (E : Env) : Prop where
  op : Open F
  tab : TabOK P E.tt
  fns : FnsOK P E
  it : ItOK P E

theorem opRun_nodefer {E : Env} {σ : St} {o : Oper} {r : OR} (hr : opRun E σ o = some r) : ∀ c, o.op ≠ .defer c := fun c hc => by
  unfold opRun at hr
  simp only [hc] at hr
  cases hr

theorem app_vs {vs : List Value} {us : List Value} : (vs ++ us).toArray = vs.toArray ++ us.toArray := by simp

theorem all2_caps {h : Heap} : ∀ {cs : List Nat}, (∀ id ∈ cs, has h id) → All2 (AVR w K A h) (cs.map fun id => AV.one (.ptr id 0)) (cs.map fun id => Value.pointer (some ⟨A.m id, 0, none⟩))
  | [], _ => .nil
  | id :: cs, hh => .cons ⟨hh id (by simp), rfl⟩ (all2_caps fun i hi => hh i (by simp [hi]))

/-- **ONE OPERATION.** -/
theorem oper_R (B : Base F P C.E) {σ : St} {a : Act} {o : Oper} {r : OR} {next : Act → World → Prop} {Q : Exit → Act → World → Prop}
    (H : HR C w K A σ.h) (S : SlotsR w K A σ.h σ.t a) (hr : opRun C.E σ o = some r) (hc : r.c ≠ some false)
    (hk : ∀ v w' K' A', HR C w' K' A' (σ.h.sets r.u) → Ext K A σ.h w K' A' (σ.h.sets r.u) w' → SlotR w' K' A' (σ.h.sets r.u) r.v v → next (a.put o.dst v) w') :
    o.wpIn F n P a w next Q := by
  refine ⟨fun f _ => B.op.fn f, ?_⟩
  rw [Oper.semAt_eq _ _ _ (opRun_nodefer hr)]
  cases hcall : isCall o with
  | false =>
    obtain ⟨nx, v, w', K', A', hrun, hv, H', X', S'⟩ := opRun_R B.tab H S hr hcall hc
    rw [hrun]
    rcases hv with rfl | ⟨rfl, rfl⟩
    · exact hk v w' K' A' H' X' S'
    · exact hk undef w' K' A' H' X' S'
  | true =>
    unfold isCall at hcall
    split at hcall
    · rename_i c hop
      split at hcall
      · rename_i fo hfo
        have hr' := hr
        unfold opRun at hr'
        simp only [hop, hfo] at hr'
        split at hr'
        · rename_i f caps hl
          split at hr'
          · rename_i vs hvs
            have hL := opLeaf_R H S hl
            obtain ⟨hcap, hfv⟩ := hL
            have hA := opAVs_R H S hvs
            rw [app_eq] at hr'
            have hall := hA.app (all2_caps hcap)
            have hruns := callR_R B.op B.fns H hall hr' hc
            have he : (execOp a.eval o).run P w = (callFunc f ((c.args.toList.map a.eval) ++ (caps.map fun id => Value.pointer (some ⟨A.m id, 0, none⟩))).toArray).run P w := by
              have h1 : execOp a.eval o = (do let d ← resolve a.eval c o.type; invoke d.target d.args) := by unfold execOp; rw [hop]
              have h2 : resolve a.eval c o.type = pure { target := .fn (.func f) (caps.map fun id => Value.pointer (some ⟨A.m id, 0, none⟩)).toArray, args := #[] ++ c.args.map a.eval } := by
                unfold resolve
                rw [hfo]
                show Deferred.ofValue (a.eval fo) (c.args.map a.eval) = _
                rw [hfv]
                rfl
              rw [h1, h2]
              show (callFunc f ((#[] ++ c.args.map a.eval) ++ _)).run P w = _
              congr 2
              simp
            rw [he]
            rcases hruns with ⟨v, w', hrun, K', A', H', X', S'⟩ | ⟨hrun, hcalls⟩
            · rw [hrun]
              exact hk v w' K' A' H' X' S'
            · rw [hrun]
              refine ⟨fun hd => (by rw [B.op.depth] at hd; cases hd), ?_⟩
              refine (hcalls.more (Nat.zero_le _)).mono fun e w' ⟨v, he, K', A', H', X', S'⟩ => ?_
              rw [he]
              exact hk v w' K' A' H' X' S'
          · cases hr'
        · cases hr'
      · cases hcall
    · cases hcall

/-! ### The state of a frame -/
structure Start where
  K : KSet
  A : Asg
  h : Heap
  w : World

/-- The marks of the ranges over functions that are over. -/
def DefR (C : Ctx) (X : Start) (w : World) (K : KSet) (ds : List Deferred) : Prop :=
  ds.Nodup ∧ ∀ d ∈ ds, ∃ D, d = { target := .collected D, args := #[] } ∧ C.w0.heap.size ≤ D ∧ ¬ X.K D ∧ K D ∧ w.heap[D]? = some (.deferred (some []))

theorem DefR.nil (C : Ctx) (X : Start) (w : World) (K : KSet) : DefR C X w K [] := ⟨.nil, fun _ h => by cases h⟩

theorem DefR.mono {C : Ctx} {X : Start} {w w' : World} {K K' : KSet} {ds : List Deferred} (H : DefR C X w K ds) (h : ∀ b, K b → K' b ∧ w'.heap[b]? = w.heap[b]?) : DefR C X w' K' ds :=
  ⟨H.1, fun d hd => by
    obtain ⟨D, e, h0, hx, h1, h2⟩ := H.2 d hd
    exact ⟨D, e, h0, hx, (h D h1).1, (h D h1).2.trans h2⟩⟩

/-- The state σ tells this frame and this world. -/
def St.ok (C : Ctx) (X : Start) (σ : St) (a : Act) (w : World) : Prop :=
  ∃ K A, HR C w K A σ.h ∧ Ext X.K X.A X.h X.w K A σ.h w ∧ SlotsR w K A σ.h σ.t a ∧ DefR C X w K a.defers

/-- What calls of yield come to. -/
def YlOK (F : Fence) (P : Program) (C : Ctx) (X : Start) : Prop :=
  ∀ id vs h b h', (C.E.yl id vs h).val = some (b, h') → ∀ w K A us m, HR C w K A h → Ext X.K X.A X.h X.w K A h w → All2 (AVR w K A h) vs us →
    YieldAt F m P (A.m id) us.toArray w fun e w' => e = .returned (.bool b) ∧ ∃ K' A', HR C w' K' A' h' ∧ Ext K A h w K' A' h' w'

structure BaseY (F : Fence) (P : Program) (C : Ctx) (X : Start) : Prop extends Base F P C.E where
  yl : YlOK F P C X

variable {X : Start} {a : Act} {σ σ' : St} {Q : Exit → Act → World → Prop}

theorem val_bind {α β : Type} (t : Tr α) (f : α → Tr β) : (t.bind f).val = t.val.bind fun x => (f x).val := by
  induction t with
  | ret a => rfl
  | ite c t e ih1 ih2 =>
    simp only [Tr.bind, Tr.val]
    cases c <;> simp [ih1, ih2]
  | fail => rfl

theorem need_val {α : Type} {c : Option Bool} {t : Tr α} {x : α} (h : (need c t).val = some x) : c ≠ some false ∧ t.val = some x := by
  cases c with
  | none => exact ⟨by simp, h⟩
  | some b =>
    cases b with
    | true => exact ⟨by simp, h⟩
    | false => cases h

theorem put_defers (a : Act) (d : Option Tmp) (v : Value) : (a.put d v).defers = a.defers := by cases d <;> rfl

theorem stepY_R (B : BaseY F P C X) {o : Oper} {next : Act → World → Prop} (hs : (stepY C.E o σ).val = some σ') (hok : σ.ok C X a w)
    (hk : ∀ a' w', σ'.ok C X a' w' → next a' w') : o.wpIn F n P a w next Q := by
  obtain ⟨K, A, H, E1, S, hd⟩ := hok
  unfold stepY at hs
  split at hs
  · rename_i p hp
    obtain ⟨id, vs⟩ := p
    simp only [val_bind, Option.bind_eq_some_iff] at hs
    obtain ⟨⟨b, h'⟩, hy, hs⟩ := hs
    simp only [putK_eq, fHeap_eq, Tr.val, Option.some.injEq] at hs
    subst hs
    unfold yldOf at hp
    split at hp
    · rename_i c hop
      split at hp
      · rename_i fo hfo
        split at hp
        · rename_i hl
          split at hp
          · rename_i vs' hvs
            cases hp
            have hL := opLeaf_R H S hl
            obtain ⟨hcap, hfv⟩ := hL
            have hA := opAVs_R H S hvs
            obtain ⟨fn, tmps, asg, body, hyl, hR⟩ := B.yl _ _ _ _ _ hy w K A _ (n - 1) H E1 hA
            refine ⟨fun f _ => B.op.fn f, ?_⟩
            have hnd : ∀ c, o.op ≠ .defer c := fun c hc => by rw [hop] at hc; cases hc
            rw [Oper.semAt_eq _ _ _ hnd]
            have he : (execOp a.eval o).run P w = (Instr.yield (A.m id) ((c.args.toList.map a.eval)).toArray).run P w := by
              have h1 : execOp a.eval o = (do let d ← resolve a.eval c o.type; invoke d.target d.args) := by unfold execOp; rw [hop]
              have h2 : resolve a.eval c o.type = pure { target := .fn (.yield (A.m id)) #[], args := #[] ++ c.args.map a.eval } := by
                unfold resolve
                rw [hfo]
                show Deferred.ofValue (a.eval fo) (c.args.map a.eval) = _
                rw [hfv]
                rfl
              rw [h1, h2]
              show (Instr.yield (A.m id) (#[] ++ c.args.map a.eval)).run P w = _
              rw [show (#[] ++ c.args.map a.eval : Array Value) = (c.args.toList.map a.eval).toArray from by
                apply Array.ext'
                simp]
            rw [he, hyl]
            refine ⟨fun hd => (by rw [B.op.depth] at hd; cases hd), ?_⟩
            refine hR.mono fun e w' ⟨he, K', A', H', X'⟩ => ?_
            rw [he]
            exact hk _ _ ⟨K', A', H', E1.trans X', (S.ext X').put (s := one (.kb b)) (show LeafR w' K' A' h' (.kb b) (.bool b) from rfl), by rw [put_defers]; exact hd.mono X'.kk⟩
          · cases hp
        · cases hp
      · cases hp
    · cases hp
  · cases hs

theorem step1_R (B : BaseY F P C X) {o : Oper} {next : Act → World → Prop} (hs : (step1 C.E o σ).val = some σ') (hok : σ.ok C X a w)
    (hk : ∀ a' w', σ'.ok C X a' w' → next a' w') : o.wpIn F n P a w next Q := by
  obtain ⟨K, A, H, E1, S, hd⟩ := hok
  unfold step1 at hs
  split at hs
  · rename_i r hr
    obtain ⟨hc, hs⟩ := need_val hs
    rw [nextSt_eq] at hs
    cases hs
    exact oper_R B.toBase H S hr hc fun v w' K' A' H' X' S' => hk _ _ ⟨K', A', H', E1.trans X', (S.ext X').put S', by rw [put_defers]; exact hd.mono X'.kk⟩
  · exact stepY_R B hs ⟨K, A, H, E1, S, hd⟩ hk

/-- A slot's truth value, told. -/
theorem St.ok.know (hok : σ.ok C X a w) {d : Nat} {b : Bool} (hd : σ.t.at d = some (.av (.one (.dat .bool b)))) : St.ok C X { t := putSlot σ.t (some d) (one (.kb b)), h := σ.h } a w := by
  obtain ⟨K, A, H, E1, S, hde⟩ := hok
  exact ⟨K, A, H, E1, S.set fun _ => bool_R (w := w) (K := K) (A := A) (h := σ.h) (S.at_ d _ hd), hde⟩

theorem yielded_of {ops : Array Oper} {j d : Nat} {b : Bool} (hg : guardSlot ops.toList j = some d) (hlt : d < a.tmps.size) (hv : a.tmps.getD d undef = .bool b) : yielded ops a.tmps j = some b := by
  unfold guardSlot at hg
  rw [nth_eq] at hg
  unfold yielded
  cases ho : ops[j]? with
  | none =>
    have : ops.toList[j]? = none := by simpa using ho
    rw [this] at hg
    cases hg
  | some o =>
    have : ops.toList[j]? = some o := by simpa using ho
    rw [this] at hg
    simp only [] at hg
    have h2 : a.tmps[d]? = some (.bool b) := by
      simp [Array.getD, hlt] at hv
      rw [Array.getElem?_eq_getElem hlt, hv]
    simp only [Option.bind_some, hg, h2]

theorem yielded_hole {ops : Array Oper} {j d : Nat} (hg : guardSlot ops.toList j = some d) (hlt : d < a.tmps.size) (hv : a.tmps.getD d undef = undef) : yielded ops a.tmps j = none := by
  unfold guardSlot at hg
  rw [nth_eq] at hg
  unfold yielded
  cases ho : ops[j]? with
  | none =>
    have : ops.toList[j]? = none := by simpa using ho
    rw [this] at hg
    cases hg
  | some o =>
    have : ops.toList[j]? = some o := by simpa using ho
    rw [this] at hg
    simp only [] at hg
    have h2 : a.tmps[d]? = some undef := by
      simp [Array.getD, hlt] at hv
      rw [Array.getElem?_eq_getElem hlt, hv]
    simp only [Option.bind_some, hg, h2]
    rfl

theorem St.ok.slot (hok : σ.ok C X a w) {d : Nat} {s : Slot} (hd : σ.t.at d = some s) : d < a.tmps.size ∧ ∃ K A, SlotR w K A σ.h s (a.tmps.getD d undef) := by
  obtain ⟨K, A, H, E1, S, hde⟩ := hok
  refine ⟨?_, K, A, S.at_ d s hd⟩
  rw [← S.len]
  exact (Tms.at_some.1 hd).1

theorem St.ok.skip (hok : σ.ok C X a w) (d : Option Tmp) : St.ok C X { t := putSlot σ.t d holeS, h := σ.h } (a.put d undef) w := by
  obtain ⟨K, A, H, E1, S, hde⟩ := hok
  exact ⟨K, A, H, E1, S.put (s := holeS) rfl, by rw [put_defers]; exact hde⟩

theorem step_R (B : BaseY F P C X) {ops : Array Oper} {o : Oper} {next : Act → World → Prop} (hs : (step C.E ops.toList o σ).val = some σ') (hok : σ.ok C X a w)
    (hk : ∀ a' w', σ'.ok C X a' w' → next a' w') :
    if Region.wanted o (yielded ops a.tmps) then o.wpIn F n P a w next Q else (∀ f, o.about P w a.eval = some f → F.fn f) ∧ next (a.put o.dst undef) w := by
  unfold step at hs
  cases hg : o.guard with
  | none =>
    have : Region.wanted o (yielded ops a.tmps) = true := by unfold Region.wanted; rw [hg]
    rw [if_pos this]
    simp only [hg] at hs
    exact step1_R B hs hok hk
  | some p =>
    obtain ⟨j, want⟩ := p
    simp only [hg] at hs
    cases hgs : guardSlot ops.toList j with
    | none => simp only [hgs] at hs; cases hs
    | some d =>
      simp only [hgs] at hs
      have main : ∀ (b : Bool) (σ1 : St), σ1.ok C X a w → d < a.tmps.size → a.tmps.getD d undef = .bool b → (bif bxor b want then skipped o σ1 else step1 C.E o σ1).val = some σ' →
          if Region.wanted o (yielded ops a.tmps) then o.wpIn F n P a w next Q else (∀ f, o.about P w a.eval = some f → F.fn f) ∧ next (a.put o.dst undef) w := by
        intro b σ1 hok1 hlt hv hs1
        have hy := yielded_of hgs hlt hv
        have hw : Region.wanted o (yielded ops a.tmps) = Bool.not (bxor b want) := by
          unfold Region.wanted
          simp only [hg, hy]
          cases b <;> cases want <;> rfl
        rw [hw]
        cases hbx : bxor b want with
        | true =>
          rw [hbx] at hs1
          simp only [cond_true, skipped, nextSt_eq, Tr.val, Option.some.injEq] at hs1
          subst hs1
          exact ⟨fun f _ => B.op.fn f, hk _ _ (hok1.skip o.dst)⟩
        | false =>
          rw [hbx] at hs1
          exact step1_R B hs1 hok1 hk
      split at hs
      · rename_i b hb
        obtain ⟨hlt, K, A, hS⟩ := hok.slot hb
        exact main b σ hok hlt hS hs
      · rename_i hb
        obtain ⟨hlt, K, A, hS⟩ := hok.slot hb
        have hy := yielded_hole hgs hlt hS
        have hw : Region.wanted o (yielded ops a.tmps) = false := by
          unfold Region.wanted
          simp only [hg, hy]
          cases want <;> rfl
        rw [hw]
        simp only [skipped, nextSt_eq, Tr.val, Option.some.injEq] at hs
        subst hs
        exact ⟨fun f _ => B.op.fn f, hk _ _ (hok.skip o.dst)⟩
      · rename_i b hb
        obtain ⟨hlt, K, A, hS⟩ := hok.slot hb
        have hS := bool_R (w := w) (K := K) (A := A) (h := σ.h) hS
        have hok1 := hok.know hb
        simp only [Tr.val, nextSt_eq] at hs
        cases b with
        | true =>
          refine main true _ hok1 hlt hS ?_
          cases want <;> exact hs
        | false =>
          refine main false _ hok1 hlt hS ?_
          cases want <;> exact hs
      · cases hs

theorem steps_R (B : BaseY F P C X) {ops : Array Oper} : ∀ {l : List Oper} {σ σ' : St} {a : Act} {w : World}, (steps C.E ops.toList l σ).val = some σ' → σ.ok C X a w →
    (∀ a' w', σ'.ok C X a' w' → Q .normal a' w') → wpListIn F n P ops Q l a w
  | [], σ, σ', a, w, hs, hok, hk => by
    cases hs
    exact hk a w hok
  | o :: l, σ, σ', a, w, hs, hok, hk => by
    simp only [steps, val_bind, Option.bind_eq_some_iff] at hs
    obtain ⟨σ1, h1, h2⟩ := hs
    exact step_R B h1 hok fun a' w' hok' => steps_R B h2 hok' hk
end
end Go.Ev
