/- A function's contract, out of what the evaluator finds. -/
import Derived.Test.YtmnbcnhpklejcaaDoorZEvCode
import Derived.Conc.MuLone
set_option linter.unusedVariables false
namespace Go.Ev
open Go.RowKit

section
variable {P : Program} {F : Fence} {n : Nat} {C : Ctx} {X : Start} {w : World} {K : KSet} {A : Asg} {h : Heap}

theorem HR.lend {E : Env} {w0 : World} {K0 : KSet} {A0 : Asg} {h0 : Heap} {m : Nat} : HR (Ctx.call E w0 K0 A0 h0) w K A h ↔ HR (Ctx.call (E.lend m) w0 K0 A0 h0) w K A h :=
  ⟨fun H => ⟨H.blk, H.inj, H.own, H.kset, H.k0, H.glob, H.os, H.tape, H.output, H.size, H.frame⟩, fun H => ⟨H.blk, H.inj, H.own, H.kset, H.k0, H.glob, H.os, H.tape, H.output, H.size, H.frame⟩⟩

def resVal (tmps : Array Value) : ResultVar → Sem Value
  | .tmp t => pure (tmps.getD t undef)
  | .cell a t => do loadVar t (← asAddr (tmps.getD a undef))

theorem mapM_run {α β : Type} (f : α → Sem β) (w : World) (g : α → β → Prop) : ∀ {l : List α} {m : List β}, All2 (fun a b => (f a).run P w = .ok b w) l m → (l.mapM f).run P w = .ok m w
  | _, _, .nil => rfl
  | _, _, .cons h H => by
    rw [List.mapM_cons, Sem.run_bind, h]
    show (do let bs ← List.mapM f _; pure (_ :: bs)).run P w = _
    rw [Sem.run_bind, mapM_run f w g H]
    rfl

theorem resVals_R (T : TabOK P C.E.tt) {σ : St} {a : Act} (H : HR C w K A σ.h) (S : SlotsR w K A σ.h σ.t a) : ∀ {rs : List ResultVar} {vs : List AV}, resVals C.E σ rs = some vs →
    ∃ us : List Value, All2 (fun r u => (resVal a.tmps r).run P w = .ok u w) rs us ∧ All2 (AVR w K A σ.h) vs us
  | [], vs, hr => by
    simp only [resVals, Option.some.injEq] at hr
    subst hr
    exact ⟨[], .nil, .nil⟩
  | .tmp t :: rs, vs, hr => by
    simp only [resVals] at hr
    split at hr
    · rename_i v hv
      split at hr
      · rename_i vs' hq
        cases hr
        obtain ⟨us, h1, h2⟩ := resVals_R T H S hq
        exact ⟨_ :: us, .cons rfl h1, .cons (S.at_ t _ hv) h2⟩
      · cases hr
    · cases hr
  | .cell t ty :: rs, vs, hr => by
    simp only [resVals] at hr
    split at hr
    · rename_i id off hv
      split at hr
      · rename_i tyi hty
        split at hr
        · rename_i v hl
          split at hr
          · rename_i vs' hq
            cases hr
            obtain ⟨us, h1, h2⟩ := resVals_R T H S hq
            have hp := S.at_ t _ hv
            have hp' : LeafR w K A σ.h (.ptr id off) (a.tmps.getD t undef) := hp
            obtain ⟨u, hu, hR⟩ := loadR_R H (T ty tyi hty) hp' hl
            have hpv := hp'.2
            refine ⟨u :: us, .cons ?_ h1, .cons hR h2⟩
            simp only [resVal]
            rw [hpv] at hu ⊢
            exact hu
          · cases hr
        · cases hr
      · cases hr
    · cases hr

theorem results_run (T : TabOK P C.E.tt) {σ : St} {a : Act} (H : HR C w K A σ.h) (S : SlotsR w K A σ.h σ.t a) {fn : Func} {vs : List AV} (hr : resVals C.E σ fn.results.toList = some vs) :
    ∃ us : List Value, (results fn a.tmps).run P w = .ok (match us with | [u] => u | us => .tuple us.toArray) w ∧ All2 (AVR w K A σ.h) vs us := by
  obtain ⟨us, h1, h2⟩ := resVals_R T H S hr
  refine ⟨us, ?_, h2⟩
  have hm := mapM_run (resVal a.tmps) w (fun _ _ => True) h1
  have he : (fn.results.mapM (resVal a.tmps)).run P w = .ok us.toArray w := by
    have e : (fn.results.mapM (resVal a.tmps)) = (do let l ← fn.results.toList.mapM (resVal a.tmps); pure l.toArray) := by
      conv => lhs; rw [← Array.toArray_toList (xs := fn.results), List.mapM_toArray]
      rfl
    rw [e, Sem.run_bind, hm]
    rfl
  have hf : results fn a.tmps = (do let vs ← fn.results.mapM (resVal a.tmps); pure (if h : vs.size = 1 then vs[0] else .tuple vs)) := by
    unfold results
    congr 2
  rw [hf, Sem.run_bind, he]
  show Result.ok (if h : us.toArray.size = 1 then us.toArray[0] else Value.tuple us.toArray) w = _
  cases us with
  | nil => rfl
  | cons u us =>
    cases us with
    | nil => rfl
    | cons u' us => simp

theorem Does.lend {E : Env} {f : FuncId} {args : List AV} {bs : List Blk} {r : SRes} {m : Nat} (h : Does F P E f args bs r) : Does F P (E.lend m) f args bs r := fun hc w K A vs H hv =>
  (h hc w K A vs (HR.lend.2 H) hv).mono fun v w' ⟨K', A', a, b⟩ => ⟨K', A', HR.lend.1 a, b⟩

theorem itOK_none {E : Env} (h : E.it = fun _ => none) : ItOK P E := fun g fn e => by rw [h] at e; cases e

theorem FnsOK.lend {E : Env} (FO : FnsOK P E) (m : Nat) : FnsOK P (E.lend m) := fun f sp hsp F O args bs r hg => (FO f sp hsp F O args bs r hg).lend

theorem all2_get {α β : Type} {R : α → β → Prop} {l : List α} {m : List β} (H : All2 R l m) {i : Nat} {x : α} (hx : l[i]? = some x) : ∃ y, m[i]? = some y ∧ R x y := H.nth hx

theorem resVals_lend {E : Env} {m : Nat} {σ : St} : ∀ (rs : List ResultVar), resVals (E.lend m) σ rs = resVals E σ rs
  | [] => rfl
  | .tmp t :: rs => by simp only [resVals, resVals_lend rs]
  | .cell t ty :: rs => by simp only [resVals, resVals_lend rs]; rfl

/-- **A FUNCTION's CONTRACT.** -/
theorem evFn_R {E : Env} (T : TabOK P E.tt) (FO : FnsOK P E) (IO : ItOK P E) {fn : Func} {bs : List Blk} (L : ∀ c, fn.body = some c → LsOK (evI 2) (E.lend (len bs)) c) (hm : P.follows .mixedOrders = true) {f : FuncId} (hf : P.funcs[f]? = some fn) (hname : (fn.name == "runtime.NumGoroutine") = false)
    {rm : List PM} {args : List AV} {fr : FRes} (hv : (evFn E fn rm args bs).val = some fr) {r : SRes} (h1 : r.rs = fr.rs) (h2 : r.upd = fr.upd) (h3 : r.new = fr.new) (F : Fence) (O : Open F) : Does F P E f args bs r := by
  intro _ w K A vs H hargs
  unfold evFn at hv
  split at hv
  · rename_i c hb
    cases hle : Nat.ble (len args) fn.ntmps with
    | false => rw [hle] at hv; cases hv
    | true =>
      rw [hle] at hv
      simp only [cond_true, val_bind, Option.bind_eq_some_iff] at hv
      obtain ⟨⟨ex, σ'⟩, hev, hfin⟩ := hv
      have hle : args.length ≤ fn.ntmps := by have := Nat.le_of_ble_eq_true hle; rwa [len_eq] at this
      have hvs : vs.length = args.length := hargs.len.symm
      refine .inr ⟨MuLone.run_callFunc_enter hf hname hb _ _, ?_⟩
      have Op : Open F.plain := ⟨O.fn, O.depth⟩
      have B : BaseY F.plain P (Ctx.call (E.lend (len bs)) w K A (zipN 0 bs)) ⟨K, A, zipN 0 bs, w⟩ := { op := Op, tab := T, fns := FO.lend _, it := IO, yl := fun id vs h b h' hy => (by cases hy) }
      refine (show CallsIn F.plain 0 P f vs.toArray w _ → CallsIn F 0 P f vs.toArray w _ from fun h => h) ?_
      have H0 := HR.lend (m := len bs).1 H
      obtain ⟨σ1, w1, _, o1⟩ := wids_spec (E.live 7777).wd σ'
      have hfin' : ∃ hx : (toExit ex = .normal ∨ toExit ex = .ret), (finish E fn rm (len bs) σ1).val = some fr := by
        cases ex with
        | nrm => exact ⟨.inl rfl, (congrArg Tr.val (w1 (fun σ => finish E fn rm (len bs) σ))).symm.trans hfin⟩
        | ret => exact ⟨.inr rfl, (congrArg Tr.val (w1 (fun σ => finish E fn rm (len bs) σ))).symm.trans hfin⟩
        | exit i => cases hfin
      obtain ⟨hex, hfin⟩ := hfin'
      refine callsIn_of_wp_marks hf hb (O.fn f) ?_ rfl
      have hX : ∀ j, Ev.has (zipN 0 bs) j → j < (E.lend (len bs)).lent := fun j hj => by
        show j < len bs
        rw [len_eq]
        unfold Ev.has at hj
        rw [get_zip0] at hj
        cases hg : bs[j]? with
        | none => rw [hg] at hj; cases hj
        | some b => exact (List.getElem?_eq_some_iff.1 hg).1
      refine ev_R (C := Ctx.call (E.lend (len bs)) w K A (zipN 0 bs)) (X := ⟨K, A, zipN 0 bs, w⟩) B hm rfl hX c (L c hb) hev
        ⟨K, A, H0, Ext.refl _ _ _ _, slots_init hle hargs, DefR.nil _ _ _ _⟩ fun a' w' hok' => ?_
      · obtain ⟨K', A', H00, E00, S00, hd'⟩ := o1 hok'
        suffices key : LeavesInM F.plain 0 P fn a'.tmps (fun e w' => ∃ v, e = .returned v ∧ ∃ K' A', HR (Ctx.call E w K A (zipN 0 bs)) w' K' A' (zipN 0 (r.upd ++ r.new)) ∧
            Ext K A (zipN 0 bs) w K' A' (zipN 0 (r.upd ++ r.new)) w' ∧ SlotR w' K' A' (zipN 0 (r.upd ++ r.new)) r.rs v ∧ r.upd.length = bs.length) a'.defers .returning w' by
          rcases hex with e | e <;> rw [e] <;> exact key
        refine leaves_marks a'.defers H00 E00 S00 hd' fun w' H' E' S' => ?_
        unfold finish at hfin
        split at hfin
        · rename_i us hus
          split at hfin
          · rename_i ws fz hpa
            dsimp +zeta +zetaHave only at hfin
            split at hfin
            · rename_i bs' hbs'
              generalize hids0 : reach (σ1.h.sets (frozenUpd σ1.h fz)) 100 (flat AV.ids ws) (reach (σ1.h.sets (frozenUpd σ1.h fz)) 100 (upto (len bs) 0) []) = ids at *
              cases hck : ((nodupN ids && fixed ids (len bs)) && (freeAVs ws && (subN (flat AV.ids ws) ids && subN (flat Blk.ids bs') ids))) with
              | false => rw [hck] at hfin; cases hfin
              | true =>
                rw [hck] at hfin
                simp only [cond_true, Tr.val, Option.some.injEq] at hfin
                simp only [Bool.and_eq_true] at hck
                obtain ⟨⟨c1, c2⟩, c3, c4, c5⟩ := hck
                have hus' : resVals (Ctx.call (E.lend (len bs)) w K A (zipN 0 bs)).E σ1 fn.results.toList = some us := by
                  rw [← hus]
                  exact resVals_lend _
                obtain ⟨xs, hres, hxs⟩ := results_run (C := Ctx.call (E.lend (len bs)) w K A (zipN 0 bs)) (P := P) T H' S' hus'
                obtain ⟨K1, H1, X1, hf1⟩ := freezes fz H'
                have hw := packArgs_R H' _ X1 hpa hxs hf1
                obtain ⟨A0, H0', E0', R0⟩ := renumber hX hbs' (nodupN_iff.1 c1) (subN_iff.1 c5) (fixed_spec c2) H1 (E'.trans X1)
                have hrs := avs_ren R0 c3 (fun id hid => subN_iff.1 c4 id hid) hw
                have hupd : r.upd ++ r.new = bs'.map (Blk.ren (toPos ids)) := by
                  rw [h2, h3, ← hfin]
                  simp only [take_eq, drop_eq, List.take_append_drop]
                have hlen : bs.length ≤ bs'.length := by
                  rw [(blksAt_spec hbs').1]
                  cases hz : bs.length with
                  | zero => exact Nat.zero_le _
                  | succ m =>
                    obtain ⟨f1, f2⟩ := fixed_spec c2 m (by rw [len_eq]; omega)
                    have := pos_lt f1
                    rw [f2] at this
                    exact this
                have post : ∃ v, (results fn a'.tmps).run P w' = .ok v w' ∧ ∃ v', Ending.returned v = .returned v' ∧ ∃ K2 A2, HR (Ctx.call E w K A (zipN 0 bs)) w' K2 A2 (zipN 0 (r.upd ++ r.new)) ∧
                    Ext K A (zipN 0 bs) w K2 A2 (zipN 0 (r.upd ++ r.new)) w' ∧ SlotR w' K2 A2 (zipN 0 (r.upd ++ r.new)) r.rs v' ∧ r.upd.length = bs.length := by
                  refine ⟨_, hres, _, rfl, K1, A0, ?_, ?_, ?_, ?_⟩
                  · rw [hupd]; exact HR.lend.2 H0'
                  · rw [hupd]; exact E0'
                  · rw [hupd, h1, ← hfin]
                    cases hws : ws with
                    | nil =>
                      rw [hws] at hrs
                      cases hxs2 : xs with
                      | nil => exact ⟨[], rfl, .nil⟩
                      | cons x xs => rw [hxs2] at hrs; cases hrs
                    | cons u ws' =>
                      rw [hws] at hrs
                      cases ws' with
                      | nil =>
                        cases hxs2 : xs with
                        | nil => rw [hxs2] at hrs; cases hrs
                        | cons x xs' =>
                          rw [hxs2] at hrs
                          cases hrs with
                          | cons r0 rr =>
                            cases rr
                            exact r0
                      | cons u' ws' =>
                        cases hxs2 : xs with
                        | nil => rw [hxs2] at hrs; cases hrs
                        | cons x xs' =>
                          cases xs' with
                          | nil => rw [hxs2] at hrs; cases hrs with | cons _ rr => cases rr
                          | cons x' xs' =>
                            rw [hxs2] at hrs
                            exact ⟨_, rfl, hrs⟩
                  · rw [h2, ← hfin]
                    simp only [take_eq, List.length_take, List.length_map, len_eq]
                    omega
                exact post
            · cases hfin
          · cases hfin
        · cases hfin
  · cases hv
end
end Go.Ev
