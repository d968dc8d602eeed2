/- Contracts over plain data. -/
import Derived.Test.YtmnbcnhpklejcaaDoorZEvTab
set_option linter.unusedVariables false
namespace Go.Ev
open Go.RowKit

@[reducible] def tup : List Kd → Type
  | [] => Unit
  | k :: ks => k.T × tup ks

def packAll : (ks : List Kd) → List AV → Option (tup ks)
  | [], [] => some ()
  | k :: ks, v :: vs => match packAV [] k v with
    | some (x, _) => match packAll ks vs with
      | some xs => some (x, xs)
      | none => none
    | none => none
  | _, _ => none

def toAVs : (ks : List Kd) → tup ks → List AV
  | [], _ => []
  | k :: ks, x => toAV k x.1 :: toAVs ks x.2

def datas : List Kd → List PM
  | [] => []
  | k :: ks => .data k :: datas ks

/-- A contract over plain data. -/
def dspec (ks : List Kd) (f : tup ks → SRes) : FSpec :=
  { ps := datas ks, g := fun as bs => match bs with
    | [] => match packAll ks as with
      | some x => some (f x)
      | none => none
    | _ => none }

def fnOf : List (Nat × FSpec) → FuncId → Option FSpec
  | [], _ => none
  | p :: l, f => bif Nat.beq f p.1 then some p.2 else fnOf l f

/-- The contracts so far. -/
def Env.withFns (E : Env) (l : List (Nat × FSpec)) : Env := { tt := E.tt, fn := fnOf l, glob := E.glob, live := E.live, fuel := E.fuel, lent := E.lent, it := E.it }
def Env.loops (E : Env) (live : Nat → Lv) (ls : Nat → VS → Option (Tr (Ex × VS))) : Env := { tt := E.tt, fn := E.fn, glob := E.glob, live := live, fuel := 0, lent := E.lent, it := E.it, ls := ls }

/-- Iterators: their code is walked where they are ranged over. -/
def itOf : List (Nat × Func) → FuncId → Option Func
  | [], _ => none
  | p :: l, f => bif Nat.beq f p.1 then some p.2 else itOf l f
def Env.withIts (E : Env) (l : List (Nat × Func)) : Env := { tt := E.tt, fn := E.fn, glob := E.glob, live := E.live, fuel := E.fuel, lent := E.lent, it := itOf l }

theorem itOK_of {P : Program} {E : Env} : ∀ {l : List (Nat × Func)}, E.it = itOf l → (∀ p ∈ l, P.funcs[p.1]? = some p.2 ∧ (p.2.name == "runtime.NumGoroutine") = false) → ItOK P E := by
  intro l he hl g fn hg
  rw [he] at hg
  clear he
  induction l with
  | nil => cases hg
  | cons p l ih =>
    simp only [itOf] at hg
    cases e : Nat.beq g p.1 with
    | true =>
      rw [e] at hg
      cases hg
      rw [Nat.eq_of_beq_eq_true e]
      exact hl p (by simp)
    | false =>
      rw [e] at hg
      exact ih (fun q hq => hl q (by simp [hq])) hg

section
variable {P : Program} {E E' : Env} {f : FuncId} {sp : FSpec}

theorem HR.env {w0 w : World} {K0 K : KSet} {A0 A : Asg} {h0 h : Heap} (hg : E.glob = E'.glob) (H : HR (Ctx.call E w0 K0 A0 h0) w K A h) : HR (Ctx.call E' w0 K0 A0 h0) w K A h :=
  ⟨H.blk, H.inj, H.own, H.kset, H.k0, fun g p hp => H.glob g p (by show E.glob g = some p; rw [hg]; exact hp), H.os, H.tape, H.output, H.size, H.frame⟩

theorem SpecOK.env (hg : E.glob = E'.glob) (h : SpecOK P E f sp) : SpecOK P E' f sp := fun F O args bs r hr hc w K A vs H hv =>
  (h F O args bs r hr hc w K A vs (H.env hg.symm) hv).mono fun v w' ⟨K', A', a, b⟩ => ⟨K', A', a.env hg, b⟩

inductive AllFn (P : Program) (E : Env) : List (Nat × FSpec) → Prop
  | nil : AllFn P E []
  | cons {n : Nat} {sp : FSpec} {l : List (Nat × FSpec)} : SpecOK P E n sp → AllFn P E l → AllFn P E ((n, sp) :: l)

theorem fns_of : ∀ {l : List (Nat × FSpec)}, AllFn P E l → ∀ f sp, fnOf l f = some sp → SpecOK P E f sp
  | _, .nil => fun f sp h => by cases h
  | _, .cons (n := n) (sp := sp0) (l := l) h0 H => fun t ty h => by
    simp only [fnOf] at h
    cases e : Nat.beq t n with
    | true =>
      rw [e] at h
      cases h
      rw [Nat.eq_of_beq_eq_true e]
      exact h0
    | false =>
      rw [e] at h
      exact fns_of H t ty h

theorem packAll_R {w : World} {K : KSet} {A : Asg} {C : Ctx} (H : HR C w K A []) : ∀ {ks : List Kd} {args : List AV} {x : tup ks} {vs : List Value}, packAll ks args = some x → All2 (AVR w K A []) args vs → All2 (AVR w K A []) (toAVs ks x) vs
  | [], [], x, vs, hp, hv => by cases hv; exact .nil
  | k :: ks, v :: as, x, vs, hp, hv => by
    simp only [packAll] at hp
    split at hp
    · rename_i y fz hq
      split at hp
      · rename_i ys hqs
        cases hp
        cases hv with
        | cons h0 hv =>
          obtain ⟨a, b, c⟩ := packAV_R (fun b hb => hb) H h0 hq (fun id _ e k xs hg => by cases hg)
          exact .cons (toAV_R a b c) (packAll_R H hqs hv)
      · cases hp
    · cases hp
  | [], _ :: _, _, _, hp, _ => by simp [packAll] at hp
  | _ :: _, [], _, _, hp, _ => by simp [packAll] at hp

/-- A contract over plain data, out of what the evaluator finds. -/
theorem dspec_ok {E0 : Env} {fns : List (Nat × FSpec)} (T : TabOK P E.tt) (FO : AllFn P E0 fns) (hfn : E.fn = fnOf fns) (hg : E0.glob = E.glob) (hm : P.follows .mixedOrders = true) {fn : Func} (hf : P.funcs[f]? = some fn) (hname : (fn.name == "runtime.NumGoroutine") = false)
    {ks : List Kd} {g : tup ks → SRes} (rm : List PM)
    (h : ∀ x, (g x).c ≠ some false → (evFn E fn rm (toAVs ks x) []).val = some ⟨(g x).rs, (g x).upd, (g x).new⟩) (IO : ItOK P E := by exact itOK_none rfl) (L : ∀ c, fn.body = some c → LsOK (evI 2) (E.lend 0) c := by exact fun c _ => LsOK_none rfl c) : SpecOK P E0 f (dspec ks g) := by
  have FO' : FnsOK P E := fun t sp hsp => (fns_of FO t sp (by rw [← hfn]; exact hsp)).env hg
  refine SpecOK.env hg.symm ?_
  intro F O args bs r hr hc w K A vs H hv
  unfold dspec at hr
  simp only [] at hr
  split at hr
  · split at hr
    · rename_i x hx
      cases hr
      have hv' := packAll_R H hx hv
      exact evFn_R T FO' IO L hm hf hname (h x hc) rfl rfl rfl F O hc w K A vs H hv'
    · cases hr
  · cases hr
end
end Go.Ev
