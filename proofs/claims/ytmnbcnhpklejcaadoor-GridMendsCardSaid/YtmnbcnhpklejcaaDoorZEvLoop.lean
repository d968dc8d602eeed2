/- Loops, told ahead: what a round does, by data; then by induction. -/
import Derived.Test.YtmnbcnhpklejcaaDoorZEvRead
set_option linter.unusedVariables false
namespace Go.Ev
open Go.RowKit

def Tr.map {α β : Type} (f : α → β) : Tr α → Tr β
  | .ret a => .ret (f a)
  | .ite c t e => .ite c (t.map f) (e.map f)
  | .fail => .fail

theorem Tr.map_val {α β : Type} (f : α → β) (t : Tr α) : (t.map f).val = t.val.map f := by
  induction t with
  | ret a => rfl
  | ite c t e ih1 ih2 => simp only [Tr.map, Tr.val]; cases c <;> simp [ih1, ih2]
  | fail => rfl

def decL (m : Nat) (live out : Lv) (r : Ex × St) : VS ⊕ (Ex × VS) :=
  match r.1 with
  | .nrm => canonV m live r.2 fun x => .inl x
  | e => canonV m out r.2 fun x => .inr (e, x)

/-- The loop goes on; it is left. -/
abbrev goL (x : VS) : VS ⊕ (Ex × VS) := .inl x
abbrev outL (e : Ex) (x : VS) : VS ⊕ (Ex × VS) := .inr (e, x)

def encL {α : Type} (V : α → VS) : α ⊕ (Ex × VS) → VS ⊕ (Ex × VS)
  | .inl x => .inl (V x)
  | .inr r => .inr r

def runB {α : Type} (B : α → Tr (α ⊕ (Ex × VS))) : Nat → α → Option (Ex × VS)
  | 0, _ => none
  | n + 1, x => match (B x).val with
    | some (.inl y) => runB B n y
    | some (.inr r) => some r
    | none => none

theorem loop_run {α : Type} {f : St → Tr (Ex × St)} {m : Nat} {live out : Lv} {V : α → VS} {B : α → Tr (α ⊕ (Ex × VS))} (hB : ∀ x, (f (unV live (V x))).map (decL m live out) = (B x).map (encL V)) :
    ∀ (n : Nat) {x : α} {σ : St} {r : Ex × VS}, canV m live σ = V x → runB B n x = some r → ∃ r', (loopN f m live n σ).val = some r' ∧ r = (r'.1, canV m out r'.2)
  | 0, x, σ, r, hσ, hr => by cases hr
  | n + 1, x, σ, r, hσ, hr => by
    simp only [runB] at hr
    have hv := congrArg Tr.val (hB x)
    rw [Tr.map_val, Tr.map_val] at hv
    simp only [loopN, canonV_eq, hσ, val_bind]
    cases hb : (B x).val with
    | none => rw [hb] at hr; cases hr
    | some b =>
      rw [hb] at hr hv
      simp only [Option.map_some] at hv
      obtain ⟨r1, h1, h2⟩ := Option.map_eq_some_iff.1 hv
      rw [h1]
      simp only [Option.bind_some]
      obtain ⟨e, σ1⟩ := r1
      cases b with
      | inl y =>
        cases e with
        | nrm =>
          have h2 : canV m live σ1 = V y := by simpa [decL, encL, canonV_eq] using h2
          exact loop_run hB n h2 hr
        | ret => simp [decL, encL, canonV_eq] at h2
        | exit i => simp [decL, encL, canonV_eq] at h2
      | inr q =>
        cases hr
        cases e with
        | nrm => simp [decL, encL, canonV_eq] at h2
        | ret => exact ⟨_, rfl, by simpa [decL, encL, canonV_eq] using h2.symm⟩
        | exit i => exact ⟨_, rfl, by simpa [decL, encL, canonV_eq] using h2.symm⟩

/-- The same, where only such data come as keep a word. -/
def runS {α : Type} (step : α → α ⊕ (Ex × VS)) : Nat → α → Option (Ex × VS)
  | 0, _ => none
  | n + 1, x => match step x with
    | .inl y => runS step n y
    | .inr r => some r

theorem loop_runS {α : Type} {f : St → Tr (Ex × St)} {m : Nat} {live out : Lv} {V : α → VS} {Inv : α → Prop} {step : α → α ⊕ (Ex × VS)} (hB : ∀ x, Inv x → ((f (unV live (V x))).map (decL m live out)).val = some (encL V (step x)))
    (hI : ∀ x y, Inv x → step x = .inl y → Inv y) :
    ∀ (n : Nat) {x : α} {σ : St} {r : Ex × VS}, Inv x → canV m live σ = V x → runS step n x = some r → ∃ r', (loopN f m live n σ).val = some r' ∧ r = (r'.1, canV m out r'.2)
  | 0, x, σ, r, hx, hσ, hr => by cases hr
  | n + 1, x, σ, r, hx, hσ, hr => by
    simp only [runS] at hr
    have hv := hB x hx
    rw [Tr.map_val] at hv
    simp only [loopN, canonV_eq, hσ, val_bind]
    obtain ⟨r1, h1, h2⟩ := Option.map_eq_some_iff.1 hv
    rw [h1]
    simp only [Option.bind_some]
    obtain ⟨e, σ1⟩ := r1
    cases hb : step x with
    | inl y =>
      rw [hb] at hr h2
      cases e with
      | nrm =>
        have h2 : canV m live σ1 = V y := by simpa [decL, encL, canonV_eq] using h2
        exact loop_runS hB hI n (hI x y hx hb) h2 hr
      | ret => simp [decL, encL, canonV_eq] at h2
      | exit i => simp [decL, encL, canonV_eq] at h2
    | inr q =>
      rw [hb] at hr h2
      cases hr
      cases e with
      | nrm => simp [decL, encL, canonV_eq] at h2
      | ret => exact ⟨_, rfl, by simpa [decL, encL, canonV_eq] using h2.symm⟩
      | exit i => exact ⟨_, rfl, by simpa [decL, encL, canonV_eq] using h2.symm⟩

/-! ### The loops and ranges of a body -/
structure RG where
  f : Operand
  ps : Array Tmp
  asg : Code
  body : Code

def bodyOf (fn : Func) : Code := fn.body.getD .skip

def loopsOf : Code → List Code
  | .loop c => c :: loopsOf c
  | .seq a b => app (loopsOf a) (loopsOf b)
  | .cond _ a b => app (loopsOf a) (loopsOf b)
  | .block _ c => loopsOf c
  | _ => []

def rangesOf : Code → List RG
  | .rangeFunc f ps asg body => [{ f := f, ps := ps, asg := asg, body := body }]
  | .loop c => rangesOf c
  | .seq a b => app (rangesOf a) (rangesOf b)
  | .cond _ a b => app (rangesOf a) (rangesOf b)
  | .block _ c => rangesOf c
  | _ => []

def AllC {α : Type} (p : α → Prop) : List α → Prop
  | [] => True
  | [x] => p x
  | x :: l => p x ∧ AllC p l

theorem AllC.cons_iff {α : Type} {p : α → Prop} {x : α} {l : List α} : AllC p (x :: l) ↔ p x ∧ AllC p l := by
  cases l with
  | nil => simp [AllC]
  | cons y l => rfl

theorem AllC.app_iff {α : Type} {p : α → Prop} {m : List α} : ∀ {l : List α}, AllC p (app l m) ↔ AllC p l ∧ AllC p m
  | [] => by simp [app, AllC]
  | x :: l => by simp only [app, AllC.cons_iff, AllC.app_iff (l := l), and_assoc]

def LoopOK (inner : Env → Code → St → Tr (Ex × St)) (E : Env) (c : Code) : Prop :=
  ∀ x tr r, E.ls (loopKey c) x = some tr → tr.val = some r → ∃ k r', (loopN (evC inner c E) E.lent (E.live (loopKey c)) k (unV (E.live (loopKey c)) x)).val = some r' ∧
      r = (r'.1, canV E.lent (E.live (Nat.add 1000 (loopKey c))) r'.2)

def RangeOK (inner : Env → Code → St → Tr (Ex × St)) (E : Env) (g : RG) : Prop :=
  ∀ x tr r, E.ls (Nat.add 500 (loopKey g.body)) x = some tr → tr.val = some r → ∃ k r', (ranges inner (E.fueled k) { ps := g.ps.toList, asg := g.asg, body := g.body } g.f (unV (E.live (Nat.add 500 (loopKey g.body))) x)).val = some r' ∧
      r = (r'.1, canV E.lent (E.live (Nat.add 1500 (loopKey g.body))) r'.2)

theorem LsOK_of {inner : Env → Code → St → Tr (Ex × St)} {E : Env} {c : Code} (h1 : AllC (LoopOK inner E) (loopsOf c)) (h2 : AllC (RangeOK inner E) (rangesOf c)) : LsOK inner E c := by
  induction c with
  | loop c ih =>
    simp only [loopsOf, AllC.cons_iff] at h1
    exact ⟨h1.1, ih h1.2 h2⟩
  | rangeFunc f ps asg body _ _ => exact h2
  | seq a b iha ihb =>
    simp only [loopsOf, rangesOf, AllC.app_iff] at h1 h2
    exact ⟨iha h1.1 h2.1, ihb h1.2 h2.2⟩
  | cond _ a b iha ihb =>
    simp only [loopsOf, rangesOf, AllC.app_iff] at h1 h2
    exact ⟨iha h1.1 h2.1, ihb h1.2 h2.2⟩
  | block _ c ih => exact ih h1 h2
  | _ => trivial

theorem ls_ok {fn : Func} {E : Env} {m : Nat} {lcs : List Code} {rgs : List RG} (h1 : loopsOf (bodyOf fn) = lcs) (h2 : rangesOf (bodyOf fn) = rgs) (hl : AllC (LoopOK (evI 2) (E.lend m)) lcs) (hr : AllC (RangeOK (evI 2) (E.lend m)) rgs) :
    ∀ c, fn.body = some c → LsOK (evI 2) (E.lend m) c := fun c hc => by
  have e : bodyOf fn = c := by unfold bodyOf; rw [hc]; rfl
  rw [e] at h1 h2
  exact LsOK_of (h1 ▸ hl) (h2 ▸ hr)

/-- The i-th loop, the i-th range of a function. -/
def lc (fn : Func) (i : Nat) : Code := (nth (loopsOf (bodyOf fn)) i).getD .skip
def rg (fn : Func) (i : Nat) : RG := (nth (rangesOf (bodyOf fn)) i).getD { f := .func 0, ps := #[], asg := .skip, body := .skip }

theorem loopT_none {f : St → Tr (Ex × St)} {m : Nat} {live out : Lv} : ∀ (n : Nat) (σ : St), (loopT f (fun _ => none) m live out n σ).val = (loopN f m live n σ).val
  | 0, σ => by simp only [loopT, loopN, canonV_eq]
  | n + 1, σ => by
    simp only [loopT, loopN, canonV_eq, val_bind]
    congr 1
    funext r
    cases r.1 with
    | nrm => exact loopT_none n r.2
    | ret => rfl
    | exit i => rfl

/-- An iterator whose code is a piece, then a loop. -/
theorem iter_val {k0 : Nat} {Ei : Env} {A L : Code} {b : Nat} {α : Type} {V : α → VS} {B : α → Tr (α ⊕ (Ex × VS))} {lv : Lv} (hls : Ei.ls = fun _ _ => none) (hlive : Ei.live (loopKey L) = lv)
    (hB : ∀ x, (evC (evI k0) L Ei (unV lv (V x))).map (decL Ei.lent lv { ls := [] }) = (B x).map (encL V)) {σ0 : St} {x0 : α} (hA : ((evC (evI k0) A Ei σ0).map (decL Ei.lent lv { ls := [] })).val = some (.inl (V x0)))
    {n : Nat} (hfuel : Ei.fuel = n) {e : Ex} {y : VS} (hr : runB B n x0 = some (e, y)) (he : e = .exit b ∨ e = .ret) :
    ∃ r', (evI (k0 + 1) Ei (.seq A (.block b (.loop L))) σ0).val = some r' ∧ (r'.1 = .nrm ∨ r'.1 = .ret) ∧ canV Ei.lent { ls := [] } r'.2 = y := by
  rw [Tr.map_val] at hA
  obtain ⟨r1, h1, h2⟩ := Option.map_eq_some_iff.1 hA
  obtain ⟨e1, σ1⟩ := r1
  cases e1 with
  | ret => simp [decL, canonV_eq] at h2
  | exit i => simp [decL, canonV_eq] at h2
  | nrm =>
  have h2 : canV Ei.lent lv σ1 = V x0 := by simpa [decL, canonV_eq] using h2
  obtain ⟨r', h3, h4⟩ := loop_run hB n h2 hr
  have h5 : (evC (evI k0) (.loop L) Ei σ1).val = some r' := by
    simp only [evC, hls, hlive, hfuel]
    rw [loopT_none]
    exact h3
  obtain ⟨e', σ'⟩ := r'
  cases h4
  obtain ⟨Lc, hLc⟩ : ∃ Lc, Code.loop L = Lc := ⟨_, rfl⟩
  rw [hLc] at h5 ⊢
  rcases he with he | he
  · have he : e' = .exit b := he
    subst he
    refine ⟨(.nrm, σ'), ?_, .inl rfl, rfl⟩
    show (evC (evI k0) _ Ei σ0).val = _
    simp only [evC, val_bind, h1, Option.bind_some]
    rw [h5]
    simp [Tr.val]
  · have he : e' = .ret := he
    subst he
    refine ⟨(.ret, σ'), ?_, .inr rfl, rfl⟩
    show (evC (evI k0) _ Ei σ0).val = _
    simp only [evC, val_bind, h1, Option.bind_some]
    rw [h5]
    simp [Tr.val]

/-- A range's word, out of its iterator's run. -/
theorem range_val {k0 : Nat} {E : Env} {rl : RL} {f : Operand} {σ : St} {g : FuncId} {caps : List Nat} {fn : Func} {c : Code} {m : Nat} (hf : opLeaf E σ f = some (.fn g caps)) (hit : E.it g = some fn) (hb : fn.body = some c) (hm : len σ.h = m)
    (hck : (contig 0 σ.h && (Nat.ble (Nat.succ (len caps)) fn.ntmps && Nat.beq (len fn.results.toList) 0)) = true) {r' : Ex × St} {y : VS}
    (hi : (evI k0 (E.inner (Nat.succ m) (yldR (evI k0 E.round) σ.t m)) c { t := { n := fn.ntmps, m := argsT 0 (.one (.yld m) :: caps.map fun id => AV.one (.ptr id 0)) (Tm.full 10) }, h := σ.h.set m (.lrec false none rl) }).val = some r')
    (h1 : r'.1 = .nrm ∨ r'.1 = .ret) (h2 : canV (Nat.succ m) { ls := [] } r'.2 = y) {pe : Option Code} {rl' : RL} (hg : y.h.get m = some (.lrec false pe rl')) {e : Ex} (hj : jumpOf pe = some e) :
    (ranges (evI k0) E rl f σ).val = some (e, { t := σ.t, h := y.h.set m .dead }) := by
  subst hm
  unfold ranges
  simp only [hf, hit, hb, hck, cond_true, val_bind, hi, Option.bind_some, canonV_eq, h2]
  rcases h1 with h1 | h1 <;> simp only [h1, hg, hj, Tr.val]

theorem at_key {α : Type} {k N m : Nat} {o : Option α} {tr : α} (h : (bif Nat.beq k k && Nat.beq N m then o else none) = some tr) : o = some tr ∧ N = m := by
  rw [Nat.beq_refl, Bool.true_and] at h
  cases e : Nat.beq N m with
  | false => rw [e] at h; cases h
  | true => rw [e] at h; exact ⟨h, Nat.eq_of_beq_eq_true e⟩

theorem loopOK_S {inner : Env → Code → St → Tr (Ex × St)} {E : Env} {c : Code} (key : Nat) (live out : Lv) {α : Type} (V : α → VS) (Inv : α → Prop) (step : α → α ⊕ (Ex × VS)) (hk : loopKey c = key) (hlive : E.live key = live) (hout : E.live (Nat.add 1000 key) = out)
    (hB : ∀ x, Inv x → ((evC inner c E (unV live (V x))).map (decL E.lent live out)).val = some (encL V (step x))) (hI : ∀ x y, Inv x → step x = .inl y → Inv y)
    (hS : ∀ y tr r, E.ls key y = some tr → tr.val = some r → ∃ x k, Inv x ∧ canV E.lent live (unV live y) = V x ∧ runS step k x = some r) : LoopOK inner E c := by
  intro y tr r h1 h2
  rw [hk] at h1 ⊢
  rw [hlive, hout]
  obtain ⟨x, k, hx, h3, h4⟩ := hS y tr r h1 h2
  obtain ⟨r', h5, h6⟩ := loop_runS hB hI k hx h3 h4
  exact ⟨k, r', h5, h6⟩

/-- A loop's word, out of a round by data. -/
theorem loopOK_of {inner : Env → Code → St → Tr (Ex × St)} {E : Env} {c : Code} (key : Nat) (live out : Lv) {α : Type} (V : α → VS) (B : α → Tr (α ⊕ (Ex × VS))) (hk : loopKey c = key) (hlive : E.live key = live) (hout : E.live (Nat.add 1000 key) = out)
    (hB : ∀ x, (evC inner c E (unV live (V x))).map (decL E.lent live out) = (B x).map (encL V))
    (hS : ∀ y tr r, E.ls key y = some tr → tr.val = some r → ∃ x k, canV E.lent live (unV live y) = V x ∧ runB B k x = some r) : LoopOK inner E c := by
  intro y tr r h1 h2
  rw [hk] at h1 ⊢
  rw [hlive, hout]
  obtain ⟨x, k, h3, h4⟩ := hS y tr r h1 h2
  obtain ⟨r', h5, h6⟩ := loop_run hB k h3 h4
  exact ⟨k, r', h5, h6⟩
end Go.Ev
namespace Go.Ev
def natsEq : List Nat → List Nat → Bool
  | [], [] => true
  | a :: l, b :: m => bif Nat.beq a b then natsEq l m else false
  | _, _ => false
theorem natsEq_iff : ∀ {l m : List Nat}, natsEq l m = true → l = m
  | [], [], _ => rfl
  | a :: l, b :: m, h => by
    simp only [natsEq] at h
    cases e : Nat.beq a b with
    | false => rw [e] at h; cases h
    | true => rw [e] at h; rw [Nat.eq_of_beq_eq_true e, natsEq_iff h]
  | [], _ :: _, h => by cases h
  | _ :: _, [], h => by cases h
end Go.Ev
