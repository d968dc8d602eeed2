/- Loops and functions told by data: what a program's printed texts lean on. -/
import Derived.Test.YtmnbcnhpklejcaaDoorZEvPat
set_option linter.unusedVariables false
namespace Go.Ev
open Go.RowKit

def encR {α ρ : Type} (V : α → VS) (X : ρ → Ex × VS) : α ⊕ ρ → VS ⊕ (Ex × VS)
  | .inl x => .inl (V x)
  | .inr r => .inr (X r)

def goX {α ρ : Type} (X : ρ → Ex × VS) : α ⊕ ρ → α ⊕ (Ex × VS)
  | .inl y => .inl y
  | .inr r => .inr (X r)

/-- Rounds, to an end. -/
inductive Rounds {α ρ : Type} (B : α → Tr (α ⊕ ρ)) : α → ρ → Prop
  | step {x y : α} {r : ρ} : (B x).val = some (.inl y) → Rounds B y r → Rounds B x r
  | exit {x : α} {r : ρ} : (B x).val = some (.inr r) → Rounds B x r

theorem Tr.map_map {α β γ : Type} (f : α → β) (g : β → γ) : ∀ t : Tr α, (t.map f).map g = t.map fun x => g (f x)
  | .ret _ => rfl
  | .ite c t e => by simp only [Tr.map, Tr.map_map f g t, Tr.map_map f g e]
  | .fail => rfl

theorem Rounds.runB {α ρ : Type} {B : α → Tr (α ⊕ ρ)} {X : ρ → Ex × VS} {x : α} {r : ρ} (h : Rounds B x r) : ∃ k, runB (fun x => (B x).map (goX X)) k x = some (X r) := by
  induction h with
  | step h _ ih =>
    obtain ⟨k, hk⟩ := ih
    refine ⟨k + 1, ?_⟩
    simp only [Ev.runB, Tr.map_val, h, Option.map_some, goX, hk]
  | exit h =>
    refine ⟨1, ?_⟩
    simp only [Ev.runB, Tr.map_val, h, Option.map_some, goX]

theorem loopA {inner : Env → Code → St → Tr (Ex × St)} {E : Env} {c : Code} (key : Nat) (live out : Lv) (p : LP) {ρ : Type} (B : p.T → Tr (p.T ⊕ ρ)) (X : ρ → Ex × VS) (T : p.T → Tr ρ) (hk : loopKey c = key) (hlive : E.live key = live) (hout : E.live (Nat.add 1000 key) = out)
    (hls : ∀ x, E.ls key x = p.ls (fun a => (T a).map X) x)
    (hB : ∀ x, (evC inner c E (unV live (p.V x))).map (decL E.lent live out) = (B x).map (encR p.V X)) (hc : ∀ x, canV E.lent live (unV live (p.V x)) = p.V x)
    (hS : ∀ x r, (T x).val = some r → Rounds B x r) : LoopOK inner E c := by
  refine loopP key live out p (fun x => (B x).map (goX X)) (fun a => (T a).map X) hk hlive hout hls (fun x => ?_) hc fun x r hr => ?_
  · rw [hB, Tr.map_map]
    congr 1
    funext s
    cases s <;> rfl
  · rw [Tr.map_val] at hr
    obtain ⟨q, h1, h2⟩ := Option.map_eq_some_iff.1 hr
    rw [← h2]
    exact (hS x q h1).runB (X := X)

theorem ba_nil {s : ByteArray} (h : s.size = 0) : s = { data := #[] } := by
  obtain ⟨a⟩ := s
  have : a = #[] := Array.eq_empty_of_size_eq_zero h
  rw [this]
theorem ba_ne {s : ByteArray} (h : ¬ s.size = 0) : ¬ s = { data := #[] } := fun e => h (by rw [e]; rfl)

/-- One of two, laid open. -/
def Tr.spl {α β : Type} (s : α ⊕ β) (a : α) (b : β) : Tr (α ⊕ β) := .ite s.isLeft (.ret (.inl (s.getLeft?.getD a))) (.ret (.inr (s.getRight?.getD b)))
theorem Tr.val_spl {α β : Type} (s : α ⊕ β) (a : α) (b : β) : (Tr.spl s a b).val = some s := by cases s <;> rfl

theorem pre_val {α : Type} {c : Bool} {t : Tr α} {r : α} (h : (Tr.ite c t .fail).val = some r) : c = true ∧ t.val = some r := by
  cases c with
  | true => exact ⟨rfl, h⟩
  | false => cases h

/-- A range over a list: by its elements. -/
def foldE {σ α ρ : Type} (f : σ → α → σ ⊕ ρ) : List α → σ → σ ⊕ ρ
  | [], s => .inl s
  | x :: l, s => match f s x with
    | .inl s => foldE f l s
    | .inr r => .inr r

theorem Rounds.range {α σ ρ τ : Type} {B : τ → Tr (τ ⊕ ρ)} (xs : List α) (st : Nat → σ → τ) (f : σ → α → σ ⊕ ρ) (fin : σ → ρ) (inv : Nat → σ → Prop)
    (hs : ∀ i s (h : i < xs.length), inv i s → (∀ s', f s xs[i] = .inl s' → (B (st i s)).val = some (.inl (st (i + 1) s')) ∧ inv (i + 1) s') ∧ (∀ r, f s xs[i] = .inr r → (B (st i s)).val = some (.inr r)))
    (he : ∀ s, inv xs.length s → (B (st xs.length s)).val = some (.inr (fin s))) :
    ∀ k i s, i + k = xs.length → inv i s → Rounds B (st i s) (match foldE f (xs.drop i) s with | .inl s => fin s | .inr r => r)
  | 0, i, s, hi, hv => by
    have : i = xs.length := by omega
    subst this
    simp only [List.drop_length, foldE]
    exact .exit (he s hv)
  | k + 1, i, s, hi, hv => by
    have hlt : i < xs.length := by omega
    rw [List.drop_eq_getElem_cons hlt]
    obtain ⟨h1, h2⟩ := hs i s hlt hv
    simp only [foldE]
    cases hf : f s xs[i] with
    | inl s' =>
      obtain ⟨a, b⟩ := h1 s' hf
      exact .step a (Rounds.range xs st f fin inv hs he k (i + 1) s' (by omega) b)
    | inr r => exact .exit (h2 r hf)

theorem Rounds.range0 {α σ ρ τ : Type} {B : τ → Tr (τ ⊕ ρ)} (xs : List α) (st : Nat → σ → τ) (f : σ → α → σ ⊕ ρ) (fin : σ → ρ) (inv : Nat → σ → Prop)
    (hs : ∀ i s (h : i < xs.length), inv i s → (∀ s', f s xs[i] = .inl s' → (B (st i s)).val = some (.inl (st (i + 1) s')) ∧ inv (i + 1) s') ∧ (∀ r, f s xs[i] = .inr r → (B (st i s)).val = some (.inr r)))
    (he : ∀ s, inv xs.length s → (B (st xs.length s)).val = some (.inr (fin s))) (s : σ) (h0 : inv 0 s) : Rounds B (st 0 s) (match foldE f xs s with | .inl s => fin s | .inr r => r) := by
  have := Rounds.range xs st f fin inv hs he xs.length 0 s (by omega) h0
  rwa [List.drop_zero] at this

def allN (q : Nat → Bool) : Nat → Nat → Bool
  | 0, _ => true
  | k + 1, i => q i && allN q k (i + 1)
theorem allN_iff {q : Nat → Bool} : ∀ {k i : Nat}, allN q k i = true ↔ ∀ j, i ≤ j → j < i + k → q j = true
  | 0, i => ⟨fun _ j h1 h2 => by omega, fun _ => rfl⟩
  | k + 1, i => by
    simp only [allN, Bool.and_eq_true, allN_iff (k := k) (i := i + 1)]
    constructor
    · rintro ⟨a, b⟩ j h1 h2
      by_cases h : j = i
      · rw [h]; exact a
      · exact b j (by omega) (by omega)
    · intro h
      exact ⟨h i (Nat.le_refl _) (by omega), fun j h1 h2 => h j (by omega) (by omega)⟩
theorem all0 {q : Nat → Bool} {n : Nat} : allN q n 0 = true ↔ ∀ j, j < n → q j = true := by
  rw [allN_iff]
  exact ⟨fun h j hj => h j (Nat.zero_le _) (by omega), fun h j _ hj => h j (by omega)⟩
theorem allN_list {α : Type} {q : α → Bool} {d : α} {l : List α} : allN (fun i => q (l.getD i d)) l.length 0 = l.all q := by
  rw [Bool.eq_iff_iff, all0, List.all_eq_true]
  constructor
  · intro h x hx
    obtain ⟨i, hi, rfl⟩ := List.getElem_of_mem hx
    have := h i hi
    simpa [List.getD, hi] using this
  · intro h j hj
    have := h l[j] (List.getElem_mem hj)
    simpa [List.getD, hj] using this

/-- A loop that looks at each, and leaves at the first that fails. -/
theorem Rounds.allA {ρ τ : Type} {B : τ → Tr (τ ⊕ ρ)} {N : Nat} (st : Nat → τ) (q : Nat → Bool) (r fin : ρ)
    (hs : ∀ i, i < N → (B (st i)).val = some (bif q i then .inl (st (i + 1)) else .inr r)) (he : (B (st N)).val = some (.inr fin)) :
    ∀ k i, i + k = N → Rounds B (st i) (bif allN q k i then fin else r)
  | 0, i, h => by
    have : i = N := by omega
    subst this
    exact .exit he
  | k + 1, i, h => by
    have h1 := hs i (by omega)
    simp only [allN]
    cases hq : q i with
    | true =>
      rw [hq] at h1
      exact .step h1 (Rounds.allA st q r fin hs he k (i + 1) (by omega))
    | false =>
      rw [hq] at h1
      exact .exit h1
theorem Rounds.all {ρ τ : Type} {B : τ → Tr (τ ⊕ ρ)} {N : Nat} (st : Nat → τ) (q : Nat → Bool) (r fin : ρ)
    (hs : ∀ i, i < N → (B (st i)).val = some (bif q i then .inl (st (i + 1)) else .inr r)) (he : (B (st N)).val = some (.inr fin)) :
    Rounds B (st 0) (bif allN q N 0 then fin else r) := Rounds.allA st q r fin hs he N 0 (by omega)

theorem Rounds.findA {ρ τ : Type} {B : τ → Tr (τ ⊕ ρ)} {N : Nat} (st : Nat → τ) (p : Nat → Bool) (out : Nat → ρ) (e : ρ)
    (hs : ∀ i, i < N → (B (st i)).val = some (bif p i then .inr (out i) else .inl (st (i + 1)))) (he : (B (st N)).val = some (.inr e)) :
    ∀ k i, i + k = N → Rounds B (st i) (outN (findN p k i) out e)
  | 0, i, h => by
    have : i = N := by omega
    subst this
    exact .exit he
  | k + 1, i, h => by
    have h1 := hs i (by omega)
    simp only [findN]
    cases hp : p i with
    | true =>
      rw [hp] at h1
      exact .exit h1
    | false =>
      rw [hp] at h1
      exact .step h1 (Rounds.findA st p out e hs he k (i + 1) (by omega))
theorem Rounds.find {ρ τ : Type} {B : τ → Tr (τ ⊕ ρ)} {N : Nat} (st : Nat → τ) (p : Nat → Bool) (out : Nat → ρ) (e : ρ)
    (hs : ∀ i, i < N → (B (st i)).val = some (bif p i then .inr (out i) else .inl (st (i + 1)))) (he : (B (st N)).val = some (.inr e)) :
    Rounds B (st 0) (outN (findN p N 0) out e) := Rounds.findA st p out e hs he N 0 (by omega)

/-- A loop by a number, its state changed. -/
theorem Rounds.uptoA {σ ρ τ : Type} {B : τ → Tr (τ ⊕ ρ)} {N : Nat} (st : Nat → σ → τ) (f : Nat → σ → σ) (fin : σ → ρ) (inv : Nat → σ → Prop)
    (hs : ∀ i s, i < N → inv i s → (B (st i s)).val = some (.inl (st (i + 1) (f i s))) ∧ inv (i + 1) (f i s)) (he : ∀ s, inv N s → (B (st N s)).val = some (.inr (fin s))) :
    ∀ k i s, i + k = N → inv i s → Rounds B (st i s) (fin ((List.range' i k).foldl (fun s i => f i s) s))
  | 0, i, s, h, hv => by
    have : i = N := by omega
    subst this
    exact .exit (he s hv)
  | k + 1, i, s, h, hv => by
    obtain ⟨h1, h2⟩ := hs i s (by omega) hv
    simp only [List.range'_succ, List.foldl_cons]
    exact .step h1 (Rounds.uptoA st f fin inv hs he k (i + 1) (f i s) (by omega) h2)

/-- A range over a list that changes a state, element by element. -/
theorem Rounds.fold {σ ρ τ α : Type} {B : τ → Tr (τ ⊕ ρ)} (xs : List α) (st : Nat → σ → τ) (f : σ → α → σ) (fin : σ → ρ) (inv : Nat → σ → Prop)
    (hs : ∀ i s (h : i < xs.length), inv i s → (B (st i s)).val = some (.inl (st (i + 1) (f s xs[i]))) ∧ inv (i + 1) (f s xs[i])) (he : ∀ s, inv xs.length s → (B (st xs.length s)).val = some (.inr (fin s))) :
    ∀ k i s, i + k = xs.length → inv i s → Rounds B (st i s) (fin ((xs.drop i).foldl f s))
  | 0, i, s, h, hv => by
    have : i = xs.length := by omega
    subst this
    rw [List.drop_length]
    exact .exit (he s hv)
  | k + 1, i, s, h, hv => by
    have hlt : i < xs.length := by omega
    obtain ⟨h1, h2⟩ := hs i s hlt hv
    rw [List.drop_eq_getElem_cons hlt, List.foldl_cons]
    exact .step h1 (Rounds.fold xs st f fin inv hs he k (i + 1) _ (by omega) h2)
theorem Rounds.fold0 {σ ρ τ α : Type} {B : τ → Tr (τ ⊕ ρ)} (xs : List α) (st : Nat → σ → τ) (f : σ → α → σ) (fin : σ → ρ) (inv : Nat → σ → Prop) (s : σ) (h0 : inv 0 s)
    (hs : ∀ i s (h : i < xs.length), inv i s → (B (st i s)).val = some (.inl (st (i + 1) (f s xs[i]))) ∧ inv (i + 1) (f s xs[i])) (he : ∀ s, inv xs.length s → (B (st xs.length s)).val = some (.inr (fin s))) :
    Rounds B (st 0 s) (fin (xs.foldl f s)) := by
  have := Rounds.fold xs st f fin inv hs he xs.length 0 s (by omega) h0
  rwa [List.drop_zero] at this

theorem getD_el {α : Type} {d : α} {l : List α} {i : Nat} (h : i < l.length) : l.getD i d = l[i] := by simp [List.getD, h]
theorem w64 {n : Int} (h0 : -9223372036854775808 ≤ n) (h1 : n ≤ 9223372036854775807) : IntKind.i64.wrap n = n := by
  simp [IntKind.wrap, IntKind.signed, IntKind.bits]
  omega
theorem w32 {n : Int} (h0 : -2147483648 ≤ n) (h1 : n ≤ 2147483647) : IntKind.i32.wrap n = n := by
  rw [IntKind.wrap_i32]; omega
theorem inBi {i : Int} {n : Nat} (h0 : 0 ≤ i) (h1 : i < n) : inB i n = true := by simp [inB, h0, h1]

section
variable {P : Program} {E E0 : Env} {f : FuncId} {fns : List (Nat × FSpec)}

def aspec (ak : List AK) (bl : List BK) {ρ : Type} (e : ρ → FRes) (c : akT ak → bksT bl → Bool) (g : akT ak → bksT bl → ρ) : FSpec :=
  bspec ak bl fun x y => { c := some (c x y), rs := (e (g x y)).rs, upd := (e (g x y)).upd, new := (e (g x y)).new }
def aspec0 (ak : List AK) (bl : List BK) {ρ : Type} (e : ρ → FRes) (g : akT ak → bksT bl → ρ) : FSpec :=
  bspec ak bl fun x y => { rs := (e (g x y)).rs, upd := (e (g x y)).upd, new := (e (g x y)).new }

theorem aspec_ok (T : TabOK P E.tt) (FO : AllFn P E0 fns) (hfn : E.fn = fnOf fns) (hg : E0.glob = E.glob) (hm : P.follows .mixedOrders = true) {fn : Func} (hf : P.funcs[f]? = some fn) (hname : (fn.name == "runtime.NumGoroutine") = false)
    {ak : List AK} {bl : List BK} {ρ : Type} {e : ρ → FRes} {c : akT ak → bksT bl → Bool} {g : akT ak → bksT bl → ρ} (rm : List PM)
    (h : ∀ x y, c x y = true → (evFn E fn rm (akAV ak x) (bkBs bl y)).val = some (e (g x y))) (IO : ItOK P E) (L : ∀ c, fn.body = some c → LsOK (evI 2) (E.lend bl.length) c) : SpecOK P E0 f (aspec ak bl e c g) := by
  refine bspec_ok T FO hfn hg hm hf hname rm (fun x y hc => ?_) IO L
  rw [h x y (by cases h : c x y with | true => rfl | false => exact absurd (by show some (c x y) = some false; rw [h]) hc)]

theorem aspec0_ok (T : TabOK P E.tt) (FO : AllFn P E0 fns) (hfn : E.fn = fnOf fns) (hg : E0.glob = E.glob) (hm : P.follows .mixedOrders = true) {fn : Func} (hf : P.funcs[f]? = some fn) (hname : (fn.name == "runtime.NumGoroutine") = false)
    {ak : List AK} {bl : List BK} {ρ : Type} {e : ρ → FRes} {g : akT ak → bksT bl → ρ} (rm : List PM)
    (h : ∀ x y, (evFn E fn rm (akAV ak x) (bkBs bl y)).val = some (e (g x y))) (IO : ItOK P E) (L : ∀ c, fn.body = some c → LsOK (evI 2) (E.lend bl.length) c) : SpecOK P E0 f (aspec0 ak bl e g) := by
  refine bspec_ok T FO hfn hg hm hf hname rm (fun x y hc => ?_) IO L
  rw [h x y]
end

theorem val_of {α : Type} {t : Tr α} {f : α → FRes} {F : Tr FRes} {r : α} (h : F = t.map f) (hv : t.val = some r) : F.val = some (f r) := by rw [h, Tr.map_val, hv]; rfl
end Go.Ev
