/- Part 3 of what the proof leans on: an evaluator of Go code over plain data, with its soundness; contracts of functions; laws of plain data. -/
import Derived.Shelf.Strconv.Itoa3
import Derived.Test.YtdlbnlbajnafdaaDoorTie
import Derived.Test.YtdlbnlbajnafdaaDoorCards
import Derived.Lib.LaidU8T
import Derived.PinnedBridge
import Derived.Deep.DeepHandedRow
import Derived.Laws.BitsLemmas
import Derived.Laws.Externs
import Derived.Lib.MakeNoZero
import Derived.Shelf.Strings.Search3
import Derived.Shelf.Strings.Trim
import Derived.Shelf.Strconv.AtoiAll
import Derived.Shelf.Unicode.ValidAny
import Derived.Lib.ValidLaws
import Derived.Test.YtdlbnlbajnafdaaDoorZq2
section
set_option linter.unusedVariables false
namespace Go.Ev
open Go.RowKit
def encR {α ρ : Type} (V : α → VS) (X : ρ → Ex × VS) : α ⊕ ρ → VS ⊕ (Ex × VS)
  | .inl x => .inl (V x)
  | .inr r => .inr (X r)
def goX {α ρ : Type} (X : ρ → Ex × VS) : α ⊕ ρ → α ⊕ (Ex × VS)
  | .inl y => .inl y
  | .inr r => .inr (X r)
inductive Rounds {α ρ : Type} (B : α → Tr (α ⊕ ρ)) : α → ρ → Prop
  | step {x y : α} {r : ρ} : (B x).val = some (.inl y) → Rounds B y r → Rounds B x r
  | exit {x : α} {r : ρ} : (B x).val = some (.inr r) → Rounds B x r
theorem Tr.map_map {α β γ : Type} (f : α → β) (g : β → γ) : ∀ t : Tr α, (t.map f).map g = t.map fun x => g (f x)
  | .ret _ => rfl
  | .ite c t e => by simp only [Tr.map, Tr.map_map f g t, Tr.map_map f g e]
  | .fail => rfl
theorem Rounds.runB {α ρ : Type} {B : α → Tr (α ⊕ ρ)} {X : ρ → Ex × VS} {x : α} {r : ρ} (h : Rounds B x r) : ∃ k, runB (fun x => (B x).map (goX X)) k x = some (X r) := by
  induction h with
  | step h _ ih =>
    obtain ⟨k, hk⟩ := ih
    refine ⟨k + 1, ?_⟩
    simp only [Ev.runB, Tr.map_val, h, Option.map_some, goX, hk]
  | exit h =>
    refine ⟨1, ?_⟩
    simp only [Ev.runB, Tr.map_val, h, Option.map_some, goX]
theorem loopA {inner : Env → Code → St → Tr (Ex × St)} {E : Env} {c : Code} (key : Nat) (live out : Lv) (p : LP) {ρ : Type} (B : p.T → Tr (p.T ⊕ ρ)) (X : ρ → Ex × VS) (T : p.T → Tr ρ) (hk : loopKey c = key) (hlive : E.live key = live) (hout : E.live (Nat.add 1000 key) = out)
    (hls : ∀ x, E.ls key x = p.ls (fun a => (T a).map X) x)
    (hB : ∀ x, (evC inner c E (unV live (p.V x))).map (decL E.lent live out) = (B x).map (encR p.V X)) (hc : ∀ x, canV E.lent live (unV live (p.V x)) = p.V x)
    (hS : ∀ x r, (T x).val = some r → Rounds B x r) : LoopOK inner E c := by
  refine loopP key live out p (fun x => (B x).map (goX X)) (fun a => (T a).map X) hk hlive hout hls (fun x => ?_) hc fun x r hr => ?_
  · rw [hB, Tr.map_map]
    congr 1
    funext s
    cases s <;> rfl
  · rw [Tr.map_val] at hr
    obtain ⟨q, h1, h2⟩ := Option.map_eq_some_iff.1 hr
    rw [← h2]
    exact (hS x q h1).runB (X := X)
theorem pre_val {α : Type} {c : Bool} {t : Tr α} {r : α} (h : (Tr.ite c t .fail).val = some r) : c = true ∧ t.val = some r := by
  cases c with
  | true => exact ⟨rfl, h⟩
  | false => cases h
theorem ba_nil {s : ByteArray} (h : s.size = 0) : s = { data := #[] } := by
  obtain ⟨a⟩ := s
  have : a = #[] := Array.eq_empty_of_size_eq_zero h
  rw [this]
theorem ba_ne {s : ByteArray} (h : ¬ s.size = 0) : ¬ s = { data := #[] } := fun e => h (by rw [e]; rfl)
def Tr.spl {α β : Type} (s : α ⊕ β) (a : α) (b : β) : Tr (α ⊕ β) := .ite s.isLeft (.ret (.inl (s.getLeft?.getD a))) (.ret (.inr (s.getRight?.getD b)))
theorem Tr.val_spl {α β : Type} (s : α ⊕ β) (a : α) (b : β) : (Tr.spl s a b).val = some s := by cases s <;> rfl
def allN (q : Nat → Bool) : Nat → Nat → Bool
  | 0, _ => true
  | k + 1, i => q i && allN q k (i + 1)
theorem Rounds.allA {ρ τ : Type} {B : τ → Tr (τ ⊕ ρ)} {N : Nat} (st : Nat → τ) (q : Nat → Bool) (r fin : ρ)
    (hs : ∀ i, i < N → (B (st i)).val = some (bif q i then .inl (st (i + 1)) else .inr r)) (he : (B (st N)).val = some (.inr fin)) :
    ∀ k i, i + k = N → Rounds B (st i) (bif allN q k i then fin else r)
  | 0, i, h => by
    have : i = N := by omega
    subst this
    exact .exit he
  | k + 1, i, h => by
    have h1 := hs i (by omega)
    simp only [allN]
    cases hq : q i with
    | true =>
      rw [hq] at h1
      exact .step h1 (Rounds.allA st q r fin hs he k (i + 1) (by omega))
    | false =>
      rw [hq] at h1
      exact .exit h1
theorem Rounds.all {ρ τ : Type} {B : τ → Tr (τ ⊕ ρ)} {N : Nat} (st : Nat → τ) (q : Nat → Bool) (r fin : ρ)
    (hs : ∀ i, i < N → (B (st i)).val = some (bif q i then .inl (st (i + 1)) else .inr r)) (he : (B (st N)).val = some (.inr fin)) :
    Rounds B (st 0) (bif allN q N 0 then fin else r) := Rounds.allA st q r fin hs he N 0 (by omega)
theorem Rounds.findA {ρ τ : Type} {B : τ → Tr (τ ⊕ ρ)} {N : Nat} (st : Nat → τ) (p : Nat → Bool) (out : Nat → ρ) (e : ρ)
    (hs : ∀ i, i < N → (B (st i)).val = some (bif p i then .inr (out i) else .inl (st (i + 1)))) (he : (B (st N)).val = some (.inr e)) :
    ∀ k i, i + k = N → Rounds B (st i) (outN (findN p k i) out e)
  | 0, i, h => by
    have : i = N := by omega
    subst this
    exact .exit he
  | k + 1, i, h => by
    have h1 := hs i (by omega)
    simp only [findN]
    cases hp : p i with
    | true =>
      rw [hp] at h1
      exact .exit h1
    | false =>
      rw [hp] at h1
      exact .step h1 (Rounds.findA st p out e hs he k (i + 1) (by omega))
theorem Rounds.find {ρ τ : Type} {B : τ → Tr (τ ⊕ ρ)} {N : Nat} (st : Nat → τ) (p : Nat → Bool) (out : Nat → ρ) (e : ρ)
    (hs : ∀ i, i < N → (B (st i)).val = some (bif p i then .inr (out i) else .inl (st (i + 1)))) (he : (B (st N)).val = some (.inr e)) :
    Rounds B (st 0) (outN (findN p N 0) out e) := Rounds.findA st p out e hs he N 0 (by omega)
theorem Rounds.fold {σ ρ τ α : Type} {B : τ → Tr (τ ⊕ ρ)} (xs : List α) (st : Nat → σ → τ) (f : σ → α → σ) (fin : σ → ρ) (inv : Nat → σ → Prop)
    (hs : ∀ i s (h : i < xs.length), inv i s → (B (st i s)).val = some (.inl (st (i + 1) (f s xs[i]))) ∧ inv (i + 1) (f s xs[i])) (he : ∀ s, inv xs.length s → (B (st xs.length s)).val = some (.inr (fin s))) :
    ∀ k i s, i + k = xs.length → inv i s → Rounds B (st i s) (fin ((xs.drop i).foldl f s))
  | 0, i, s, h, hv => by
    have : i = xs.length := by omega
    subst this
    rw [List.drop_length]
    exact .exit (he s hv)
  | k + 1, i, s, h, hv => by
    have hlt : i < xs.length := by omega
    obtain ⟨h1, h2⟩ := hs i s hlt hv
    rw [List.drop_eq_getElem_cons hlt, List.foldl_cons]
    exact .step h1 (Rounds.fold xs st f fin inv hs he k (i + 1) _ (by omega) h2)
theorem Rounds.fold0 {σ ρ τ α : Type} {B : τ → Tr (τ ⊕ ρ)} (xs : List α) (st : Nat → σ → τ) (f : σ → α → σ) (fin : σ → ρ) (inv : Nat → σ → Prop) (s : σ) (h0 : inv 0 s)
    (hs : ∀ i s (h : i < xs.length), inv i s → (B (st i s)).val = some (.inl (st (i + 1) (f s xs[i]))) ∧ inv (i + 1) (f s xs[i])) (he : ∀ s, inv xs.length s → (B (st xs.length s)).val = some (.inr (fin s))) :
    Rounds B (st 0 s) (fin (xs.foldl f s)) := by
  have := Rounds.fold xs st f fin inv hs he xs.length 0 s (by omega) h0
  rwa [List.drop_zero] at this
theorem getD_el {α : Type} {d : α} {l : List α} {i : Nat} (h : i < l.length) : l.getD i d = l[i] := by simp [List.getD, h]
theorem w64 {n : Int} (h0 : -9223372036854775808 ≤ n) (h1 : n ≤ 9223372036854775807) : IntKind.i64.wrap n = n := by
  simp [IntKind.wrap, IntKind.signed, IntKind.bits]
  omega
theorem w32 {n : Int} (h0 : -2147483648 ≤ n) (h1 : n ≤ 2147483647) : IntKind.i32.wrap n = n := by
  rw [IntKind.wrap_i32]; omega
theorem inBi {i : Int} {n : Nat} (h0 : 0 ≤ i) (h1 : i < n) : inB i n = true := by simp [inB, h0, h1]
section
variable {P : Program} {E E0 : Env} {f : FuncId} {fns : List (Nat × FSpec)}
def aspec (ak : List AK) (bl : List BK) {ρ : Type} (e : ρ → FRes) (c : akT ak → bksT bl → Bool) (g : akT ak → bksT bl → ρ) : FSpec :=
  bspec ak bl fun x y => { c := some (c x y), rs := (e (g x y)).rs, upd := (e (g x y)).upd, new := (e (g x y)).new }
def aspec0 (ak : List AK) (bl : List BK) {ρ : Type} (e : ρ → FRes) (g : akT ak → bksT bl → ρ) : FSpec :=
  bspec ak bl fun x y => { rs := (e (g x y)).rs, upd := (e (g x y)).upd, new := (e (g x y)).new }
theorem aspec_ok (T : TabOK P E.tt) (FO : AllFn P E0 fns) (hfn : E.fn = fnOf fns) (hg : E0.glob = E.glob) (hm : P.follows .mixedOrders = true) {fn : Func} (hf : P.funcs[f]? = some fn) (hname : (fn.name == "runtime.NumGoroutine") = false)
    {ak : List AK} {bl : List BK} {ρ : Type} {e : ρ → FRes} {c : akT ak → bksT bl → Bool} {g : akT ak → bksT bl → ρ} (rm : List PM)
    (h : ∀ x y, c x y = true → (evFn E fn rm (akAV ak x) (bkBs bl y)).val = some (e (g x y))) (IO : ItOK P E) (L : ∀ c, fn.body = some c → LsOK (evI 2) (E.lend bl.length) c) : SpecOK P E0 f (aspec ak bl e c g) := by
  refine bspec_ok T FO hfn hg hm hf hname rm (fun x y hc => ?_) IO L
  rw [h x y (by cases h : c x y with | true => rfl | false => exact absurd (by show some (c x y) = some false; rw [h]) hc)]
theorem aspec0_ok (T : TabOK P E.tt) (FO : AllFn P E0 fns) (hfn : E.fn = fnOf fns) (hg : E0.glob = E.glob) (hm : P.follows .mixedOrders = true) {fn : Func} (hf : P.funcs[f]? = some fn) (hname : (fn.name == "runtime.NumGoroutine") = false)
    {ak : List AK} {bl : List BK} {ρ : Type} {e : ρ → FRes} {g : akT ak → bksT bl → ρ} (rm : List PM)
    (h : ∀ x y, (evFn E fn rm (akAV ak x) (bkBs bl y)).val = some (e (g x y))) (IO : ItOK P E) (L : ∀ c, fn.body = some c → LsOK (evI 2) (E.lend bl.length) c) : SpecOK P E0 f (aspec0 ak bl e g) := by
  refine bspec_ok T FO hfn hg hm hf hname rm (fun x y hc => ?_) IO L
  rw [h x y]
end
theorem val_of {α : Type} {t : Tr α} {f : α → FRes} {F : Tr FRes} {r : α} (h : F = t.map f) (hv : t.val = some r) : F.val = some (f r) := by rw [h, Tr.map_val, hv]; rfl
end Go.Ev
end
section
set_option linter.unusedVariables false
namespace Go.Ev
open Go.RowKit Go.Sort Go.Shelf Go.Proofs
theorem HR.grows {C : Ctx} {w w' : World} {K : KSet} {A : Asg} {h : Heap} (H : HR C w K A h) (hg : w.grownBy w' none) : HR C w' K A h ∧ Ext K A h w K A h w' := by
  have hw : ∀ b, b < w.heap.size → w'.heap[b]? = w.heap[b]? := fun b hb => hg.block b hb (by simp)
  have x : Ext K A h w K A h w' :=
    ⟨fun b hb => ⟨hb, hw b (H.kset b hb).1⟩, fun i hi => ⟨hi, rfl, rfl⟩, fun i e k xs' _ hgi => ⟨xs', hgi, rfl⟩, fun i k xs' _ hgi => .inr ⟨xs', hgi, rfl⟩⟩
  refine ⟨⟨fun i b hb => BlkR.keep x hb (fun hu => hw _ (H.own i hu).2.1) (H.blk i b hb), H.inj, fun i hu => ?_, fun b hb => ?_, fun b hb => H.k0 b hb, fun g l hl => x.leaf (H.glob g l hl),
    hg.os.trans H.os, hg.tape.trans H.tape, hg.output.trans H.output, Nat.le_trans H.size hg.size, fun b hb hl => (hw b (Nat.lt_of_lt_of_le hb H.size)).trans (H.frame b hb hl)⟩, x⟩
  · obtain ⟨a, b, c⟩ := H.own i hu
    exact ⟨a, Nat.lt_of_lt_of_le b hg.size, c⟩
  · obtain ⟨a, c⟩ := H.kset b hb
    exact ⟨Nat.lt_of_lt_of_le a hg.size, c⟩
theorem grownBy_grow (w : World) (k : Nat) (os : Array Obj) : w.grownBy (grow (w.drewN k) os) none :=
  ⟨rfl, rfl, rfl, by rw [size_grow]; exact Nat.le_add_right _ _, fun b hb _ => by
    show (w.heap ++ os)[b]? = w.heap[b]?
    rw [Array.getElem?_append, if_pos hb]⟩
theorem callsIn_open {F : Fence} (O : Open F) {n : Nat} {P : Program} {f : FuncId} {args : Array Value} {w : World} {R : Ending → World → Prop} (h : Calls P f args w R) : CallsIn F n P f args w R := by
  have hf : ∀ m, Machine.fenced P F m := fun m g _ => ⟨fun ha => (by rw [O.alive] at ha; cases ha), .inl (O.fn _), fun f _ => O.fn f, fun d hd => (by rw [O.depth] at hd; cases hd)⟩
  have hs : ∀ {m m' : Machine}, Steps P m m' → StepsIn (Machine.fenced P F) P m m' := fun h => (StepsIn.of_steps h).mono fun m _ => hf m
  refine ⟨O.fn f, fun cs _ => ?_⟩
  obtain ⟨e, w', fr, r, s, x⟩ := h cs
  refine ⟨e, w', fr, r, ?_, x⟩
  cases e with
  | returned v => exact hs s
  | panicked chain => exact hs s
  | outgrown => exact s
def itoaB (n : Int) : ByteArray := ⟨(Lib.itoa n).toArray⟩
abbrev itoaS : FSpec := dspec [.int .i64] fun x => { c := some (decide (-9223372036854775808 ≤ (x.1 : Int) ∧ (x.1 : Int) ≤ 9223372036854775807)), rs := .av (.one (.dat .str (itoaB x.1))) }
theorem tabIs_glob {P : Program} {C : Ctx} {w : World} {K : KSet} {A : Asg} {h : Heap} (H : HR C w K A h) {g : Nat} {name : String} {zs : List Int} (hg : C.E.glob g = some (.arr (.int .u64) zs)) (hn : P.globalNamed name = some g) : Lib.TabIs P w name .u64 zs := by
  obtain ⟨b, off, cs, t, fr, e, hk, hc, hR, hz⟩ := H.glob g _ hg
  cases e
  have hz := hz rfl
  unfold Lib.TabIs World.var?
  rw [hn]
  show (match w.heap[g]? with | some (.cells cs _ _) => some cs | _ => none) = _
  rw [hc]
  show some cs = _
  congr 1
  apply Array.ext_getElem?
  intro i
  by_cases hi : i < zs.length
  · have h1 := hR i hi
    have h2 : cellsAt cs (0 + i * 1) 1 = [.int .u64 (zs.getD i 0)] := h1
    have h3 : i < cs.size := by rw [hz]; exact hi
    unfold cellsAt at h2
    rw [Nat.zero_add, Nat.mul_one, List.drop_eq_getElem_cons (by simpa using h3), List.take_succ_cons, List.take_zero] at h2
    have h4 := (List.cons.inj h2).1
    rw [Array.getElem?_eq_getElem h3]
    simp only [Array.getElem_toList] at h4
    rw [h4]
    simp [List.getD_eq_getElem?_getD, hi]
  · rw [Array.getElem?_eq_none (by rw [hz]; omega), Array.getElem?_eq_none (by simp; omega)]
theorem itoa_ok {P : Program} {ρ : Go.Shelf.Ren} (L : LaysM.n171 P ρ) {E : Env} {g : Nat} (hg : E.glob g = some (.arr (.int .u64) Lib.pow10Tab)) (hn : P.globalNamed "internal/strconv.uint64pow10" = some g)
    (he : ∀ args w, (callFunc (ρ.f 171) args).run P w = .ok (.enter (ρ.f 171) args) w) {f : FuncId} (hf : ρ.f 171 = f) : SpecOK P E f itoaS := by
  subst hf
  intro F O args bs r hr hc w K A vs H hv
  unfold itoaS dspec at hr
  simp only [] at hr
  split at hr
  · split at hr
    · rename_i x hx
      cases hr
      have hin : -9223372036854775808 ≤ x.1 ∧ x.1 ≤ 9223372036854775807 := by
        by_cases hd : -9223372036854775808 ≤ x.1 ∧ x.1 ≤ 9223372036854775807
        · exact hd
        · exact absurd (by simp [hd]) hc
      have hv' := packAll_R H hx hv
      have hvs : vs = [.int .i64 x.1] := by
        cases hv' with
        | cons h1 h2 =>
          cases h2
          rw [show _ = _ from h1]
      subst hvs
      refine .inr ⟨he _ _, callsIn_open O ((Any.strconv_Itoa L x.1 hin.1 hin.2 w (tabIs_glob H hg hn)).mono fun e w' h => ?_)⟩
      obtain ⟨rfl, k, os, rfl⟩ := h
      obtain ⟨H', X⟩ := H.grows (grownBy_grow w k os)
      exact ⟨_, rfl, K, A, H', X, rfl, rfl⟩
    · cases hr
  · cases hr
end Go.Ev
end
section
set_option linter.unusedVariables false
set_option maxRecDepth 100000
namespace Go.Proofs.YtdlbnlbajnafdaaDoor
open Go.ChangeShapes Go.WideShapes Go.ChangeAt Go.RowKit Go.Ev Go.Lib Go.Shelf
def bool1 (b : Bool) : SRes := { rs := one (.dat .bool b) }
theorem own : ownKnob Tryd.prog.godebug = none := by kernel_rfl
def ρ8 : Ren := ⟨fun x => x, fun x => if x = 119 then 212 else if x = 138 then 214 else if x = 139 then 215 else x, fun x => x - 1⟩
theorem ty8 : U8Types Tryd.prog ρ8 := ⟨Tryd.underlying5, Tryd.underlying212, Tryd.underlying214, Tryd.underlying215⟩
theorem ex8 : U8Extra Tryd.prog ρ8 := ⟨by kernel_rfl, by kernel_rfl, by kernel_rfl, by kernel_rfl, by kernel_rfl, by kernel_rfl, by kernel_rfl⟩
theorem pow_eq : (Rows.laid_internal_strconv_uint64pow10 : DataW Unit) = tabData .u64 U.pow10L := by kernel_rfl
theorem acc_eq : (Rows.laid_unicode_utf8_acceptRanges : DataW Unit) = acceptData := by kernel_rfl
theorem fst_eq : Rows.laid_unicode_utf8_first = firstData := by kernel_rfl
def Tabs (W : World) : Prop := Utf8Tabs 2 3 W ∧ TabIs Tryd.prog W "internal/strconv.uint64pow10" .u64 U.pow10L
theorem cells_of {W : World} {g : Nat} {i : Nat} {v : Value} (h : W.cell? ⟨g, i, none⟩ = some v) : ∃ cs t fr, W.heap[g]? = some (.cells cs t fr) := by
  unfold World.cell? at h
  split at h
  · rename_i c t fr hc
    exact ⟨c, t, fr, hc⟩
  · cases h
theorem cell_at {W : World} {g : Nat} {cs : Array Value} {t : TypeId} {fr : Nat × Nat} (hc : W.heap[g]? = some (.cells cs t fr)) {i : Nat} {v : Value} (h : W.cell? ⟨g, i, none⟩ = some v) : cs.toList[i]? = some v := by
  unfold World.cell? at h
  rw [hc] at h
  simpa using h
theorem globs {W : World} (hT : Tabs W) : ∀ g p, E0.glob g = some p → LeafR W (allK W) noA [] p.leaf (.pointer (some ⟨g, 0, none⟩)) := by
  obtain ⟨h, hp10⟩ := hT
  intro g p hp
  have hp : gl g = some p := hp
  unfold gl at hp
  cases h0 : Nat.beq g 2 with
  | true =>
    rw [h0] at hp
    cases hp
    have e := Nat.eq_of_beq_eq_true h0
    subst e
    obtain ⟨cs, t, fr, hc⟩ := cells_of (h.1 0 (by omega))
    refine ⟨2, 0, cs, t, fr, rfl, (Array.getElem?_eq_some_iff.1 hc).1, hc, fun i hi => ?_, fun h => by cases h⟩
    have hi : i < 256 := hi
    have h1 := cell_at hc (h.1 i hi)
    show cellsAt cs (0 + i * 1) 1 = [.int .u8 (U.firstL.getD i 0)]
    have e : U.firstL.getD i 0 = firstT i := by
      unfold U.firstL
      rw [List.getD_eq_getElem?_getD, List.getElem?_map, List.getElem?_range hi]
      rfl
    rw [e]
    unfold cellsAt
    rw [Nat.zero_add, Nat.mul_one, List.drop_eq_getElem_cons (List.getElem?_eq_some_iff.1 h1).1, List.take_succ_cons, List.take_zero, (List.getElem?_eq_some_iff.1 h1).2]
  | false =>
    rw [h0] at hp
    cases h1 : Nat.beq g 3 with
    | false =>
      rw [h1] at hp
      cases h2 : Nat.beq g 5 with
      | false => rw [h2] at hp; cases hp
      | true =>
        rw [h2] at hp
        cases hp
        have e := Nat.eq_of_beq_eq_true h2
        subst e
        unfold TabIs World.var? at hp10
        rw [show Tryd.prog.globalNamed "internal/strconv.uint64pow10" = some 5 from by kernel_rfl] at hp10
        have hp10 : (match (W.heap[5]? : Option Obj) with | some (Obj.cells cs _ _) => some cs | _ => none) = some (U.pow10L.map fun z => Value.int .u64 z).toArray := hp10
        split at hp10
        · rename_i cs t fr hc
          cases hp10
          refine ⟨5, 0, _, t, fr, rfl, (Array.getElem?_eq_some_iff.1 hc).1, hc, fun i hi => ?_, fun _ => by simp⟩
          have hi : i < U.pow10L.length := hi
          show cellsAt (U.pow10L.map fun z => Value.int .u64 z).toArray (0 + i * 1) 1 = [.int .u64 (U.pow10L.getD i 0)]
          unfold cellsAt
          have hi2 : i < (U.pow10L.map fun z => Value.int .u64 z).length := by rw [List.length_map]; exact hi
          rw [Nat.zero_add, Nat.mul_one, List.drop_eq_getElem_cons hi2, List.take_succ_cons, List.take_zero, List.getElem_map, List.getD_eq_getElem?_getD, List.getElem?_eq_getElem hi]
          rfl
        · cases hp10
    | true =>
      rw [h1] at hp
      cases hp
      have e := Nat.eq_of_beq_eq_true h1
      subst e
      obtain ⟨cs, t, fr, hc⟩ := cells_of (h.2 0 (by omega)).1
      refine ⟨3, 0, cs, t, fr, rfl, (Array.getElem?_eq_some_iff.1 hc).1, hc, fun i hi => ?_, fun h => by cases h⟩
      have hi : i < 16 := hi
      have a1 := cell_at hc (h.2 i hi).1
      have a2 := cell_at hc (h.2 i hi).2
      have e : U.accL.getD i (Kd.dflt acck) = ((accLo i : Int), (accHi i : Int), ()) := by
        unfold U.accL
        rw [List.getD_eq_getElem?_getD, List.getElem?_map, List.getElem?_range hi]
        rfl
      show Kd.R W (allK W) acck (U.accL.getD i (Kd.dflt acck)) (cellsAt cs (0 + i * 2) 2)
      rw [e]
      have b1 := List.getElem?_eq_some_iff.1 a1
      have b2 := List.getElem?_eq_some_iff.1 a2
      have hcs : cellsAt cs (0 + i * 2) 2 = [.int .u8 (accLo i), .int .u8 (accHi i)] := by
        unfold cellsAt
        rw [Nat.zero_add, Nat.mul_comm i 2, List.drop_eq_getElem_cons b1.1, List.take_succ_cons, List.drop_eq_getElem_cons b2.1, List.take_succ_cons, List.take_zero, b1.2, b2.2]
      rw [hcs]
      exact ⟨[.int .u8 (accLo i)], [.int .u8 (accHi i)], rfl, rfl, [.int .u8 (accHi i)], [], rfl, rfl, rfl⟩
def lay0 : Obj → Obj
  | .cells _ t frozen => .cells ((List.range 256).map fun i => Value.int .u8 (firstT i)).toArray t frozen
  | o => o
def lay1 : Obj → Obj
  | .cells _ t frozen => .cells ((List.range 16).flatMap fun i => [Value.int .u8 (accLo i), Value.int .u8 (accHi i)]).toArray t frozen
  | o => o
def lay2 : Obj → Obj
  | .cells _ t frozen => .cells (U.pow10L.map fun z => Value.int .u64 z).toArray t frozen
  | o => o
def tab32 : List Int := [0, 1, 28, 2, 29, 14, 24, 3, 30, 22, 20, 15, 25, 17, 4, 8, 31, 27, 13, 23, 21, 19, 16, 7, 26, 12, 18, 6, 11, 5, 10, 9]
def tab64 : List Int := [0, 1, 56, 2, 57, 49, 28, 3, 61, 58, 42, 50, 38, 29, 17, 4, 62, 47, 59, 36, 45, 43, 51, 22, 53, 39, 33, 30, 24, 18, 12, 5, 63, 55, 48, 27, 60, 41, 37, 16, 46, 35, 44, 21, 52, 32, 23, 11, 54, 26, 40, 15, 34, 20, 31, 10, 25, 14, 19, 9, 13, 8, 7, 6]
def lay3 : Obj → Obj
  | .cells _ t frozen => .cells (tab32.map fun z => Value.int .u8 z).toArray t frozen
  | o => o
def lay4 : Obj → Obj
  | .cells _ t frozen => .cells (tab64.map fun z => Value.int .u8 z).toArray t frozen
  | o => o
noncomputable def laidWorld (os : Os) : World :=
  { World.holding Tryd.prog os ⟨#[], #[], []⟩ with heap := (((((World.holding Tryd.prog os ⟨#[], #[], []⟩).heap.modify 2 lay0).modify 3 lay1).modify 5 lay2).modify 8 lay3).modify 9 lay4 }
end Go.Proofs.YtdlbnlbajnafdaaDoor
end
section
set_option linter.unusedVariables false
set_option linter.unusedSimpArgs false
set_option maxRecDepth 20000
namespace U
open Go Go.Ev Go.Proofs.YtdlbnlbajnafdaaDoor
def need (c : Int) : Int := if c < 128 then 1 else if c < 194 then 0 else if c < 224 then 2 else if c < 240 then 3 else if c < 245 then 4 else 0
def lo (c : Int) : Int := if c = 224 then 160 else if c = 240 then 144 else 128
def hi (c : Int) : Int := if c = 237 then 159 else if c = 244 then 143 else 191
def ok1 (s : ByteArray) : Bool := decide (lo (bt s 0) ≤ bt s 1) && decide (bt s 1 ≤ hi (bt s 0))
def cont (c : Int) : Bool := decide (128 ≤ c) && decide (c ≤ 191)
def full (s : ByteArray) : Bool :=
  bif decide (s.size = 0) then false else bif decide (need (bt s 0) ≤ (s.size : Int)) then true else
  bif decide (1 < s.size) && !ok1 s then true else decide (2 < s.size) && !cont (bt s 2)
def val2 (s : ByteArray) : Int := (bt s 0 - 192) * 64 + (bt s 1 - 128)
def val3 (s : ByteArray) : Int := (bt s 0 - 224) * 4096 + (bt s 1 - 128) * 64 + (bt s 2 - 128)
def val4 (s : ByteArray) : Int := (bt s 0 - 240) * 262144 + (bt s 1 - 128) * 4096 + (bt s 2 - 128) * 64 + (bt s 3 - 128)
def dec (s : ByteArray) : Int × Int :=
  bif decide (s.size = 0) then (65533, 0) else
  bif decide (need (bt s 0) = 0) then (65533, 1) else bif decide (need (bt s 0) = 1) then (bt s 0, 1) else
  bif decide ((s.size : Int) < need (bt s 0)) then (65533, 1) else bif !ok1 s then (65533, 1) else
  bif decide (need (bt s 0) = 2) then (val2 s, 2) else bif !cont (bt s 2) then (65533, 1) else
  bif decide (need (bt s 0) = 3) then (val3 s, 3) else bif !cont (bt s 3) then (65533, 1) else (val4 s, 4)
theorem need_cases (c : Int) : (need c = 1 ∧ c < 128) ∨ need c = 0 ∨ (need c = 2 ∧ 194 ≤ c ∧ c < 224) ∨ (need c = 3 ∧ 224 ≤ c ∧ c < 240) ∨ (need c = 4 ∧ 240 ≤ c ∧ c < 245) := by
  unfold need
  repeat' split
  all_goals omega
theorem lo_ge (c : Int) : 128 ≤ lo c := by unfold lo; repeat' split
                                           all_goals omega
theorem hi_le (c : Int) : hi c ≤ 191 := by unfold hi; repeat' split
                                           all_goals omega
end U
end
section
set_option linter.unusedVariables false
set_option linter.unusedSimpArgs false
set_option maxRecDepth 20000
namespace U
open Go Go.Ev
def bad (s : ByteArray) : Int := bif decide (need (bt s 0) = 0) then 1 else bif !ok1 s then 1 else bif !cont (bt s 2) then 2 else 3
def isL (s : ByteArray) : Bool := !decide ((dec s).1 = 65533) || decide (1 < (dec s).2)
def first (s : ByteArray) : Int × Int × Int := bif !full s then (0, 0, 2) else bif isL s then ((dec s).1, (dec s).2, 0) else (0, bad s, 4)
end U
end
section
set_option linter.unusedVariables false
set_option linter.unusedSimpArgs false
set_option maxRecDepth 20000
namespace U
open Go Go.Ev Go.Proofs.YtdlbnlbajnafdaaDoor
theorem bt_pre {s : ByteArray} {k i : Nat} (h : i < k) (hk : k ≤ s.size) : bt (s.extract 0 k) (i : Int) = bt s (i : Int) := by
  rw [bt_eq (by omega), bt_eq (by omega), bl_ext, List.drop_zero]
  simp only [List.getD_eq_getElem?_getD, Int.toNat_natCast]
  rw [List.getElem?_take_of_lt h]
theorem size_pre {s : ByteArray} {k : Nat} (hk : k ≤ s.size) : (s.extract 0 k).size = k := by
  rw [← bl_len, bl_ext, List.drop_zero, List.length_take, bl_len]
  omega
end U
end
section
set_option linter.unusedVariables false
set_option linter.unusedSimpArgs false
set_option maxRecDepth 20000
open Go Go.Ev
namespace Go.Proofs.YtdlbnlbajnafdaaDoor
open Go.RowKit
def X150_0 : (Int × Int ⊕ Int) → Ex × VS
  | (.inl r) => Prod.mk Ex.ret { n := 28, v := [Slot.av (AV.one (Leaf.dat (.int .i64) r.fst)), Slot.av (AV.one (Leaf.dat (.int .i64) r.snd))], h := [] }
  | (.inr r) => Prod.mk (Ex.exit ( 0)) { n := 28, v := [Slot.av (AV.one Leaf.undef), Slot.av (AV.one (Leaf.dat (.int .i64) r))], h := [] }
end Go.Proofs.YtdlbnlbajnafdaaDoor
namespace Go.Proofs.YtdlbnlbajnafdaaDoor
open Go Go.Ev Go.RowKit
def live174 (key : Nat) : Lv :=
  bif Nat.beq key 3 then { ls := [0, 3, 4] } else bif Nat.beq key 1003 then { ls := [2, 3] } else
  { ls := [] }
abbrev M174 (ls : Nat → VS → Option (Tr (Ex × VS))) : Env := (E0.withFns []).loops live174 ls
@[reducible] def p174_0 : LP := { n := 41, sl := [.d (Kd.str), .d (Kd.int IntKind.i32), .d (.int .i64)], bl := [] }
def B174_0 (x0 : ByteArray) (x1 : Int) (x2 : Int) : Tr (p174_0.T ⊕ (Int × Int ⊕ Int)) :=
 let v1 : Int := x2 + (1 : Int)
 let v2 : Int := IntKind.i32.wrap (bt x0 x2) - [(0 : Int), (0 : Int), (192 : Int), (224 : Int), (240 : Int)].getD (↑x0.size : Int).toNat (0 : Int)
 Tr.ite (decide (x2 < (↑x0.size : Int))) (Tr.ite (inB x2 x0.size) (Tr.ite (decide (x2 = (0 : Int))) (Tr.ite (inB (↑x0.size : Int) (5 : Nat)) (Tr.ite (decide ((↑x0.size : Int) = (1 : Int))) (Tr.ret (Sum.inr (Sum.inl (IntKind.i32.wrap (bt x0 x2), IntKind.i32.wrap v2)))) (Tr.ret (Sum.inl ((x0, IntKind.i32.wrap v2, IntKind.i64.wrap v1, ()), ())))) Tr.fail) (Tr.ite (decide (IntKind.i32.wrap (bt x0 x2) < (128 : Int))) (Tr.ret (Sum.inr (Sum.inl ((-1 : Int), x1)))) (Tr.ite (decide ((191 : Int) < IntKind.i32.wrap (bt x0 x2))) (Tr.ret (Sum.inr (Sum.inl ((-1 : Int), x1)))) (Tr.ret (Sum.inl ((x0, IntKind.i32.wrap (IntKind.i32.wrap (IntKind.i32.wrap ((64 : Int) * x1) + IntKind.i32.wrap (bt x0 x2)) - (128 : Int)), IntKind.i64.wrap v1, ()), ())))))) Tr.fail) (Tr.ret (Sum.inr (Sum.inr x1)))
def X174_0 : (Int × Int ⊕ Int) → Ex × VS
  | (.inl r) => Prod.mk Ex.ret { n := 41, v := [Slot.av (AV.one (Leaf.dat (Kd.int IntKind.i32) r.fst)), Slot.av (AV.one (Leaf.dat (Kd.int IntKind.i32) r.snd))], h := [] }
  | (.inr r) => Prod.mk (Ex.exit ( 0)) { n := 41, v := [Slot.av (AV.one Leaf.undef), Slot.av (AV.one (Leaf.dat (Kd.int IntKind.i32) r))], h := [] }
def b174_0 : p174_0.T → Tr (p174_0.T ⊕ (Int × Int ⊕ Int)) := fun ⟨⟨x0, ⟨x1, ⟨x2, _⟩⟩⟩, _⟩ => B174_0 x0 x1 x2
theorem h174_0 (ls : Nat → VS → Option (Tr (Ex × VS))) (x : p174_0.T) : (evC (evI 2) (lc Tryd.f174 0) (Env.lend (M174 ls) 0) (unV (live174 3) (p174_0.V x))).map (decL 0 (live174 3) (live174 1003)) = (b174_0 x).map (encR p174_0.V X174_0) := by
  obtain ⟨⟨x0, ⟨x1, ⟨x2, _⟩⟩⟩, _⟩ := x; kernel_rfl
theorem c174_0 (x : p174_0.T) : canV 0 (live174 3) (unV (live174 3) (p174_0.V x)) = p174_0.V x := by
  obtain ⟨⟨x0, ⟨x1, ⟨x2, _⟩⟩⟩, _⟩ := x; kernel_rfl
theorem l174_0 {T : p174_0.T → Tr (Int × Int ⊕ Int)} {ls : Nat → VS → Option (Tr (Ex × VS))} (hls : ∀ x, (Env.lend (M174 ls) 0).ls 3 x = p174_0.ls (fun a => (T a).map X174_0) x) (hS : ∀ x r, (T x).val = some r → Rounds b174_0 x r) : LoopOK (evI 2) (Env.lend (M174 ls) 0) (lc Tryd.f174 0) :=
  loopA 3 (live174 3) (live174 1003) p174_0 b174_0 X174_0 T (by kernel_rfl) rfl rfl hls (h174_0 ls) c174_0 hS
end Go.Proofs.YtdlbnlbajnafdaaDoor
end
section
set_option linter.unusedVariables false
set_option linter.unusedSimpArgs false
set_option maxRecDepth 20000
open Go Go.Ev
namespace Go.Proofs.YtdlbnlbajnafdaaDoor
open Go.RowKit
def optI' : Option Nat → Int
  | some j => (j : Int)
  | none => -1
end Go.Proofs.YtdlbnlbajnafdaaDoor
end
section
set_option linter.unusedVariables false
set_option linter.unusedSimpArgs false
set_option maxRecDepth 20000
open Go Go.Ev
namespace Go.Proofs.YtdlbnlbajnafdaaDoor
def d172 (a : Int) : Tr (Int) :=
 Tr.ite (decide (a < (128 : Int))) (Tr.ret (1 : Int)) (Tr.ite (decide ((194 : Int) ≤ a)) (Tr.ite (decide (a < (224 : Int))) (Tr.ret (2 : Int)) (Tr.ite (decide ((224 : Int) ≤ a)) (Tr.ite (decide (a < (240 : Int))) (Tr.ret (3 : Int)) (Tr.ite (decide ((240 : Int) ≤ a)) (Tr.ite (decide (a < (245 : Int))) (Tr.ret (4 : Int)) (Tr.ret (0 : Int))) (Tr.ret (0 : Int)))) (Tr.ite (decide ((240 : Int) ≤ a)) (Tr.ite (decide (a < (245 : Int))) (Tr.ret (4 : Int)) (Tr.ret (0 : Int))) (Tr.ret (0 : Int))))) (Tr.ite (decide ((224 : Int) ≤ a)) (Tr.ite (decide (a < (240 : Int))) (Tr.ret (3 : Int)) (Tr.ite (decide ((240 : Int) ≤ a)) (Tr.ite (decide (a < (245 : Int))) (Tr.ret (4 : Int)) (Tr.ret (0 : Int))) (Tr.ret (0 : Int)))) (Tr.ite (decide ((240 : Int) ≤ a)) (Tr.ite (decide (a < (245 : Int))) (Tr.ret (4 : Int)) (Tr.ret (0 : Int))) (Tr.ret (0 : Int)))))
def e172 (r : Int) : FRes := { rs := Slot.av (AV.one (Leaf.dat (.int .i64) r)), upd := [], new := [] }
@[reducible] def a172 : List AK := [AK.d (Kd.int IntKind.u8)]
@[reducible] def b172 : List BK := []
theorem t172 (a : Int) : evFn (E0) Tryd.f172 [PM.data (.int .i64)] (akAV a172 (a, ())) (bkBs b172 ()) = (d172 a).map e172 := by kernel_rfl
def s172' (G : akT a172 → Int) : FSpec := aspec0 a172 b172 e172 (fun x _ => G x)
theorem k172' {G : akT a172 → Int} (hd : ∀ (a : Int), (d172 a).val = some (G (a, ()))) (IO : ItOK Tryd.prog (E0) := by exact itOK_none rfl) (L : ∀ c, Tryd.f172.body = some c → LsOK (evI 2) ((E0).lend 0) c := by exact fun c _ => LsOK_none rfl c) : SpecOK Tryd.prog E0 172 (s172' G) :=
  aspec0_ok (ak := a172) (bl := b172) (e := e172) (g := fun x _ => G x) (E0 := E0) (E := E0) tab .nil rfl rfl hm Tryd.func172 (by kernel_rfl) [PM.data (.int .i64)] (fun X Y => by obtain ⟨a, _⟩ := X; exact val_of (t172 a) (hd a)) IO L
abbrev w172 : FSpec := s172' fun x => U.need x.1
theorem wk172 : SpecOK Tryd.prog E0 172 w172 := by
  refine k172' fun a => ?_
  show _ = some (U.need a)
  simp only [d172, Tr.val, U.need]
  grind
end Go.Proofs.YtdlbnlbajnafdaaDoor
namespace U
def head (n : Nat) : Int := [(0 : Int), 0, 192, 224, 240].getD n 0
def vl (s : ByteArray) : Nat → Nat → Int → Int × Int ⊕ Int
  | 0, _, r => .inr r
  | k + 1, i, r => if cont (bt s i) = true then vl s k (i + 1) (64 * r + bt s i - 128) else .inl (-1, r)
def vL (s : ByteArray) : Int × Int ⊕ Int := if s.size = 1 then .inl (bt s 0, bt s 0 - head s.size) else vl s (s.size - 1) 1 (bt s 0 - head s.size)
def rv (s : ByteArray) : Int := match vL s with
  | .inr r => r
  | .inl p => p.1
end U
namespace Go.Proofs.YtdlbnlbajnafdaaDoor
def T174 (x : p174_0.T) : Tr (Int × Int ⊕ Int) :=
  .ite (decide (1 ≤ ByteArray.size x.1.1 ∧ ByteArray.size x.1.1 ≤ 4 ∧ (x.1.2.1 : Int) = 0 ∧ (x.1.2.2.1 : Int) = 0)) (.spl (U.vL x.1.1) (0, 0) 0) .fail
theorem r174 (s : ByteArray) (hs : s.size ≤ 4) : ∀ (k i : Nat) (r : Int), 1 ≤ i → i + k = s.size → (i = 1 → -300 ≤ r ∧ r ≤ 300) → (i = 2 → -20000 ≤ r ∧ r ≤ 20000) → (i = 3 → -1300000 ≤ r ∧ r ≤ 1300000) → Rounds b174_0 ((s, r, (i : Int), ()), ()) (U.vl s k i r)
  | 0, i, r, h1, h2, _, _, _ => by
    refine .exit ?_
    simp only [b174_0, B174_0, Tr.val, show ¬ ((i : Int) < (s.size : Int)) by omega, decide_false, cond_false]
    rfl
  | k + 1, i, r, h1, h2, g1, g2, g3 => by
    have b0 := bt_ge s i
    have b1 := bt_lt s i
    have hi : i = 1 ∨ i = 2 ∨ i = 3 := by omega
    have hr : -1300000 ≤ r ∧ r ≤ 1300000 := by
      rcases hi with h | h | h
      · have := g1 h; omega
      · have := g2 h; omega
      · exact g3 h
    have e0 : IntKind.i32.wrap (bt s i) = bt s i := w32 (by omega) (by omega)
    have e1 : IntKind.i32.wrap (64 * r) = 64 * r := w32 (by omega) (by omega)
    have e2 : IntKind.i32.wrap (64 * r + bt s i) = 64 * r + bt s i := w32 (by omega) (by omega)
    have e3 : IntKind.i32.wrap (64 * r + bt s i - 128) = 64 * r + bt s i - 128 := w32 (by omega) (by omega)
    simp only [U.vl]
    by_cases c1 : bt s i < 128
    · have : U.cont (bt s i) = false := by unfold U.cont; rw [decide_eq_false (show ¬ 128 ≤ bt s i by omega)]; rfl
      rw [this, if_neg (show ¬ false = true by simp)]
      refine .exit ?_
      simp only [b174_0, B174_0, Tr.val, e0, c1, inB_nat (show i < s.size by omega), show ((i : Int) < (s.size : Int)) by omega, show ¬ ((i : Int) = 0) by omega, decide_true, decide_false, cond_true, cond_false]
    · by_cases c2 : 191 < bt s i
      · have : U.cont (bt s i) = false := by unfold U.cont; rw [decide_eq_false (show ¬ bt s i ≤ 191 by omega), Bool.and_false]
        rw [this, if_neg (show ¬ false = true by simp)]
        refine .exit ?_
        simp only [b174_0, B174_0, Tr.val, e0, c1, c2, inB_nat (show i < s.size by omega), show ((i : Int) < (s.size : Int)) by omega, show ¬ ((i : Int) = 0) by omega, decide_true, decide_false, cond_true, cond_false]
      · have : U.cont (bt s i) = true := by unfold U.cont; rw [decide_eq_true (show 128 ≤ bt s i by omega), decide_eq_true (show bt s i ≤ 191 by omega)]; rfl
        rw [this, if_pos rfl]
        refine .step (y := ((s, 64 * r + bt s i - 128, ((i + 1 : Nat) : Int), ()), ())) ?_ (r174 s hs k (i + 1) _ (by omega) (by omega) (by omega) (fun h => ?_) (fun h => ?_))
        · simp only [b174_0, B174_0, Tr.val, e0, e1, e2, e3, c1, c2, inB_nat (show i < s.size by omega), show ((i : Int) < (s.size : Int)) by omega, show ¬ ((i : Int) = 0) by omega, decide_true, decide_false, cond_true, cond_false, wrap64_nat (show i ≤ 1048576 by omega)]
        · have := g1 (by omega)
          omega
        · have := g2 (by omega)
          omega
theorem head_le (n : Nat) : 0 ≤ U.head n ∧ U.head n ≤ 240 := by
  unfold U.head
  rcases n with _ | _ | _ | _ | _ | n <;> simp [List.getD]
abbrev E174 : Env := M174 fun key x => bif Nat.beq key 3 then p174_0.ls (fun a => (T174 a).map X174_0) x else none
theorem L174 : LoopOK (evI 2) (E174.lend 0) (lc Tryd.f174 0) := by
  refine l174_0 (T := T174) (fun x => rfl) ?_
  rintro ⟨⟨s, r0, i, z⟩, z'⟩ r h
  obtain ⟨h1, h2⟩ := pre_val h
  rw [Tr.val_spl] at h2
  cases h2
  obtain ⟨a, b, c, d⟩ := of_decide_eq_true h1
  dsimp only at a b c d
  subst c; subst d
  have b0 := bt_ge s 0
  have b1 := bt_lt s 0
  have hh := head_le s.size
  have e0 : IntKind.i32.wrap (bt s 0) = bt s 0 := w32 (by omega) (by omega)
  have e1 : IntKind.i32.wrap (bt s 0 - U.head s.size) = bt s 0 - U.head s.size := w32 (by omega) (by omega)
  unfold U.vL
  have e2 : bt s 0 - [(0 : Int), 0, 192, 224, 240].getD ((s.size : Int).toNat) 0 = bt s 0 - U.head s.size := by rw [Int.toNat_natCast]; rfl
  have i5 : inB (s.size : Int) 5 = true := inBi (by omega) (by omega)
  have i0 : inB 0 s.size = true := inBi (by omega) (by omega)
  by_cases hn : s.size = 1
  · rw [if_pos hn]
    refine .exit ?_
    have hd : decide ((s.size : Int) = 1) = true := decide_eq_true (by omega)
    simp only [b174_0, B174_0, Tr.val, e0, e1, e2, i5, i0, hd, show ((0 : Int) < (s.size : Int)) by omega, decide_true, decide_false, cond_true, cond_false]
  rw [if_neg hn]
  refine .step (y := ((s, bt s 0 - U.head s.size, ((1 : Nat) : Int), ()), ())) ?_ (r174 s b (s.size - 1) 1 _ (by omega) (by omega) (fun _ => by omega) (by omega) (by omega))
  have e3 : IntKind.i64.wrap (0 + 1) = ((1 : Nat) : Int) := by decide
  simp only [b174_0, B174_0, Tr.val, e0, e1, e2, e3, i5, i0, show ((0 : Int) < (s.size : Int)) by omega, show ¬ ((s.size : Int) = 1) by omega, decide_true, decide_false, cond_true, cond_false]
def d174 (a : ByteArray) : Tr (Int) :=
 Tr.ite (decide ((1 : Nat) ≤ a.size ∧ a.size ≤ (4 : Nat) ∧ (0 : Int) = (0 : Int) ∧ (0 : Int) = (0 : Int))) (Tr.ite (U.vL a).isLeft (Tr.ret ((U.vL a).getLeft?.getD ((0 : Int), (0 : Int))).fst) (Tr.ret ((U.vL a).getRight?.getD (0 : Int)))) Tr.fail
def e174 (r : Int) : FRes := { rs := Slot.av (AV.one (Leaf.dat (Kd.int IntKind.i32) r)), upd := [], new := [] }
@[reducible] def a174 : List AK := [AK.d Kd.str]
@[reducible] def b174 : List BK := []
theorem t174 (a : ByteArray) : evFn (E174) Tryd.f174 [PM.data (Kd.int IntKind.i32)] (akAV a174 (a, ())) (bkBs b174 ()) = (d174 a).map e174 := by kernel_rfl
def s174 (C : akT a174 → Bool) (G : akT a174 → Int) : FSpec := aspec a174 b174 e174 (fun x _ => C x) (fun x _ => G x)
theorem k174 {C : akT a174 → Bool} {G : akT a174 → Int} (hd : ∀ (a : ByteArray), C (a, ()) = true → (d174 a).val = some (G (a, ()))) (IO : ItOK Tryd.prog (E174) := by exact itOK_none rfl) (L : ∀ c, Tryd.f174.body = some c → LsOK (evI 2) ((E174).lend 0) c := by exact fun c _ => LsOK_none rfl c) : SpecOK Tryd.prog E0 174 (s174 C G) :=
  aspec_ok (ak := a174) (bl := b174) (e := e174) (c := fun x _ => C x) (g := fun x _ => G x) (E0 := E0) (E := E174) tab .nil rfl rfl hm Tryd.func174 (by kernel_rfl) [PM.data (Kd.int IntKind.i32)] (fun X Y H => by obtain ⟨a, _⟩ := X; exact val_of (t174 a) (hd a H)) IO L
abbrev w174 : FSpec := s174 (fun x => decide (1 ≤ ByteArray.size x.1 ∧ ByteArray.size x.1 ≤ 4)) fun x => U.rv x.1
theorem wk174 : SpecOK Tryd.prog E0 174 w174 := by
  refine k174 (fun s H => ?_) (L := ls_ok (lcs := [lc Tryd.f174 0]) (rgs := []) (by kernel_rfl) (by kernel_rfl) L174 trivial)
  obtain ⟨h1, h2⟩ : 1 ≤ s.size ∧ s.size ≤ 4 := of_decide_eq_true H
  show _ = some (U.rv s)
  simp only [d174, Tr.val, h1, h2, decide_true, and_self, cond_true]
  unfold U.rv
  cases U.vL s <;> rfl
abbrev G173 : List (Nat × FSpec) := [(174, w174)]
def live173 (key : Nat) : Lv :=
  bif Nat.beq key 10 then { ls := [1, 6, 7] } else bif Nat.beq key 1010 then { ls := [1, 6, 7] } else
  bif Nat.beq key 4 then { ls := [0, 1, 5] } else bif Nat.beq key 1004 then { ls := [0, 1, 4] } else
  { ls := [] }
abbrev M173 (ls : Nat → VS → Option (Tr (Ex × VS))) : Env := (E0.withFns G173).loops live173 ls
@[reducible] def p173_0 : LP := { n := 68, sl := [.d (Kd.str), .d (.int .i64), .d (.int .i64)], bl := [] }
def B173_0 (x0 : ByteArray) (x1 : Int) (x2 : Int) : Tr (p173_0.T ⊕ (ByteArray × Int ⊕ ByteArray × Int)) :=
 Tr.ite (decide (x2 < (↑x0.size : Int))) (Tr.ite (inB x2 x0.size) (Tr.ite (decide (bt x0 x2 < (128 : Int))) (Tr.ret (Sum.inr (Sum.inl (x0, x1)))) (Tr.ite (inB x2 x0.size) (Tr.ite (decide ((191 : Int) < bt x0 x2)) (Tr.ret (Sum.inr (Sum.inl (x0, x1)))) (Tr.ret (Sum.inl ((x0, x1, IntKind.i64.wrap (x2 + (1 : Int)), ()), ())))) Tr.fail)) Tr.fail) (Tr.ret (Sum.inr (Sum.inr (x0, x1))))
def X173_0 : (ByteArray × Int ⊕ ByteArray × Int) → Ex × VS
  | (.inl r) => Prod.mk Ex.ret { n := 68, v := [Slot.av (AV.one (Leaf.dat Kd.str r.fst)), Slot.av (AV.one (Leaf.dat (.int .i64) r.snd)), Slot.av (AV.one (Leaf.kb false))], h := [] }
  | (.inr r) => Prod.mk (Ex.exit ( 0)) { n := 68, v := [Slot.av (AV.one (Leaf.dat Kd.str r.fst)), Slot.av (AV.one (Leaf.dat (.int .i64) r.snd)), Slot.av (AV.one Leaf.undef)], h := [] }
def b173_0 : p173_0.T → Tr (p173_0.T ⊕ (ByteArray × Int ⊕ ByteArray × Int)) := fun ⟨⟨x0, ⟨x1, ⟨x2, _⟩⟩⟩, _⟩ => B173_0 x0 x1 x2
theorem h173_0 (ls : Nat → VS → Option (Tr (Ex × VS))) (x : p173_0.T) : (evC (evI 2) (lc Tryd.f173 0) (Env.lend (M173 ls) 0) (unV (live173 4) (p173_0.V x))).map (decL 0 (live173 4) (live173 1004)) = (b173_0 x).map (encR p173_0.V X173_0) := by
  obtain ⟨⟨x0, ⟨x1, ⟨x2, _⟩⟩⟩, _⟩ := x; kernel_rfl
theorem c173_0 (x : p173_0.T) : canV 0 (live173 4) (unV (live173 4) (p173_0.V x)) = p173_0.V x := by
  obtain ⟨⟨x0, ⟨x1, ⟨x2, _⟩⟩⟩, _⟩ := x; kernel_rfl
theorem l173_0 {T : p173_0.T → Tr (ByteArray × Int ⊕ ByteArray × Int)} {ls : Nat → VS → Option (Tr (Ex × VS))} (hls : ∀ x, (Env.lend (M173 ls) 0).ls 4 x = p173_0.ls (fun a => (T a).map X173_0) x) (hS : ∀ x r, (T x).val = some r → Rounds b173_0 x r) : LoopOK (evI 2) (Env.lend (M173 ls) 0) (lc Tryd.f173 0) :=
  loopA 4 (live173 4) (live173 1004) p173_0 b173_0 X173_0 T (by kernel_rfl) rfl rfl hls (h173_0 ls) c173_0 hS
def T173_0 (x : p173_0.T) : Tr (ByteArray × Int ⊕ ByteArray × Int) :=
  .ite (decide (1 ≤ ByteArray.size x.1.1 ∧ ByteArray.size x.1.1 ≤ 4 ∧ (x.1.2.2.1 : Int) = 1))
    (.ite (allN (fun i => U.cont (bt x.1.1 ((i + 1 : Nat) : Int))) (ByteArray.size x.1.1 - 1) 0) (.ret (.inr (x.1.1, x.1.2.1))) (.ret (.inl (x.1.1, x.1.2.1)))) .fail
abbrev N173 (ls : Nat → VS → Option (Tr (Ex × VS))) : Env := M173 fun key x => bif Nat.beq key 4 then p173_0.ls (fun a => (T173_0 a).map X173_0) x else ls key x
@[reducible] def p173_1 : LP := { n := 68, sl := [.d (.int .i64), .c (Leaf.row ( 0)), .c (Leaf.row ( 1))], bl := [(0, .row 5 (Kd.int IntKind.u8)), (1, .row 5 (Kd.int IntKind.u8))] }
def B173_1 (x0 : Int) (h0 : List Int) (h1 : List Int) : Tr (p173_1.T ⊕ (Int × List Int × List Int)) :=
 let v1 : Int := ((↑h0.length : Int))
 Tr.ite (decide (v1 < x0)) (Tr.ite (decide ((h0.length + (1 : Nat)) * (1 : Nat) ≤ (140737488355328 : Nat))) (Tr.ite (decide ((h1.length + (1 : Nat)) * (1 : Nat) ≤ (140737488355328 : Nat))) (Tr.ret (Sum.inl ((x0, ()), h0 ++ [(128 : Int)], h1 ++ [(191 : Int)], ()))) Tr.fail) Tr.fail) (Tr.ret (Sum.inr (x0, h0, h1)))
def X173_1 (r : (Int × List Int × List Int)) : Ex × VS := Prod.mk (Ex.exit ( 2)) { n := 68, v := [Slot.av (AV.one (Leaf.dat (.int .i64) r.fst)), Slot.av (AV.one (Leaf.row ( 0))), Slot.av (AV.one (Leaf.row ( 1)))], h := [( 0, Blk.row ( 5) (Kd.int IntKind.u8) r.snd.fst), ( 1, Blk.row ( 5) (Kd.int IntKind.u8) r.snd.snd)] }
def b173_1 : p173_1.T → Tr (p173_1.T ⊕ (Int × List Int × List Int)) := fun ⟨⟨x0, _⟩, ⟨h0, ⟨h1, _⟩⟩⟩ => B173_1 x0 h0 h1
theorem h173_1 (ls : Nat → VS → Option (Tr (Ex × VS))) (x : p173_1.T) : (evC (evI 2) (lc Tryd.f173 1) (Env.lend (N173 ls) 0) (unV (live173 10) (p173_1.V x))).map (decL 0 (live173 10) (live173 1010)) = (b173_1 x).map (encR p173_1.V X173_1) := by
  obtain ⟨⟨x0, _⟩, ⟨h0, ⟨h1, _⟩⟩⟩ := x; kernel_rfl
theorem c173_1 (x : p173_1.T) : canV 0 (live173 10) (unV (live173 10) (p173_1.V x)) = p173_1.V x := by
  obtain ⟨⟨x0, _⟩, ⟨h0, ⟨h1, _⟩⟩⟩ := x; kernel_rfl
theorem l173_1 {T : p173_1.T → Tr (Int × List Int × List Int)} {ls : Nat → VS → Option (Tr (Ex × VS))} (hls : ∀ x, (Env.lend (N173 ls) 0).ls 10 x = p173_1.ls (fun a => (T a).map X173_1) x) (hS : ∀ x r, (T x).val = some r → Rounds b173_1 x r) : LoopOK (evI 2) (Env.lend (N173 ls) 0) (lc Tryd.f173 1) :=
  loopA 10 (live173 10) (live173 1010) p173_1 b173_1 X173_1 T (by kernel_rfl) rfl rfl hls (h173_1 ls) c173_1 hS
theorem L173_0 {ls : Nat → VS → Option (Tr (Ex × VS))} : LoopOK (evI 2) ((N173 ls).lend 0) (lc Tryd.f173 0) := by
  refine l173_0 (T := T173_0) (fun x => rfl) ?_
  rintro ⟨⟨s, n, i, z⟩, z2⟩ r h
  obtain ⟨g1, g2⟩ := pre_val h
  obtain ⟨e1, e2, e3⟩ := of_decide_eq_true g1
  dsimp only at e1 e2 e3 g2
  subst e3
  have := Rounds.all (B := b173_0) (N := s.size - 1) (fun i => ((s, n, ((i + 1 : Nat) : Int), ()), ())) (fun i => U.cont (bt s ((i + 1 : Nat) : Int))) (.inl (s, n)) (.inr (s, n)) (fun i hi => ?_) ?_
  · cases hd : allN (fun i => U.cont (bt s ((i + 1 : Nat) : Int))) (s.size - 1) 0 <;> simp only [hd, Tr.val, cond_true, cond_false] at g2 this <;> cases g2 <;> exact this
  · have h1 : decide (((i + 1 : Nat) : Int) < (s.size : Int)) = true := decide_eq_true (by omega)
    have h2 : inB ((i + 1 : Nat) : Int) s.size = true := inB_nat (by omega)
    simp only [b173_0, B173_0, Tr.val, h1, h2, cond_true, wrap64_nat (show i + 1 ≤ 1048576 by omega)]
    unfold U.cont
    by_cases c1 : bt s ((i + 1 : Nat) : Int) < 128
    · simp only [c1, show ¬ 128 ≤ bt s ((i + 1 : Nat) : Int) by omega, decide_true, decide_false, cond_true, cond_false, Bool.false_and]
    · by_cases c2 : 191 < bt s ((i + 1 : Nat) : Int)
      · simp only [c1, c2, show ¬ bt s ((i + 1 : Nat) : Int) ≤ 191 by omega, decide_true, decide_false, cond_true, cond_false, Bool.and_false]
      · simp only [c1, c2, show bt s ((i + 1 : Nat) : Int) ≤ 191 by omega, show 128 ≤ bt s ((i + 1 : Nat) : Int) by omega, decide_true, decide_false, cond_true, cond_false, Bool.and_self]
  · have h1 : decide (((s.size - 1 + 1 : Nat) : Int) < (s.size : Int)) = false := decide_eq_false (by omega)
    simp only [b173_0, B173_0, Tr.val, h1, cond_false]
def fillTo (l : List Int) (n : Nat) (c : Int) : List Int := l ++ List.replicate (n - l.length) c
def T173_1 (x : p173_1.T) : Tr (Int × List Int × List Int) :=
  .ite (decide (0 ≤ (x.1.1 : Int) ∧ (x.1.1 : Int) ≤ 4 ∧ List.length (α := Int) x.2.1 = List.length (α := Int) x.2.2.1 ∧ List.length (α := Int) x.2.1 ≤ 4))
    (.ret (x.1.1, fillTo x.2.1 (Int.toNat x.1.1) 128, fillTo x.2.2.1 (Int.toNat x.1.1) 191)) .fail
theorem r173 (n : Nat) (hn : n ≤ 4) : ∀ (k : Nat) (l m : List Int), l.length = m.length → l.length ≤ 4 → n - l.length = k → Rounds b173_1 (((n : Int), ()), l, m, ()) ((n : Int), fillTo l n 128, fillTo m n 191)
  | 0, l, m, h1, h2, h3 => by
    refine .exit ?_
    have h4 : decide ((l.length : Int) < (n : Int)) = false := decide_eq_false (by omega)
    simp only [b173_1, B173_1, Tr.val, h4, cond_false, fillTo, h3, ← h1, List.replicate_zero, List.append_nil]
  | k + 1, l, m, h1, h2, h3 => by
    have ih := r173 n hn k (l ++ [128]) (m ++ [191]) (by simp [h1]) (by simp; omega) (by simp; omega)
    have e1 : fillTo (l ++ [128]) n 128 = fillTo l n 128 := by
      simp only [fillTo, List.length_append, List.length_singleton, List.append_assoc, List.singleton_append, ← List.replicate_succ]
      congr 2
      omega
    have e2 : fillTo (m ++ [191]) n 191 = fillTo m n 191 := by
      simp only [fillTo, List.length_append, List.length_singleton, List.append_assoc, List.singleton_append, ← List.replicate_succ]
      congr 2
      omega
    rw [e1, e2] at ih
    refine .step ?_ ih
    have h4 : decide ((l.length : Int) < (n : Int)) = true := decide_eq_true (by omega)
    simp only [b173_1, B173_1, Tr.val, h4, ← h1, show (l.length + 1) * 1 ≤ 140737488355328 by omega, decide_true, cond_true]
abbrev E173 : Env := N173 fun key x => bif Nat.beq key 10 then p173_1.ls (fun a => (T173_1 a).map X173_1) x else none
theorem L173_1 : LoopOK (evI 2) (E173.lend 0) (lc Tryd.f173 1) := by
  refine l173_1 (T := T173_1) (fun x => rfl) ?_
  rintro ⟨⟨n, z⟩, l, m, z2⟩ r h
  obtain ⟨g1, g2⟩ := pre_val h
  obtain ⟨e1, e2, e3, e4⟩ := of_decide_eq_true g1
  dsimp only at e1 e2 e3 e4 g2
  cases g2
  obtain ⟨k, rfl⟩ := Int.eq_ofNat_of_zero_le e1
  exact r173 k (Int.ofNat_le.1 e2) _ l m e3 e4 rfl
def d173 (a : ByteArray) (b : Int) : Tr (Bool) :=
 let v1 : List Int := (fillTo (bytesL a) b.toNat (191 : Int))
 let v2 : List Int := (fillTo (bytesL a) b.toNat (128 : Int))
 Tr.ite (decide (b < (↑a.size : Int))) (Tr.ret false) (Tr.ite (decide ((1 : Nat) ≤ a.size ∧ a.size ≤ (4 : Nat) ∧ (1 : Int) = (1 : Int))) (Tr.ite (allN (fun (i : Nat) => U.cont (bt a (↑(i + (1 : Nat)) : Int))) (a.size - (1 : Nat)) (0 : Nat)) (Tr.ite (decide (a.size ≤ (9223372036854775807 : Nat))) (Tr.ite (decide (a.size ≤ (9223372036854775807 : Nat))) (Tr.ite (decide ((0 : Int) ≤ b ∧ b ≤ (4 : Int) ∧ (bytesL a).length = (bytesL a).length ∧ (bytesL a).length ≤ (4 : Nat))) (Tr.ite (decide ((1 : Nat) ≤ (strOf v2).size ∧ (strOf v2).size ≤ (4 : Nat))) (Tr.ite (decide ((1 : Nat) ≤ (strOf v1).size ∧ (strOf v1).size ≤ (4 : Nat))) (Tr.ite (inB b (5 : Nat)) (Tr.ite (decide (U.rv (strOf v1) < [(0 : Int), (0 : Int), (128 : Int), (2048 : Int), (65536 : Int)].getD b.toNat (0 : Int))) (Tr.ret false) (Tr.ite (decide ((1114111 : Int) < U.rv (strOf v2))) (Tr.ret false) (Tr.ite (decide (U.rv (strOf v2) < (55296 : Int))) (Tr.ret true) (Tr.ret (decide ((57343 : Int) < U.rv (strOf v1))))))) Tr.fail) Tr.fail) Tr.fail) Tr.fail) Tr.fail) Tr.fail) (Tr.ret false)) Tr.fail)
def e173 (r : Bool) : FRes := { rs := Slot.av (AV.one (Leaf.dat Kd.bool r)), upd := [], new := [] }
@[reducible] def a173 : List AK := [AK.d Kd.str, AK.d (.int .i64)]
@[reducible] def b173 : List BK := []
theorem t173 (a : ByteArray) (b : Int) : evFn (E173) Tryd.f173 [PM.data Kd.bool] (akAV a173 (a, b, ())) (bkBs b173 ()) = (d173 a b).map e173 := by kernel_rfl
def s173 (C : akT a173 → Bool) (G : akT a173 → Bool) : FSpec := aspec a173 b173 e173 (fun x _ => C x) (fun x _ => G x)
theorem k173 {C : akT a173 → Bool} {G : akT a173 → Bool} (hd : ∀ (a : ByteArray) (b : Int), C (a, b, ()) = true → (d173 a b).val = some (G (a, b, ()))) (IO : ItOK Tryd.prog (E173) := by exact itOK_none rfl) (L : ∀ c, Tryd.f173.body = some c → LsOK (evI 2) ((E173).lend 0) c := by exact fun c _ => LsOK_none rfl c) : SpecOK Tryd.prog E0 173 (s173 C G) :=
  aspec_ok (ak := a173) (bl := b173) (e := e173) (c := fun x _ => C x) (g := fun x _ => G x) (E0 := E0) (E := E173) tab (.cons wk174 .nil) rfl rfl hm Tryd.func173 (by kernel_rfl) [PM.data Kd.bool] (fun X Y H => by obtain ⟨a, ⟨b, _⟩⟩ := X; exact val_of (t173 a b) (hd a b H)) IO L
end Go.Proofs.YtdlbnlbajnafdaaDoor
namespace U
def rng (lo hi fl : Int) : Bool := !(decide (hi < fl) || decide (1114111 < lo)) && (decide (lo < 55296) || decide (57343 < hi))
def floor (n : Nat) : Int := [(0 : Int), 0, 128, 2048, 65536].getD n 0
def beg (s : ByteArray) (n : Nat) : Bool := allN (fun i => cont (bt s ((i + 1 : Nat) : Int))) (s.size - 1) 0 &&
  rng (rv (strOf (Go.Proofs.YtdlbnlbajnafdaaDoor.fillTo (bytesL s) n 128))) (rv (strOf (Go.Proofs.YtdlbnlbajnafdaaDoor.fillTo (bytesL s) n 191))) (floor n)
end U
namespace Go.Proofs.YtdlbnlbajnafdaaDoor
abbrev w173 : FSpec := s173 (fun x => decide (1 ≤ ByteArray.size x.1 ∧ (ByteArray.size x.1 : Int) ≤ (x.2.1 : Int) ∧ 2 ≤ (x.2.1 : Int) ∧ (x.2.1 : Int) ≤ 4)) fun x => U.beg x.1 x.2.1.toNat
theorem bytesL_len (s : ByteArray) : (bytesL s).length = s.size := by unfold bytesL; rw [List.length_map]; rfl
theorem strOf_size (l : List Int) : (strOf l).size = l.length := by unfold strOf; simp [ByteArray.size]
theorem fillTo_len {l : List Int} {n : Nat} {c : Int} (h : l.length ≤ n) : (fillTo l n c).length = n := by simp [fillTo]; omega
theorem wk173 : SpecOK Tryd.prog E0 173 w173 := by
  refine k173 (fun s n H => ?_) (L := ls_ok (lcs := [lc Tryd.f173 0, lc Tryd.f173 1]) (rgs := []) (by kernel_rfl) (by kernel_rfl) ⟨L173_0, L173_1⟩ trivial)
  obtain ⟨h1, h2, h3, h4⟩ : 1 ≤ s.size ∧ (s.size : Int) ≤ n ∧ 2 ≤ n ∧ n ≤ 4 := of_decide_eq_true H
  obtain ⟨k, rfl⟩ := Int.eq_ofNat_of_zero_le (show 0 ≤ n by omega)
  show _ = some (U.beg s k)
  have hk : s.size ≤ k := by omega
  have hl : (bytesL s).length = s.size := bytesL_len s
  have f1 : (strOf (fillTo (bytesL s) k 128)).size = k := by rw [strOf_size, fillTo_len (by omega)]
  have f2 : (strOf (fillTo (bytesL s) k 191)).size = k := by rw [strOf_size, fillTo_len (by omega)]
  have a1 : decide ((k : Int) < (s.size : Int)) = false := decide_eq_false (by omega)
  have a2 : decide (1 ≤ s.size ∧ s.size ≤ 4 ∧ (1 : Int) = 1) = true := decide_eq_true ⟨h1, by omega, rfl⟩
  have a3 : decide (s.size ≤ 9223372036854775807) = true := decide_eq_true (by omega)
  have a4 : decide ((0 : Int) ≤ (k : Int) ∧ (k : Int) ≤ 4 ∧ (bytesL s).length = (bytesL s).length ∧ (bytesL s).length ≤ 4) = true := decide_eq_true ⟨by omega, by omega, rfl, by omega⟩
  have a5 : decide (1 ≤ k ∧ k ≤ 4) = true := decide_eq_true ⟨by omega, by omega⟩
  have i5 : inB (k : Int) 5 = true := inBi (by omega) (by omega)
  have hf : [(0 : Int), 0, 128, 2048, 65536].getD k 0 = U.floor k := rfl
  have h5 : s.size ≤ 4 := by omega
  have h6 : (bytesL s).length ≤ 4 := by omega
  have h7 : (0 : Int) ≤ (k : Int) := by omega
  simp only [d173, Tr.val, Int.toNat_natCast, f1, f2, a1, a3, a5, i5, hf, h1, h4, h5, h6, h7, and_self, decide_true, cond_true, cond_false]
  unfold U.beg U.rng
  cases allN (fun i => U.cont (bt s ((i + 1 : Nat) : Int))) (s.size - 1) 0 <;> cases decide (U.rv (strOf (fillTo (bytesL s) k 191)) < U.floor k) <;> cases decide (1114111 < U.rv (strOf (fillTo (bytesL s) k 128))) <;>
    cases decide (U.rv (strOf (fillTo (bytesL s) k 128)) < 55296) <;> rfl
abbrev G140 : List (Nat × FSpec) := [(172, w172), (173, w173), (174, w174)]
def live140 (key : Nat) : Lv :=
  bif Nat.beq key 7 then { ls := [0, 2, 3, 4] } else bif Nat.beq key 1007 then { ls := [0, 2, 3, 4] } else
  { ls := [] }
abbrev M140 (ls : Nat → VS → Option (Tr (Ex × VS))) : Env := (E0.withFns G140).loops live140 ls
@[reducible] def p140_0 : LP := { n := 50, sl := [.d (Kd.str), .c (Leaf.ptr ( 0) ( 0)), .d (.int .i64), .d (.int .i64)], bl := [(0, .box [.d (Kd.int IntKind.i32), .d (.int .i64), .d (.int .i64)])] }
def B140_0 (x0 : ByteArray) (x2 : Int) (x3 : Int) (h0_0 : Int) (h0_1 : Int) (h0_2 : Int) : Tr (p140_0.T ⊕ (ByteArray × Int × Int × Int × Int × Int)) :=
 let v1 : Int := (x3 + (1 : Int))
 let v2 : ByteArray := (x0.extract (0 : Nat) (IntKind.i64.wrap v1).toNat)
 Tr.ite (decide (x3 < x2)) (Tr.ite (decide (x3 < (↑x0.size : Int))) (Tr.ite (decide ((0 : Int) ≤ IntKind.i64.wrap v1 ∧ IntKind.i64.wrap v1 ≤ (↑x0.size : Int))) (Tr.ite (decide ((1 : Nat) ≤ v2.size ∧ (↑v2.size : Int) ≤ x2 ∧ (2 : Int) ≤ x2 ∧ x2 ≤ (4 : Int))) (Tr.ite (U.beg v2 x2.toNat) (Tr.ret (Sum.inl ((x0, x2, IntKind.i64.wrap v1, ()), (h0_0, h0_1, h0_2, ()), ()))) (Tr.ret (Sum.inr (x0, x2, x3, h0_0, h0_1, h0_2)))) Tr.fail) Tr.fail) (Tr.ret (Sum.inr (x0, x2, x3, h0_0, h0_1, h0_2)))) (Tr.ret (Sum.inr (x0, x2, x3, h0_0, h0_1, h0_2)))
def X140_0 (r : (ByteArray × Int × Int × Int × Int × Int)) : Ex × VS := Prod.mk (Ex.exit ( 0)) { n := 50, v := [Slot.av (AV.one (Leaf.dat Kd.str r.fst)), Slot.av (AV.one (Leaf.ptr ( 0) ( 0))), Slot.av (AV.one (Leaf.dat (.int .i64) r.snd.fst)), Slot.av (AV.one (Leaf.dat (.int .i64) r.snd.snd.fst))], h := [( 0, Blk.box [Leaf.dat (Kd.int IntKind.i32) r.snd.snd.snd.fst, Leaf.dat (.int .i64) r.snd.snd.snd.snd.fst, Leaf.dat (.int .i64) r.snd.snd.snd.snd.snd])] }
def b140_0 : p140_0.T → Tr (p140_0.T ⊕ (ByteArray × Int × Int × Int × Int × Int)) := fun ⟨⟨x0, ⟨x2, ⟨x3, _⟩⟩⟩, ⟨⟨h0_0, ⟨h0_1, ⟨h0_2, _⟩⟩⟩, _⟩⟩ => B140_0 x0 x2 x3 h0_0 h0_1 h0_2
theorem h140_0 (ls : Nat → VS → Option (Tr (Ex × VS))) (x : p140_0.T) : (evC (evI 2) (lc Tryd.f140 0) (Env.lend (M140 ls) 0) (unV (live140 7) (p140_0.V x))).map (decL 0 (live140 7) (live140 1007)) = (b140_0 x).map (encR p140_0.V X140_0) := by
  obtain ⟨⟨x0, ⟨x2, ⟨x3, _⟩⟩⟩, ⟨⟨h0_0, ⟨h0_1, ⟨h0_2, _⟩⟩⟩, _⟩⟩ := x; kernel_rfl
theorem c140_0 (x : p140_0.T) : canV 0 (live140 7) (unV (live140 7) (p140_0.V x)) = p140_0.V x := by
  obtain ⟨⟨x0, ⟨x2, ⟨x3, _⟩⟩⟩, ⟨⟨h0_0, ⟨h0_1, ⟨h0_2, _⟩⟩⟩, _⟩⟩ := x; kernel_rfl
theorem l140_0 {T : p140_0.T → Tr (ByteArray × Int × Int × Int × Int × Int)} {ls : Nat → VS → Option (Tr (Ex × VS))} (hls : ∀ x, (Env.lend (M140 ls) 0).ls 7 x = p140_0.ls (fun a => (T a).map X140_0) x) (hS : ∀ x r, (T x).val = some r → Rounds b140_0 x r) : LoopOK (evI 2) (Env.lend (M140 ls) 0) (lc Tryd.f140 0) :=
  loopA 7 (live140 7) (live140 1007) p140_0 b140_0 X140_0 T (by kernel_rfl) rfl rfl hls (h140_0 ls) c140_0 hS
end Go.Proofs.YtdlbnlbajnafdaaDoor
namespace U
def pref (s : ByteArray) (n : Nat) : Nat → Nat → Nat
  | 0, k => k
  | f + 1, k => bif decide (k < s.size) && beg (s.extract 0 (k + 1)) n then pref s n f (k + 1) else k
def firstR (s : ByteArray) : Int × Int × Int :=
  if s.size = 0 then (0, 0, 2) else if need (bt s 0) = 0 then (0, 1, 4) else
  let n := (need (bt s 0)).toNat
  let k := pref s n (n - 1) 1
  if k = n then (rv (s.extract 0 n), (n : Int), 0) else if k = s.size then (0, 0, 2) else (0, (k : Int), 4)
end U
namespace Go.Proofs.YtdlbnlbajnafdaaDoor
def T140 (x : p140_0.T) : Tr (ByteArray × Int × Int × Int × Int × Int) :=
  .ite (decide (1 ≤ (x.1.2.1 : Int) ∧ (x.1.2.1 : Int) ≤ 4 ∧ (x.1.2.2.1 : Int) = 1 ∧ 1 ≤ ByteArray.size x.1.1))
    (.ret (x.1.1, x.1.2.1, ((U.pref x.1.1 (Int.toNat x.1.2.1) (Int.toNat x.1.2.1 - 1) 1 : Nat) : Int), x.2.1.1, x.2.1.2.1, x.2.1.2.2.1)) .fail
theorem r140 (s : ByteArray) (n : Nat) (h0 h1 h2 : Int) (hn : n ≤ 4) : ∀ (f k : Nat), k + f = n → 1 ≤ k → k ≤ s.size → Rounds b140_0 ((s, (n : Int), (k : Int), ()), (h0, h1, h2, ()), ()) (s, (n : Int), ((U.pref s n f k : Nat) : Int), h0, h1, h2)
  | 0, k, h3, h4, h5 => by
    refine .exit ?_
    simp only [b140_0, B140_0, Tr.val, show ¬ ((k : Int) < (n : Int)) by omega, decide_false, cond_false, U.pref]
  | f + 1, k, h3, h4, h5 => by
    have w : IntKind.i64.wrap ((k : Int) + 1) = ((k + 1 : Nat) : Int) := wrap64_nat (by omega)
    simp only [U.pref]
    by_cases c1 : k < s.size
    · have hsz : (s.extract 0 (k + 1)).size = k + 1 := U.size_pre (by omega)
      cases c2 : U.beg (s.extract 0 (k + 1)) n with
      | true =>
        rw [decide_eq_true c1, Bool.and_self, cond_true]
        refine .step ?_ (r140 s n h0 h1 h2 hn f (k + 1) (by omega) (by omega) (by omega))
        simp only [b140_0, B140_0, Tr.val, w, Int.toNat_natCast, hsz, c2, show ((k : Int) < (n : Int)) by omega, show ((k : Int) < (s.size : Int)) by omega, show ((0 : Int) ≤ ((k + 1 : Nat) : Int)) by omega, show (((k + 1 : Nat) : Int) ≤ (s.size : Int)) by omega,
          show 1 ≤ k + 1 by omega, show (((k + 1 : Nat) : Int) ≤ (n : Int)) by omega, show ((2 : Int) ≤ (n : Int)) by omega, show ((n : Int) ≤ 4) by omega, and_self, decide_true, cond_true]
      | false =>
        rw [Bool.and_false, cond_false]
        refine .exit ?_
        simp only [b140_0, B140_0, Tr.val, w, Int.toNat_natCast, hsz, c2, show ((k : Int) < (n : Int)) by omega, show ((k : Int) < (s.size : Int)) by omega, show ((0 : Int) ≤ ((k + 1 : Nat) : Int)) by omega, show (((k + 1 : Nat) : Int) ≤ (s.size : Int)) by omega,
          show 1 ≤ k + 1 by omega, show (((k + 1 : Nat) : Int) ≤ (n : Int)) by omega, show ((2 : Int) ≤ (n : Int)) by omega, show ((n : Int) ≤ 4) by omega, and_self, decide_true, cond_true, cond_false]
    · rw [decide_eq_false c1, Bool.false_and, cond_false]
      refine .exit ?_
      simp only [b140_0, B140_0, Tr.val, show ((k : Int) < (n : Int)) by omega, show ¬ ((k : Int) < (s.size : Int)) by omega, decide_true, decide_false, cond_true, cond_false]
abbrev E140 : Env := M140 fun key x => bif Nat.beq key 7 then p140_0.ls (fun a => (T140 a).map X140_0) x else none
theorem L140 : LoopOK (evI 2) (E140.lend 0) (lc Tryd.f140 0) := by
  refine l140_0 (T := T140) (fun x => rfl) ?_
  rintro ⟨⟨s, n, k, z⟩, ⟨h0, h1, h2, z1⟩, z2⟩ r h
  obtain ⟨g1, g2⟩ := pre_val h
  obtain ⟨e1, e2, e3, e4⟩ := of_decide_eq_true g1
  dsimp only at e1 e2 e3 e4 g2
  subst e3
  cases g2
  obtain ⟨m, rfl⟩ := Int.eq_ofNat_of_zero_le (show (0 : Int) ≤ n from Int.le_trans (by omega) e1)
  have e1 : 1 ≤ m := Int.ofNat_le.1 e1
  have e2 : m ≤ 4 := Int.ofNat_le.1 e2
  exact r140 s m h0 h1 h2 e2 (m - 1) 1 (by omega) (by omega) e4
@[reducible] def fstk : Kd := .pr (.int .i32) (.pr (.int .i64) (.pr (.int .i64) .un))
def d140 (a : ByteArray) : Tr (Int × Int × Int) :=
 let v1 : Int := (bt a (0 : Int))
 let v2 : ByteArray := (a.extract (0 : Nat) (U.need v1).toNat)
 let v3 : Int := ((↑(U.pref a (U.need v1).toNat ((U.need v1).toNat - (1 : Nat)) (1 : Nat)) : Int))
 Tr.ite (decide ((↑a.size : Int) = (0 : Int))) (Tr.ret ((0 : Int), (0 : Int), (2 : Int))) (Tr.ite (inB (0 : Int) a.size) (Tr.ite (decide (U.need v1 = (0 : Int))) (Tr.ret ((0 : Int), (1 : Int), (4 : Int))) (Tr.ite (decide ((1 : Int) ≤ U.need v1 ∧ U.need v1 ≤ (4 : Int) ∧ (1 : Int) = (1 : Int) ∧ (1 : Nat) ≤ a.size)) (Tr.ite (decide (v3 = U.need v1)) (Tr.ite (decide ((0 : Int) ≤ U.need v1 ∧ U.need v1 ≤ (↑a.size : Int))) (Tr.ite (decide ((1 : Nat) ≤ v2.size ∧ v2.size ≤ (4 : Nat))) (Tr.ret (U.rv v2, U.need v1, (0 : Int))) Tr.fail) Tr.fail) (Tr.ite (decide (v3 = (↑a.size : Int))) (Tr.ret ((0 : Int), (0 : Int), (2 : Int))) (Tr.ret ((0 : Int), v3, (4 : Int))))) Tr.fail)) Tr.fail)
def e140 (r : Int × Int × Int) : FRes := { rs := Slot.av (AV.agg [Leaf.dat (Kd.int IntKind.i32) r.fst, Leaf.dat (.int .i64) r.snd.fst, Leaf.dat (.int .i64) r.snd.snd]), upd := [], new := [] }
@[reducible] def a140 : List AK := [AK.d Kd.str]
@[reducible] def b140 : List BK := []
theorem t140 (a : ByteArray) : evFn (E140) Tryd.f140 [PM.data fstk] (akAV a140 (a, ())) (bkBs b140 ()) = (d140 a).map e140 := by kernel_rfl
def s140 (C : akT a140 → Bool) (G : akT a140 → Int × Int × Int) : FSpec := aspec a140 b140 e140 (fun x _ => C x) (fun x _ => G x)
theorem k140 {C : akT a140 → Bool} {G : akT a140 → Int × Int × Int} (hd : ∀ (a : ByteArray), C (a, ()) = true → (d140 a).val = some (G (a, ()))) (IO : ItOK Tryd.prog (E140) := by exact itOK_none rfl) (L : ∀ c, Tryd.f140.body = some c → LsOK (evI 2) ((E140).lend 0) c := by exact fun c _ => LsOK_none rfl c) : SpecOK Tryd.prog E0 140 (s140 C G) :=
  aspec_ok (ak := a140) (bl := b140) (e := e140) (c := fun x _ => C x) (g := fun x _ => G x) (E0 := E0) (E := E140) tab (.cons wk172 (.cons wk173 (.cons wk174 .nil))) rfl rfl hm Tryd.func140 (by kernel_rfl) [PM.data fstk] (fun X Y H => by obtain ⟨a, _⟩ := X; exact val_of (t140 a) (hd a H)) IO L
abbrev w140 : FSpec := s140 (fun x => decide (ByteArray.size x.1 ≤ 1048576)) fun x => U.firstR x.1
theorem pref_le (s : ByteArray) (n : Nat) : ∀ f k, k ≤ s.size → U.pref s n f k ≤ s.size
  | 0, k, h => h
  | f + 1, k, h => by
    simp only [U.pref]
    by_cases c : k < s.size
    · have := pref_le s n f (k + 1) (by omega)
      cases U.beg (s.extract 0 (k + 1)) n <;> simp only [decide_eq_true c, Bool.and_true, Bool.and_false, cond_true, cond_false] <;> omega
    · simp only [decide_eq_false c, Bool.false_and, cond_false]; omega
theorem wk140 : SpecOK Tryd.prog E0 140 w140 := by
  refine k140 (fun s H => ?_) (L := ls_ok (lcs := [lc Tryd.f140 0]) (rgs := []) (by kernel_rfl) (by kernel_rfl) L140 trivial)
  have h0 : s.size ≤ 1048576 := of_decide_eq_true H
  show _ = some (U.firstR s)
  unfold U.firstR
  by_cases h1 : s.size = 0
  · have hd : decide ((s.size : Int) = 0) = true := decide_eq_true (by omega)
    simp only [d140, Tr.val, hd, cond_true, if_pos h1]
  · have i0 : inB 0 s.size = true := inBi (by omega) (by omega)
    have hN := U.need_cases (bt s 0)
    by_cases h2 : U.need (bt s 0) = 0
    · have hd : decide ((s.size : Int) = 0) = false := decide_eq_false (by omega)
      simp only [d140, Tr.val, hd, i0, h2, decide_true, cond_true, cond_false, if_neg h1, if_true]
    · obtain ⟨n, hn⟩ : ∃ n : Nat, U.need (bt s 0) = (n : Int) := Int.eq_ofNat_of_zero_le (by omega)
      have hn1 : 1 ≤ n ∧ n ≤ 4 := by omega
      have hd : decide ((s.size : Int) = 0) = false := decide_eq_false (by omega)
      have hd2 : decide ((n : Int) = 0) = false := decide_eq_false (by omega)
      have hd3 : ((1 : Int) ≤ (n : Int)) := by omega
      have hd4 : ((n : Int) ≤ 4) := by omega
      have hd5 : 1 ≤ s.size := by omega
      rw [hn] at h2
      simp only [d140, Tr.val, hd, i0, hn, hd2, hd3, hd4, hd5, Int.toNat_natCast, decide_true, and_self, cond_true, cond_false, if_neg h1, if_neg h2]
      by_cases h3 : U.pref s n (n - 1) 1 = n
      · have h4 := pref_le s n (n - 1) 1 hd5
        have hsz : (s.extract 0 n).size = n := U.size_pre (by omega)
        have hd6 : ((n : Int) ≤ (s.size : Int)) := by omega
        have hd7 : ((0 : Int) ≤ (n : Int)) := by omega
        simp only [h3, hsz, hd6, hd7, hn1.1, hn1.2, decide_true, and_self, cond_true, if_true]
      · have hd8 : decide (((U.pref s n (n - 1) 1 : Nat) : Int) = (n : Int)) = false := decide_eq_false (by omega)
        by_cases h4 : U.pref s n (n - 1) 1 = s.size
        · have hd9 : decide (((U.pref s n (n - 1) 1 : Nat) : Int) = (s.size : Int)) = true := decide_eq_true (by omega)
          simp only [hd8, hd9, cond_true, cond_false, if_neg h3, if_pos h4]
        · have hd9 : decide (((U.pref s n (n - 1) 1 : Nat) : Int) = (s.size : Int)) = false := decide_eq_false (by omega)
          simp only [hd8, hd9, cond_false, if_neg h3, if_neg h4]
end Go.Proofs.YtdlbnlbajnafdaaDoor
end
section
set_option linter.unusedVariables false
set_option linter.unusedSimpArgs false
set_option maxRecDepth 20000
open Go Go.Ev
namespace U
open Go.Proofs.YtdlbnlbajnafdaaDoor
theorem bt_strOf {l : List Int} (h : ∀ x ∈ l, 0 ≤ x ∧ x ≤ 255) {i : Nat} (hi : i < l.length) : bt (strOf l) (i : Int) = l.getD i 0 := by
  rw [bt_eq (by omega)]
  have e : bl (strOf l) = l.map fun n => UInt8.ofNat n.toNat := by unfold strOf; rw [bl_mk]
  obtain ⟨h0, h1⟩ := h l[i] (List.getElem_mem hi)
  rw [e, Int.toNat_natCast, getD_el (by simpa using hi), List.getElem_map, getD_el hi]
  show ((UInt8.ofNat l[i].toNat).toNat : Int) = l[i]
  rw [UInt8.toNat_ofNat']
  have : l[i].toNat % 2 ^ 8 = l[i].toNat := Nat.mod_eq_of_lt (by omega)
  rw [this]
  omega
theorem bytesL_at {s : ByteArray} {i : Nat} (hi : i < s.size) : (bytesL s).getD i 0 = bt s (i : Int) := by
  have h2 : i < s.data.toList.length := by
    have := bl_len s
    unfold bl at this
    omega
  rw [bt_eq (by omega), Int.toNat_natCast]
  unfold bytesL bl
  rw [List.getD_eq_getElem?_getD, List.getD_eq_getElem?_getD, List.getElem?_map, List.getElem?_eq_getElem h2]
  rfl
theorem bytesL_in {s : ByteArray} : ∀ x ∈ bytesL s, 0 ≤ x ∧ x ≤ 255 := by
  intro x hx
  unfold bytesL at hx
  obtain ⟨b, _, rfl⟩ := List.mem_map.1 hx
  have := UInt8.toNat_lt b
  omega
theorem fill_at {s : ByteArray} {n : Nat} {c : Int} (hc : 0 ≤ c ∧ c ≤ 255) (hs : s.size ≤ n) {i : Nat} (hi : i < n) : bt (strOf (fillTo (bytesL s) n c)) (i : Int) = if i < s.size then bt s (i : Int) else c := by
  have hl : (bytesL s).length = s.size := Ev.bytesL_len
  rw [bt_strOf (fun x hx => ?_) (by rw [fillTo_len (by omega)]; exact hi)]
  · unfold fillTo
    by_cases h : i < s.size
    · rw [if_pos h, ← bytesL_at h, List.getD_eq_getElem?_getD, List.getD_eq_getElem?_getD, List.getElem?_append_left (by omega)]
    · rw [if_neg h, List.getD_eq_getElem?_getD, List.getElem?_append_right (by omega), List.getElem?_replicate, if_pos (by omega)]
      rfl
  · rcases List.mem_append.1 hx with hx | hx
    · exact bytesL_in x hx
    · rw [List.eq_of_mem_replicate hx]; exact hc
theorem fill_size {s : ByteArray} {n : Nat} {c : Int} (hs : s.size ≤ n) : (strOf (fillTo (bytesL s) n c)).size = n := by
  rw [strOf_size, fillTo_len (by rw [Ev.bytesL_len]; exact hs)]
theorem rv2 {s : ByteArray} (h : s.size = 2) : rv s = if cont (bt s (1 : Nat)) = true then 64 * (bt s 0 - 192) + bt s (1 : Nat) - 128 else -1 := by
  unfold rv vL
  rw [h, if_neg (by omega)]
  simp only [vl, head, List.getD, show (2 : Nat) - 1 = 0 + 1 from rfl]
  by_cases h1 : cont (bt s (1 : Nat)) = true <;> simp_all
theorem rv3 {s : ByteArray} (h : s.size = 3) : rv s = if cont (bt s (1 : Nat)) = true ∧ cont (bt s (2 : Nat)) = true then 64 * (64 * (bt s 0 - 224) + bt s (1 : Nat) - 128) + bt s (2 : Nat) - 128 else -1 := by
  unfold rv vL
  rw [h, if_neg (by omega)]
  simp only [vl, head, List.getD, show (3 : Nat) - 1 = 0 + 1 + 1 from rfl]
  by_cases h1 : cont (bt s (1 : Nat)) = true <;> by_cases h2 : cont (bt s (2 : Nat)) = true <;> simp_all
theorem rv4 {s : ByteArray} (h : s.size = 4) : rv s = if cont (bt s (1 : Nat)) = true ∧ cont (bt s (2 : Nat)) = true ∧ cont (bt s (3 : Nat)) = true then 64 * (64 * (64 * (bt s 0 - 240) + bt s (1 : Nat) - 128) + bt s (2 : Nat) - 128) + bt s (3 : Nat) - 128 else -1 := by
  unfold rv vL
  rw [h, if_neg (by omega)]
  simp only [vl, head, List.getD, show (4 : Nat) - 1 = 0 + 1 + 1 + 1 from rfl]
  by_cases h1 : cont (bt s (1 : Nat)) = true <;> by_cases h2 : cont (bt s (2 : Nat)) = true <;> by_cases h3 : cont (bt s (3 : Nat)) = true <;> simp_all
theorem cont_iff {c : Int} : cont c = true ↔ 128 ≤ c ∧ c ≤ 191 := by simp [cont]
theorem beg2 {s : ByteArray} {n : Nat} (hn : need (bt s 0) = n) (h2 : 2 ≤ n) (hs : 2 ≤ s.size) : beg (s.extract 0 2) n = ok1 s := by
  have hz : (s.extract 0 2).size = 2 := size_pre hs
  have t0 : bt (s.extract 0 2) 0 = bt s 0 := bt_pre (i := 0) (by omega) hs
  have t1 : bt (s.extract 0 2) (1 : Nat) = bt s (1 : Nat) := bt_pre (i := 1) (by omega) hs
  have F : ∀ (c : Int), 0 ≤ c ∧ c ≤ 255 → ∀ i, i < n → bt (strOf (fillTo (bytesL (s.extract 0 2)) n c)) (i : Nat) = if i < 2 then bt (s.extract 0 2) (i : Nat) else c := fun c hc i hi => by
    rw [fill_at hc (by omega) hi, hz]
  have Z : ∀ c, (strOf (fillTo (bytesL (s.extract 0 2)) n c)).size = n := fun c => fill_size (by omega)
  have b1 := bt_ge s (1 : Nat)
  have b2 := bt_lt s (1 : Nat)
  have hN := need_cases (bt s 0)
  have e1 : bt s 1 = bt s (1 : Nat) := rfl
  unfold beg ok1
  rw [hz, e1]
  have ha : allN (fun i => cont (bt (s.extract 0 2) ((i + 1 : Nat) : Int))) (2 - 1) 0 = cont (bt s (1 : Nat)) := by
    show (cont (bt (s.extract 0 2) ((0 + 1 : Nat) : Int)) && true) = _
    rw [Bool.and_true]
    exact congrArg cont t1
  rw [ha]
  have hc8 : cont 128 = true := by decide
  have hc9 : cont 191 = true := by decide
  have f0 : ∀ c, 0 ≤ c ∧ c ≤ 255 → bt (strOf (fillTo (bytesL (s.extract 0 2)) n c)) 0 = bt s 0 := fun c hc => (F c hc 0 (by omega)).trans (by rw [if_pos (by omega)]; exact t0)
  have f1 : ∀ c, 0 ≤ c ∧ c ≤ 255 → bt (strOf (fillTo (bytesL (s.extract 0 2)) n c)) (1 : Nat) = bt s (1 : Nat) := fun c hc => (F c hc 1 (by omega)).trans (by rw [if_pos (by omega)]; exact t1)
  have f2 : ∀ c, 0 ≤ c ∧ c ≤ 255 → 3 ≤ n → bt (strOf (fillTo (bytesL (s.extract 0 2)) n c)) (2 : Nat) = c := fun c hc h => (F c hc 2 (by omega)).trans (by rw [if_neg (by omega)])
  have f3 : ∀ c, 0 ≤ c ∧ c ≤ 255 → 4 ≤ n → bt (strOf (fillTo (bytesL (s.extract 0 2)) n c)) (3 : Nat) = c := fun c hc h => (F c hc 3 (by omega)).trans (by rw [if_neg (by omega)])
  cases hcb : cont (bt s (1 : Nat)) with
  | false =>
    have h1 := lo_ge (bt s 0)
    have h2 := hi_le (bt s 0)
    have : ¬ (128 ≤ bt s (1 : Nat) ∧ bt s (1 : Nat) ≤ 191) := fun h => by rw [cont_iff.2 h] at hcb; cases hcb
    rw [Bool.false_and, eq_comm, Bool.and_eq_false_iff, decide_eq_false_iff_not, decide_eq_false_iff_not]
    omega
  | true =>
    have h1 := cont_iff.1 hcb
    rw [Bool.true_and]
    have hn3 : n = 2 ∨ n = 3 ∨ n = 4 := by omega
    rcases hn3 with rfl | rfl | rfl
    · rw [rv2 (Z 128), rv2 (Z 191), f0 _ (by omega), f0 _ (by omega), f1 _ (by omega), f1 _ (by omega), if_pos hcb]
      rw [Bool.eq_iff_iff, show floor 2 = 128 from rfl]
      simp only [rng, lo, hi, Bool.and_eq_true, Bool.not_eq_true', Bool.or_eq_false_iff, decide_eq_false_iff_not, decide_eq_true_eq, Bool.or_eq_true]
      repeat' split
      all_goals simp only [decide_eq_true_eq]
      all_goals omega
    · rw [rv3 (Z 128), rv3 (Z 191), f0 _ (by omega), f0 _ (by omega), f1 _ (by omega), f1 _ (by omega), f2 _ (by omega) (by omega), f2 _ (by omega) (by omega), if_pos ⟨hcb, hc8⟩, if_pos ⟨hcb, hc9⟩]
      rw [Bool.eq_iff_iff, show floor 3 = 2048 from rfl]
      simp only [rng, lo, hi, Bool.and_eq_true, Bool.not_eq_true', Bool.or_eq_false_iff, decide_eq_false_iff_not, decide_eq_true_eq, Bool.or_eq_true]
      repeat' split
      all_goals simp only [decide_eq_true_eq]
      all_goals omega
    · rw [rv4 (Z 128), rv4 (Z 191), f0 _ (by omega), f0 _ (by omega), f1 _ (by omega), f1 _ (by omega), f2 _ (by omega) (by omega), f2 _ (by omega) (by omega), f3 _ (by omega) (by omega), f3 _ (by omega) (by omega), if_pos ⟨hcb, hc8, hc8⟩, if_pos ⟨hcb, hc9, hc9⟩]
      rw [Bool.eq_iff_iff, show floor 4 = 65536 from rfl]
      simp only [rng, lo, hi, Bool.and_eq_true, Bool.not_eq_true', Bool.or_eq_false_iff, decide_eq_false_iff_not, decide_eq_true_eq, Bool.or_eq_true]
      repeat' split
      all_goals simp only [decide_eq_true_eq]
      all_goals omega
theorem beg3 {s : ByteArray} {n : Nat} (hn : need (bt s 0) = n) (h2 : 3 ≤ n) (hs : 3 ≤ s.size) (ho : ok1 s = true) : beg (s.extract 0 3) n = cont (bt s (2 : Nat)) := by
  have hz : (s.extract 0 3).size = 3 := size_pre hs
  have t0 : bt (s.extract 0 3) 0 = bt s 0 := bt_pre (i := 0) (by omega) hs
  have t1 : bt (s.extract 0 3) (1 : Nat) = bt s (1 : Nat) := bt_pre (i := 1) (by omega) hs
  have t2 : bt (s.extract 0 3) (2 : Nat) = bt s (2 : Nat) := bt_pre (i := 2) (by omega) hs
  have F : ∀ (c : Int), 0 ≤ c ∧ c ≤ 255 → ∀ i, i < n → bt (strOf (fillTo (bytesL (s.extract 0 3)) n c)) (i : Nat) = if i < 3 then bt (s.extract 0 3) (i : Nat) else c := fun c hc i hi => by
    rw [fill_at hc (by omega) hi, hz]
  have Z : ∀ c, (strOf (fillTo (bytesL (s.extract 0 3)) n c)).size = n := fun c => fill_size (by omega)
  have hN := need_cases (bt s 0)
  have b3 := bt_ge s (2 : Nat)
  have hl := lo_ge (bt s 0)
  have hh := hi_le (bt s 0)
  unfold ok1 at ho
  simp only [Bool.and_eq_true, decide_eq_true_eq] at ho
  have e1 : bt s 1 = bt s (1 : Nat) := rfl
  rw [e1] at ho
  have hcb : cont (bt s (1 : Nat)) = true := cont_iff.2 (by omega)
  unfold beg
  rw [hz]
  have ha : allN (fun i => cont (bt (s.extract 0 3) ((i + 1 : Nat) : Int))) (3 - 1) 0 = cont (bt s (2 : Nat)) := by
    show (cont (bt (s.extract 0 3) ((0 + 1 : Nat) : Int)) && (cont (bt (s.extract 0 3) ((1 + 1 : Nat) : Int)) && true)) = _
    rw [Bool.and_true, show cont (bt (s.extract 0 3) ((0 + 1 : Nat) : Int)) = true from (congrArg cont t1).trans hcb, Bool.true_and]
    exact congrArg cont t2
  rw [ha]
  have hc8 : cont 128 = true := by decide
  have hc9 : cont 191 = true := by decide
  have f0 : ∀ c, 0 ≤ c ∧ c ≤ 255 → bt (strOf (fillTo (bytesL (s.extract 0 3)) n c)) 0 = bt s 0 := fun c hc => (F c hc 0 (by omega)).trans (by rw [if_pos (by omega)]; exact t0)
  have f1 : ∀ c, 0 ≤ c ∧ c ≤ 255 → bt (strOf (fillTo (bytesL (s.extract 0 3)) n c)) (1 : Nat) = bt s (1 : Nat) := fun c hc => (F c hc 1 (by omega)).trans (by rw [if_pos (by omega)]; exact t1)
  have f2 : ∀ c, 0 ≤ c ∧ c ≤ 255 → bt (strOf (fillTo (bytesL (s.extract 0 3)) n c)) (2 : Nat) = bt s (2 : Nat) := fun c hc => (F c hc 2 (by omega)).trans (by rw [if_pos (by omega)]; exact t2)
  have f3 : ∀ c, 0 ≤ c ∧ c ≤ 255 → 4 ≤ n → bt (strOf (fillTo (bytesL (s.extract 0 3)) n c)) (3 : Nat) = c := fun c hc h => (F c hc 3 (by omega)).trans (by rw [if_neg (by omega)])
  cases hcb2 : cont (bt s (2 : Nat)) with
  | false => rfl
  | true =>
    have h1 := cont_iff.1 hcb2
    rw [Bool.true_and]
    have hn3 : n = 3 ∨ n = 4 := by omega
    rcases hn3 with rfl | rfl
    · rw [rv3 (Z 128), rv3 (Z 191), f0 _ (by omega), f0 _ (by omega), f1 _ (by omega), f1 _ (by omega), f2 _ (by omega), f2 _ (by omega), if_pos ⟨hcb, hcb2⟩]
      simp only [rng, show floor 3 = 2048 from rfl, Bool.and_eq_true, Bool.not_eq_true', Bool.or_eq_false_iff, decide_eq_false_iff_not, decide_eq_true_eq, Bool.or_eq_true]
      unfold lo hi at ho
      repeat' split at ho
      all_goals omega
    · rw [rv4 (Z 128), rv4 (Z 191), f0 _ (by omega), f0 _ (by omega), f1 _ (by omega), f1 _ (by omega), f2 _ (by omega), f2 _ (by omega), f3 _ (by omega) (by omega), f3 _ (by omega) (by omega), if_pos ⟨hcb, hcb2, hc8⟩, if_pos ⟨hcb, hcb2, hc9⟩]
      simp only [rng, show floor 4 = 65536 from rfl, Bool.and_eq_true, Bool.not_eq_true', Bool.or_eq_false_iff, decide_eq_false_iff_not, decide_eq_true_eq, Bool.or_eq_true]
      unfold lo hi at ho
      repeat' split at ho
      all_goals omega
theorem beg4 {s : ByteArray} (hn : need (bt s 0) = 4) (hs : 4 ≤ s.size) (ho : ok1 s = true) (hc : cont (bt s (2 : Nat)) = true) : beg (s.extract 0 4) 4 = cont (bt s (3 : Nat)) := by
  have hz : (s.extract 0 4).size = 4 := size_pre hs
  have t0 : bt (s.extract 0 4) 0 = bt s 0 := bt_pre (i := 0) (by omega) hs
  have t1 : bt (s.extract 0 4) (1 : Nat) = bt s (1 : Nat) := bt_pre (i := 1) (by omega) hs
  have t2 : bt (s.extract 0 4) (2 : Nat) = bt s (2 : Nat) := bt_pre (i := 2) (by omega) hs
  have t3 : bt (s.extract 0 4) (3 : Nat) = bt s (3 : Nat) := bt_pre (i := 3) (by omega) hs
  have F : ∀ (c : Int), 0 ≤ c ∧ c ≤ 255 → ∀ i, i < 4 → bt (strOf (fillTo (bytesL (s.extract 0 4)) 4 c)) (i : Nat) = bt (s.extract 0 4) (i : Nat) := fun c hc i hi => by
    rw [fill_at hc (by omega) hi, hz, if_pos hi]
  have Z : ∀ c, (strOf (fillTo (bytesL (s.extract 0 4)) 4 c)).size = 4 := fun c => fill_size (by omega)
  have hN := need_cases (bt s 0)
  have hl := lo_ge (bt s 0)
  have hh := hi_le (bt s 0)
  unfold ok1 at ho
  simp only [Bool.and_eq_true, decide_eq_true_eq] at ho
  have e1 : bt s 1 = bt s (1 : Nat) := rfl
  rw [e1] at ho
  have hcb : cont (bt s (1 : Nat)) = true := cont_iff.2 (by omega)
  unfold beg
  rw [hz]
  have ha : allN (fun i => cont (bt (s.extract 0 4) ((i + 1 : Nat) : Int))) (4 - 1) 0 = cont (bt s (3 : Nat)) := by
    show (cont (bt (s.extract 0 4) ((0 + 1 : Nat) : Int)) && (cont (bt (s.extract 0 4) ((1 + 1 : Nat) : Int)) && (cont (bt (s.extract 0 4) ((2 + 1 : Nat) : Int)) && true))) = _
    rw [Bool.and_true, show cont (bt (s.extract 0 4) ((0 + 1 : Nat) : Int)) = true from (congrArg cont t1).trans hcb, show cont (bt (s.extract 0 4) ((1 + 1 : Nat) : Int)) = true from (congrArg cont t2).trans hc, Bool.true_and, Bool.true_and]
    exact congrArg cont t3
  rw [ha]
  have f0 : ∀ c, 0 ≤ c ∧ c ≤ 255 → bt (strOf (fillTo (bytesL (s.extract 0 4)) 4 c)) 0 = bt s 0 := fun c hc => (F c hc 0 (by omega)).trans t0
  have f1 : ∀ c, 0 ≤ c ∧ c ≤ 255 → bt (strOf (fillTo (bytesL (s.extract 0 4)) 4 c)) (1 : Nat) = bt s (1 : Nat) := fun c hc => (F c hc 1 (by omega)).trans t1
  have f2 : ∀ c, 0 ≤ c ∧ c ≤ 255 → bt (strOf (fillTo (bytesL (s.extract 0 4)) 4 c)) (2 : Nat) = bt s (2 : Nat) := fun c hc => (F c hc 2 (by omega)).trans t2
  have f3 : ∀ c, 0 ≤ c ∧ c ≤ 255 → bt (strOf (fillTo (bytesL (s.extract 0 4)) 4 c)) (3 : Nat) = bt s (3 : Nat) := fun c hc => (F c hc 3 (by omega)).trans t3
  cases hcb2 : cont (bt s (3 : Nat)) with
  | false => rfl
  | true =>
    have h1 := cont_iff.1 hcb2
    have h2 := cont_iff.1 hc
    rw [Bool.true_and, rv4 (Z 128), rv4 (Z 191), f0 _ (by omega), f0 _ (by omega), f1 _ (by omega), f1 _ (by omega), f2 _ (by omega), f2 _ (by omega), f3 _ (by omega), f3 _ (by omega), if_pos ⟨hcb, hc, hcb2⟩]
    simp only [rng, show floor 4 = 65536 from rfl, Bool.and_eq_true, Bool.not_eq_true', Bool.or_eq_false_iff, decide_eq_false_iff_not, decide_eq_true_eq, Bool.or_eq_true]
    unfold lo hi at ho
    repeat' split at ho
    all_goals omega
theorem rvx1 {s : ByteArray} (h : 1 ≤ s.size) : rv (s.extract 0 1) = bt s 0 := by
  have hz : (s.extract 0 1).size = 1 := size_pre h
  unfold rv vL
  rw [if_pos hz]
  exact bt_pre (i := 0) (by omega) h
theorem rvx2 {s : ByteArray} (h : 2 ≤ s.size) (h1 : cont (bt s (1 : Nat)) = true) : rv (s.extract 0 2) = val2 s := by
  rw [rv2 (size_pre h), show bt (s.extract 0 2) (1 : Nat) = bt s (1 : Nat) from bt_pre (i := 1) (by omega) h, show bt (s.extract 0 2) 0 = bt s 0 from bt_pre (i := 0) (by omega) h, if_pos h1]
  unfold val2
  show _ = (bt s 0 - 192) * 64 + (bt s (1 : Nat) - 128)
  omega
theorem rvx3 {s : ByteArray} (h : 3 ≤ s.size) (h1 : cont (bt s (1 : Nat)) = true) (h2 : cont (bt s (2 : Nat)) = true) : rv (s.extract 0 3) = val3 s := by
  rw [rv3 (size_pre h), show bt (s.extract 0 3) (1 : Nat) = bt s (1 : Nat) from bt_pre (i := 1) (by omega) h, show bt (s.extract 0 3) (2 : Nat) = bt s (2 : Nat) from bt_pre (i := 2) (by omega) h, show bt (s.extract 0 3) 0 = bt s 0 from bt_pre (i := 0) (by omega) h, if_pos ⟨h1, h2⟩]
  unfold val3
  show _ = (bt s 0 - 224) * 4096 + (bt s (1 : Nat) - 128) * 64 + (bt s (2 : Nat) - 128)
  omega
theorem rvx4 {s : ByteArray} (h : 4 ≤ s.size) (h1 : cont (bt s (1 : Nat)) = true) (h2 : cont (bt s (2 : Nat)) = true) (h3 : cont (bt s (3 : Nat)) = true) : rv (s.extract 0 4) = val4 s := by
  rw [rv4 (size_pre h), show bt (s.extract 0 4) (1 : Nat) = bt s (1 : Nat) from bt_pre (i := 1) (by omega) h, show bt (s.extract 0 4) (2 : Nat) = bt s (2 : Nat) from bt_pre (i := 2) (by omega) h, show bt (s.extract 0 4) (3 : Nat) = bt s (3 : Nat) from bt_pre (i := 3) (by omega) h,
    show bt (s.extract 0 4) 0 = bt s 0 from bt_pre (i := 0) (by omega) h, if_pos ⟨h1, h2, h3⟩]
  unfold val4
  show _ = (bt s 0 - 240) * 262144 + (bt s (1 : Nat) - 128) * 4096 + (bt s (2 : Nat) - 128) * 64 + (bt s (3 : Nat) - 128)
  omega
theorem ok1_cont {s : ByteArray} (ho : ok1 s = true) : cont (bt s (1 : Nat)) = true := by
  have hl := lo_ge (bt s 0)
  have hh := hi_le (bt s 0)
  unfold ok1 at ho
  simp only [Bool.and_eq_true, decide_eq_true_eq] at ho
  exact cont_iff.2 ⟨by have := ho.1; show 128 ≤ bt s 1; omega, by have := ho.2; show bt s 1 ≤ 191; omega⟩
theorem firstR_eq (s : ByteArray) : firstR s = first s := by
  have c2 : bt s 2 = bt s (2 : Nat) := rfl
  have c3 : bt s 3 = bt s (3 : Nat) := rfl
  unfold firstR first
  by_cases h0 : s.size = 0
  · have : full s = false := by unfold full; rw [decide_eq_true h0]; rfl
    rw [if_pos h0, this]; rfl
  rw [if_neg h0]
  have d0 : decide (s.size = 0) = false := decide_eq_false h0
  rcases need_cases (bt s 0) with ⟨hn, hb⟩ | hn | ⟨hn, hb⟩ | ⟨hn, hb⟩ | ⟨hn, hb⟩
  · have f : full s = true := by unfold full; rw [d0, hn, decide_eq_true (show (1 : Int) ≤ (s.size : Int) by omega)]; rfl
    have d : dec s = (bt s 0, 1) := by unfold dec; rw [d0, hn]; rfl
    have l : isL s = true := by unfold isL; rw [d, decide_eq_false (show ¬ (bt s 0, (1 : Int)).1 = 65533 by show ¬ bt s 0 = 65533; omega)]; rfl
    rw [if_neg (by omega), f, l, d, hn]
    show (if pref s 1 0 1 = 1 then (rv (s.extract 0 1), (1 : Int), (0 : Int)) else if pref s 1 0 1 = s.size then (0, 0, 2) else (0, ((pref s 1 0 1 : Nat) : Int), (4 : Int))) = _
    rw [if_pos (show pref s 1 0 1 = 1 from rfl), rvx1 (by omega)]
    rfl
  · have f : full s = true := by unfold full; rw [d0, hn, decide_eq_true (show (0 : Int) ≤ (s.size : Int) by omega)]; rfl
    have d : dec s = (65533, 1) := by unfold dec; rw [d0, hn]; rfl
    have l : isL s = false := by unfold isL; rw [d]; rfl
    have b : bad s = 1 := by unfold bad; rw [hn]; rfl
    rw [if_pos hn, f, l, b]; rfl
  · rw [if_neg (by omega), hn]
    show (if pref s 2 1 1 = 2 then (rv (s.extract 0 2), (2 : Int), (0 : Int)) else if pref s 2 1 1 = s.size then (0, 0, 2) else (0, ((pref s 2 1 1 : Nat) : Int), (4 : Int))) = _
    by_cases h1 : 1 < s.size
    · have f : full s = true := by unfold full; rw [d0, hn, decide_eq_true (show (2 : Int) ≤ (s.size : Int) by omega)]; rfl
      have dz : decide ((s.size : Int) < 2) = false := decide_eq_false (by omega)
      cases ho : ok1 s with
      | true =>
        have p : pref s 2 1 1 = 2 := by simp only [pref, decide_eq_true h1, beg2 (n := 2) hn (by omega) (by omega), ho, Bool.and_self, cond_true]
        have d : dec s = (val2 s, 2) := by unfold dec; rw [d0, hn, dz, ho]; rfl
        have l : isL s = true := by unfold isL; rw [d, decide_eq_true (show (1 : Int) < ((val2 s, (2 : Int)) : Int × Int).2 from (by decide : (1 : Int) < 2)), Bool.or_true]
        rw [p, if_pos rfl, rvx2 (by omega) (ok1_cont ho), f, l, d]
        rfl
      | false =>
        have p : pref s 2 1 1 = 1 := by simp only [pref, decide_eq_true h1, beg2 (n := 2) hn (by omega) (by omega), ho, Bool.and_false, cond_false]
        have d : dec s = (65533, 1) := by unfold dec; rw [d0, hn, dz, ho]; rfl
        have l : isL s = false := by unfold isL; rw [d]; rfl
        have b : bad s = 1 := by unfold bad; rw [hn, ho]; rfl
        rw [p, if_neg (by omega), if_neg (by omega), f, l, b]; rfl
    · have p : pref s 2 1 1 = 1 := by simp only [pref, decide_eq_false h1, Bool.false_and, cond_false]
      have f : full s = false := by unfold full; rw [d0, hn, decide_eq_false (show ¬ (2 : Int) ≤ (s.size : Int) by omega), decide_eq_false h1, decide_eq_false (show ¬ 2 < s.size by omega)]; rfl
      rw [p, if_neg (by omega), if_pos (by omega), f]; rfl
  · rw [if_neg (by omega), hn]
    show (if pref s 3 2 1 = 3 then (rv (s.extract 0 3), (3 : Int), (0 : Int)) else if pref s 3 2 1 = s.size then (0, 0, 2) else (0, ((pref s 3 2 1 : Nat) : Int), (4 : Int))) = _
    by_cases h1 : 1 < s.size
    · cases ho : ok1 s with
      | true =>
        by_cases h2 : 2 < s.size
        · have f : full s = true := by unfold full; rw [d0, hn, decide_eq_true (show (3 : Int) ≤ (s.size : Int) by omega)]; rfl
          have dz : decide ((s.size : Int) < 3) = false := decide_eq_false (by omega)
          cases hc : cont (bt s (2 : Nat)) with
          | true =>
            have p : pref s 3 2 1 = 3 := by simp only [pref, decide_eq_true h1, decide_eq_true h2, beg2 (n := 3) hn (by omega) (by omega), beg3 (n := 3) hn (by omega) (by omega) ho, ho, hc, Bool.and_self, cond_true]
            have d : dec s = (val3 s, 3) := by unfold dec; rw [d0, hn, dz, ho, c2, hc]; rfl
            have l : isL s = true := by unfold isL; rw [d, decide_eq_true (show (1 : Int) < ((val3 s, (3 : Int)) : Int × Int).2 from (by decide : (1 : Int) < 3)), Bool.or_true]
            rw [p, if_pos rfl, rvx3 (by omega) (ok1_cont ho) hc, f, l, d]
            rfl
          | false =>
            have p : pref s 3 2 1 = 2 := by simp only [pref, decide_eq_true h1, decide_eq_true h2, beg2 (n := 3) hn (by omega) (by omega), beg3 (n := 3) hn (by omega) (by omega) ho, ho, hc, Bool.and_self, Bool.and_false, cond_true, cond_false]
            have d : dec s = (65533, 1) := by unfold dec; rw [d0, hn, dz, ho, c2, hc]; rfl
            have l : isL s = false := by unfold isL; rw [d]; rfl
            have b : bad s = 2 := by unfold bad; rw [hn, ho, c2, hc]; rfl
            rw [p, if_neg (by omega), if_neg (by omega), f, l, b]; rfl
        · have p : pref s 3 2 1 = 2 := by simp only [pref, decide_eq_true h1, decide_eq_false h2, beg2 (n := 3) hn (by omega) (by omega), ho, Bool.and_self, Bool.false_and, cond_true, cond_false]
          have f : full s = false := by unfold full; rw [d0, hn, decide_eq_false (show ¬ (3 : Int) ≤ (s.size : Int) by omega), decide_eq_true h1, decide_eq_false h2, ho]; rfl
          rw [p, if_neg (by omega), if_pos (by omega), f]; rfl
      | false =>
        have p : pref s 3 2 1 = 1 := by simp only [pref, decide_eq_true h1, beg2 (n := 3) hn (by omega) (by omega), ho, Bool.and_false, cond_false]
        have f : full s = true := by
          unfold full
          rw [d0, decide_eq_true h1, ho]
          cases decide (need (bt s 0) ≤ (s.size : Int)) <;> rfl
        have d : dec s = (65533, 1) := by
          unfold dec
          rw [d0, hn, ho]
          cases decide ((s.size : Int) < 3) <;> rfl
        have l : isL s = false := by unfold isL; rw [d]; rfl
        have b : bad s = 1 := by unfold bad; rw [hn, ho]; rfl
        rw [p, if_neg (by omega), if_neg (by omega), f, l, b]; rfl
    · have p : pref s 3 2 1 = 1 := by simp only [pref, decide_eq_false h1, Bool.false_and, cond_false]
      have f : full s = false := by unfold full; rw [d0, hn, decide_eq_false (show ¬ (3 : Int) ≤ (s.size : Int) by omega), decide_eq_false h1, decide_eq_false (show ¬ 2 < s.size by omega)]; rfl
      rw [p, if_neg (by omega), if_pos (by omega), f]; rfl
  · rw [if_neg (by omega), hn]
    show (if pref s 4 3 1 = 4 then (rv (s.extract 0 4), (4 : Int), (0 : Int)) else if pref s 4 3 1 = s.size then (0, 0, 2) else (0, ((pref s 4 3 1 : Nat) : Int), (4 : Int))) = _
    by_cases h1 : 1 < s.size
    · cases ho : ok1 s with
      | true =>
        by_cases h2 : 2 < s.size
        · cases hc : cont (bt s (2 : Nat)) with
          | true =>
            by_cases h3 : 3 < s.size
            · have f : full s = true := by unfold full; rw [d0, hn, decide_eq_true (show (4 : Int) ≤ (s.size : Int) by omega)]; rfl
              have dz : decide ((s.size : Int) < 4) = false := decide_eq_false (by omega)
              cases hd : cont (bt s (3 : Nat)) with
              | true =>
                have p : pref s 4 3 1 = 4 := by simp only [pref, decide_eq_true h1, decide_eq_true h2, decide_eq_true h3, beg2 (n := 4) hn (by omega) (by omega), beg3 (n := 4) hn (by omega) (by omega) ho, beg4 hn (by omega) ho hc, ho, hc, hd, Bool.and_self, cond_true]
                have d : dec s = (val4 s, 4) := by unfold dec; rw [d0, hn, dz, ho, c2, hc, c3, hd]; rfl
                have l : isL s = true := by unfold isL; rw [d, decide_eq_true (show (1 : Int) < ((val4 s, (4 : Int)) : Int × Int).2 from (by decide : (1 : Int) < 4)), Bool.or_true]
                rw [p, if_pos rfl, rvx4 (by omega) (ok1_cont ho) hc hd, f, l, d]
                rfl
              | false =>
                have p : pref s 4 3 1 = 3 := by simp only [pref, decide_eq_true h1, decide_eq_true h2, decide_eq_true h3, beg2 (n := 4) hn (by omega) (by omega), beg3 (n := 4) hn (by omega) (by omega) ho, beg4 hn (by omega) ho hc, ho, hc, hd, Bool.and_self, Bool.and_false, cond_true, cond_false]
                have d : dec s = (65533, 1) := by unfold dec; rw [d0, hn, dz, ho, c2, hc, c3, hd]; rfl
                have l : isL s = false := by unfold isL; rw [d]; rfl
                have b : bad s = 3 := by unfold bad; rw [hn, ho, c2, hc]; rfl
                rw [p, if_neg (by omega), if_neg (by omega), f, l, b]; rfl
            · have p : pref s 4 3 1 = 3 := by simp only [pref, decide_eq_true h1, decide_eq_true h2, decide_eq_false h3, beg2 (n := 4) hn (by omega) (by omega), beg3 (n := 4) hn (by omega) (by omega) ho, ho, hc, Bool.and_self, Bool.false_and, cond_true, cond_false]
              have f : full s = false := by unfold full; rw [d0, hn, decide_eq_false (show ¬ (4 : Int) ≤ (s.size : Int) by omega), decide_eq_true h1, decide_eq_true h2, ho, c2, hc]; rfl
              rw [p, if_neg (by omega), if_pos (by omega), f]; rfl
          | false =>
            have p : pref s 4 3 1 = 2 := by simp only [pref, decide_eq_true h1, decide_eq_true h2, beg2 (n := 4) hn (by omega) (by omega), beg3 (n := 4) hn (by omega) (by omega) ho, ho, hc, Bool.and_self, Bool.and_false, cond_true, cond_false]
            have f : full s = true := by
              unfold full
              rw [d0, decide_eq_true h1, decide_eq_true h2, ho, c2, hc]
              cases decide (need (bt s 0) ≤ (s.size : Int)) <;> rfl
            have d : dec s = (65533, 1) := by
              unfold dec
              rw [d0, hn, ho, c2, hc]
              cases decide ((s.size : Int) < 4) <;> rfl
            have l : isL s = false := by unfold isL; rw [d]; rfl
            have b : bad s = 2 := by unfold bad; rw [hn, ho, c2, hc]; rfl
            rw [p, if_neg (by omega), if_neg (by omega), f, l, b]; rfl
        · have p : pref s 4 3 1 = 2 := by simp only [pref, decide_eq_true h1, decide_eq_false h2, beg2 (n := 4) hn (by omega) (by omega), ho, Bool.and_self, Bool.false_and, cond_true, cond_false]
          have f : full s = false := by unfold full; rw [d0, hn, decide_eq_false (show ¬ (4 : Int) ≤ (s.size : Int) by omega), decide_eq_true h1, decide_eq_false h2, ho]; rfl
          rw [p, if_neg (by omega), if_pos (by omega), f]; rfl
      | false =>
        have p : pref s 4 3 1 = 1 := by simp only [pref, decide_eq_true h1, beg2 (n := 4) hn (by omega) (by omega), ho, Bool.and_false, cond_false]
        have f : full s = true := by
          unfold full
          rw [d0, decide_eq_true h1, ho]
          cases decide (need (bt s 0) ≤ (s.size : Int)) <;> rfl
        have d : dec s = (65533, 1) := by
          unfold dec
          rw [d0, hn, ho]
          cases decide ((s.size : Int) < 4) <;> rfl
        have l : isL s = false := by unfold isL; rw [d]; rfl
        have b : bad s = 1 := by unfold bad; rw [hn, ho]; rfl
        rw [p, if_neg (by omega), if_neg (by omega), f, l, b]; rfl
    · have p : pref s 4 3 1 = 1 := by simp only [pref, decide_eq_false h1, Bool.false_and, cond_false]
      have f : full s = false := by unfold full; rw [d0, hn, decide_eq_false (show ¬ (4 : Int) ≤ (s.size : Int) by omega), decide_eq_false h1, decide_eq_false (show ¬ 2 < s.size by omega)]; rfl
      rw [p, if_neg (by omega), if_pos (by omega), f]; rfl
end U
end
section
set_option linter.unusedVariables false
set_option linter.unusedSimpArgs false
set_option maxRecDepth 20000
set_option maxHeartbeats 4000000
open Go Go.Ev
namespace Go.Proofs.YtdlbnlbajnafdaaDoor
open Go.RowKit
def w175 : FSpec := { ps := [.raw], g := fun args bs => match args with
  | [.one (.ptr 0 0)] => some { rs := .av (.one (.ptr 0 0)), upd := bs }
  | _ => none }
theorem wk175 : SpecOK Tryd.prog E0 175 w175 := by
  intro F O args bs r hr
  unfold w175 at hr
  simp only at hr
  split at hr
  · cases hr
    intro hc w K A vs H hv
    cases hv with
    | cons h0 h1 =>
      cases h1
      rename_i v
      refine .inl ⟨v, w, ?_, K, A, by rw [List.append_nil]; exact H, by rw [List.append_nil]; exact Ext.refl _ _ _ _, by rw [List.append_nil]; exact h0, rfl⟩
      rw [run_callFunc_extern Tryd.func175 (by kernel_rfl) (by kernel_rfl) (by kernel_rfl) (e := Extern.AbiNoEscape.same) (by kernel_rfl)]
      rw [Lib.run_noEscape]
      rfl
  · cases hr
abbrev bldZ : List BK := [.tb 143 [.c .nils]]
def live144 (key : Nat) : Lv :=
  { ls := [] }
def d144 (h0_u : Bool) (h1 : List Int) : Tr (Bool × List Int) :=
 Tr.ite (!h0_u) (Tr.ret (true, h1)) (Tr.ite (!h0_u) Tr.fail (Tr.ret (h0_u, h1)))
def e144 (r : Bool × List Int) : FRes := { rs := Slot.tup [], upd := [Blk.tb ( 143) r.fst [Leaf.srow ( 1)], Blk.row ( 5) (Kd.int IntKind.u8) r.snd], new := [] }
@[reducible] def a144 : List AK := [AK.c (Leaf.ptr (0 : Nat) (0 : Nat))]
@[reducible] def b144 : List BK := [BK.tb (143 : TypeId) [SK.c (Leaf.srow (1 : Nat))], BK.row (5 : TypeId) (Kd.int IntKind.u8)]
theorem t144 (h0_u : Bool) (h1 : List Int) : evFn (Env.loops (Env.withFns E0 [((175 : Nat), w175)]) live144 fun (x : Nat) (x_1 : VS) => none) Tryd.f144 [] (akAV a144 ()) (bkBs b144 ((h0_u, ()), h1, ())) = (d144 h0_u h1).map e144 := by kernel_rfl
def s144' (G : akT a144 → bksT b144 → Bool × List Int) : FSpec := aspec0 a144 b144 e144 (G)
theorem k144' {G : akT a144 → bksT b144 → Bool × List Int} (hd : ∀ (h0_u : Bool) (h1 : List Int), (d144 h0_u h1).val = some (G () ((h0_u, ()), h1, ()))) (IO : ItOK Tryd.prog (Env.loops (Env.withFns E0 [((175 : Nat), w175)]) live144 fun (x : Nat) (x_1 : VS) => none) := by exact itOK_none rfl) (L : ∀ c, Tryd.f144.body = some c → LsOK (evI 2) ((Env.loops (Env.withFns E0 [((175 : Nat), w175)]) live144 fun (x : Nat) (x_1 : VS) => none).lend 2) c := by exact fun c _ => LsOK_none rfl c) : SpecOK Tryd.prog E0 144 (s144' G) :=
  aspec0_ok (ak := a144) (bl := b144) (e := e144) (g := G) (E0 := E0) (E := Env.loops (Env.withFns E0 [((175 : Nat), w175)]) live144 fun (x : Nat) (x_1 : VS) => none) tab (.cons wk175 .nil) rfl rfl hm Tryd.func144 (by kernel_rfl) [] (fun X Y => by obtain ⟨⟨h0_u, _⟩, ⟨h1, _⟩⟩ := Y; exact val_of (t144 h0_u h1) (hd h0_u h1)) IO L
abbrev w144 : FSpec := s144' fun _ y => (true, y.2.1)
theorem wk144 : SpecOK Tryd.prog E0 144 w144 := k144' fun u h => by cases u <;> rfl
namespace Z
def d144 (h0_u : Bool) : Tr (Bool) :=
 Tr.ite (!h0_u) (Tr.ret true) (Tr.ite (!h0_u) Tr.fail (Tr.ret h0_u))
def e144 (r : Bool) : FRes := { rs := Slot.tup [], upd := [Blk.tb ( 143) r [Leaf.nils]], new := [] }
@[reducible] def a144 : List AK := [AK.c (Leaf.ptr (0 : Nat) (0 : Nat))]
@[reducible] def b144 : List BK := [BK.tb (143 : TypeId) [SK.c Leaf.nils]]
theorem t144 (h0_u : Bool) : evFn (Env.withFns E0 [((175 : Nat), w175)]) Tryd.f144 [] (akAV a144 ()) (bkBs b144 ((h0_u, ()), ())) = (d144 h0_u).map e144 := by kernel_rfl
def s144' (G : akT a144 → bksT b144 → Bool) : FSpec := aspec0 a144 b144 e144 (G)
theorem k144' {G : akT a144 → bksT b144 → Bool} (hd : ∀ (h0_u : Bool), (d144 h0_u).val = some (G () ((h0_u, ()), ()))) (IO : ItOK Tryd.prog (Env.withFns E0 [((175 : Nat), w175)]) := by exact itOK_none rfl) (L : ∀ c, Tryd.f144.body = some c → LsOK (evI 2) ((Env.withFns E0 [((175 : Nat), w175)]).lend 1) c := by exact fun c _ => LsOK_none rfl c) : SpecOK Tryd.prog E0 144 (s144' G) :=
  aspec0_ok (ak := a144) (bl := b144) (e := e144) (g := G) (E0 := E0) (E := Env.withFns E0 [((175 : Nat), w175)]) tab (.cons wk175 .nil) rfl rfl hm Tryd.func144 (by kernel_rfl) [] (fun X Y => by obtain ⟨⟨h0_u, _⟩, _⟩ := Y; exact val_of (t144 h0_u) (hd h0_u)) IO L
abbrev w144 : FSpec := s144' fun _ _ => true
theorem wk144 : SpecOK Tryd.prog E0 144 w144 := k144' fun u => by cases u <;> rfl
end Z
def live89 (key : Nat) : Lv :=
  bif Nat.beq key 9996 then { ls := [14] } else
  { ls := [] }
def d89 (b : ByteArray) (h0_u : Bool) (h1 : List Int) : Tr (Int × Bool × List Int) :=
 Tr.ite (decide (List.length h1 + ByteArray.size b ≤ (140737488355328 : Nat))) (Tr.ret ((↑(ByteArray.size b) : Int), true, h1 ++ bytesL b)) Tr.fail
def e89 (r : Int × Bool × List Int) : FRes := { rs := Slot.tup [AV.one (Leaf.dat (.int .i64) r.fst), AV.one Leaf.nili], upd := [Blk.tb ( 143) r.snd.fst [Leaf.srow ( 2)], Blk.dead], new := [Blk.row ( 5) (Kd.int IntKind.u8) r.snd.snd] }
@[reducible] def a89 : List AK := [AK.c (Leaf.ptr (0 : Nat) (0 : Nat)), AK.d Kd.str]
@[reducible] def b89 : List BK := [BK.tb (143 : TypeId) [SK.c (Leaf.srow (1 : Nat))], BK.row (5 : TypeId) (Kd.int IntKind.u8)]
theorem t89 (b : ByteArray) (h0_u : Bool) (h1 : List Int) : evFn (Env.loops (Env.withFns E0 [((144 : Nat), w144)]) live89 fun (x : Nat) (x_1 : VS) => none) Tryd.f89 [PM.data (.int .i64), PM.raw] (akAV a89 (b, ())) (bkBs b89 ((h0_u, ()), h1, ())) = (d89 b h0_u h1).map e89 := by kernel_rfl
def s89 (C : akT a89 → bksT b89 → Bool) (G : akT a89 → bksT b89 → Int × Bool × List Int) : FSpec := aspec a89 b89 e89 (C) (G)
theorem k89 {C : akT a89 → bksT b89 → Bool} {G : akT a89 → bksT b89 → Int × Bool × List Int} (hd : ∀ (b : ByteArray) (h0_u : Bool) (h1 : List Int), C (b, ()) ((h0_u, ()), h1, ()) = true → (d89 b h0_u h1).val = some (G (b, ()) ((h0_u, ()), h1, ()))) (IO : ItOK Tryd.prog (Env.loops (Env.withFns E0 [((144 : Nat), w144)]) live89 fun (x : Nat) (x_1 : VS) => none) := by exact itOK_none rfl) (L : ∀ c, Tryd.f89.body = some c → LsOK (evI 2) ((Env.loops (Env.withFns E0 [((144 : Nat), w144)]) live89 fun (x : Nat) (x_1 : VS) => none).lend 2) c := by exact fun c _ => LsOK_none rfl c) : SpecOK Tryd.prog E0 89 (s89 C G) :=
  aspec_ok (ak := a89) (bl := b89) (e := e89) (c := C) (g := G) (E0 := E0) (E := Env.loops (Env.withFns E0 [((144 : Nat), w144)]) live89 fun (x : Nat) (x_1 : VS) => none) tab (.cons wk144 .nil) rfl rfl hm Tryd.func89 (by kernel_rfl) [PM.data (.int .i64), PM.raw] (fun X Y H => by obtain ⟨b, _⟩ := X; obtain ⟨⟨h0_u, _⟩, ⟨h1, _⟩⟩ := Y; exact val_of (t89 b h0_u h1) (hd b h0_u h1 H)) IO L
def live137 (key : Nat) : Lv :=
  bif Nat.beq key 9996 then { ls := [14] } else
  { ls := [] }
def d137 (b : Int) (h0_u : Bool) (h1 : List Int) : Tr (Bool × List Int) :=
 Tr.ite (decide ((List.length h1 + (1 : Nat)) * (1 : Nat) ≤ (140737488355328 : Nat))) (Tr.ret (true, h1 ++ [b])) Tr.fail
def e137 (r : Bool × List Int) : FRes := { rs := Slot.av (AV.one Leaf.nili), upd := [Blk.tb ( 143) r.fst [Leaf.srow ( 2)], Blk.dead], new := [Blk.row ( 5) (Kd.int IntKind.u8) r.snd] }
@[reducible] def a137 : List AK := [AK.c (Leaf.ptr (0 : Nat) (0 : Nat)), AK.d (Kd.int IntKind.u8)]
@[reducible] def b137 : List BK := [BK.tb (143 : TypeId) [SK.c (Leaf.srow (1 : Nat))], BK.row (5 : TypeId) (Kd.int IntKind.u8)]
theorem t137 (b : Int) (h0_u : Bool) (h1 : List Int) : evFn (Env.loops (Env.withFns E0 [((144 : Nat), w144)]) live137 fun (x : Nat) (x_1 : VS) => none) Tryd.f137 [PM.raw] (akAV a137 (b, ())) (bkBs b137 ((h0_u, ()), h1, ())) = (d137 b h0_u h1).map e137 := by kernel_rfl
def s137 (C : akT a137 → bksT b137 → Bool) (G : akT a137 → bksT b137 → Bool × List Int) : FSpec := aspec a137 b137 e137 (C) (G)
theorem k137 {C : akT a137 → bksT b137 → Bool} {G : akT a137 → bksT b137 → Bool × List Int} (hd : ∀ (b : Int) (h0_u : Bool) (h1 : List Int), C (b, ()) ((h0_u, ()), h1, ()) = true → (d137 b h0_u h1).val = some (G (b, ()) ((h0_u, ()), h1, ()))) (IO : ItOK Tryd.prog (Env.loops (Env.withFns E0 [((144 : Nat), w144)]) live137 fun (x : Nat) (x_1 : VS) => none) := by exact itOK_none rfl) (L : ∀ c, Tryd.f137.body = some c → LsOK (evI 2) ((Env.loops (Env.withFns E0 [((144 : Nat), w144)]) live137 fun (x : Nat) (x_1 : VS) => none).lend 2) c := by exact fun c _ => LsOK_none rfl c) : SpecOK Tryd.prog E0 137 (s137 C G) :=
  aspec_ok (ak := a137) (bl := b137) (e := e137) (c := C) (g := G) (E0 := E0) (E := Env.loops (Env.withFns E0 [((144 : Nat), w144)]) live137 fun (x : Nat) (x_1 : VS) => none) tab (.cons wk144 .nil) rfl rfl hm Tryd.func137 (by kernel_rfl) [PM.raw] (fun X Y H => by obtain ⟨b, _⟩ := X; obtain ⟨⟨h0_u, _⟩, ⟨h1, _⟩⟩ := Y; exact val_of (t137 b h0_u h1) (hd b h0_u h1 H)) IO L
def live91 (key : Nat) : Lv :=
  { ls := [] }
def d91 (h0_u : Bool) (h1 : List Int) : Tr (ByteArray × Bool) :=
 let v1 : Int := ((↑(List.length h1) : Int))
 let v2 : Int := ((↑(List.length h1) : Int))
 Tr.ite (decide (v2 = v1)) (Tr.ret (strOf h1, h0_u)) Tr.fail
def e91 (r : ByteArray × Bool) : FRes := { rs := Slot.av (AV.one (Leaf.dat Kd.str r.fst)), upd := [Blk.tb ( 143) r.snd [Leaf.srow ( 1)], Blk.dead], new := [] }
@[reducible] def a91 : List AK := [AK.c (Leaf.ptr (0 : Nat) (0 : Nat))]
@[reducible] def b91 : List BK := [BK.tb (143 : TypeId) [SK.c (Leaf.srow (1 : Nat))], BK.row (5 : TypeId) (Kd.int IntKind.u8)]
theorem t91 (h0_u : Bool) (h1 : List Int) : evFn (Env.loops (Env.withFns E0 [((144 : Nat), w144)]) live91 fun (x : Nat) (x_1 : VS) => none) Tryd.f91 [PM.data Kd.str] (akAV a91 ()) (bkBs b91 ((h0_u, ()), h1, ())) = (d91 h0_u h1).map e91 := by kernel_rfl
def s91' (G : akT a91 → bksT b91 → ByteArray × Bool) : FSpec := aspec0 a91 b91 e91 (G)
theorem k91' {G : akT a91 → bksT b91 → ByteArray × Bool} (hd : ∀ (h0_u : Bool) (h1 : List Int), (d91 h0_u h1).val = some (G () ((h0_u, ()), h1, ()))) (IO : ItOK Tryd.prog (Env.loops (Env.withFns E0 [((144 : Nat), w144)]) live91 fun (x : Nat) (x_1 : VS) => none) := by exact itOK_none rfl) (L : ∀ c, Tryd.f91.body = some c → LsOK (evI 2) ((Env.loops (Env.withFns E0 [((144 : Nat), w144)]) live91 fun (x : Nat) (x_1 : VS) => none).lend 2) c := by exact fun c _ => LsOK_none rfl c) : SpecOK Tryd.prog E0 91 (s91' G) :=
  aspec0_ok (ak := a91) (bl := b91) (e := e91) (g := G) (E0 := E0) (E := Env.loops (Env.withFns E0 [((144 : Nat), w144)]) live91 fun (x : Nat) (x_1 : VS) => none) tab (.cons wk144 .nil) rfl rfl hm Tryd.func91 (by kernel_rfl) [PM.data Kd.str] (fun X Y => by obtain ⟨⟨h0_u, _⟩, ⟨h1, _⟩⟩ := Y; exact val_of (t91 h0_u h1) (hd h0_u h1)) IO L
abbrev w89 : FSpec := s89 (fun x y => decide (List.length (α := Int) y.2.1 + ByteArray.size x.1 ≤ 140737488355328)) fun x y => ((ByteArray.size x.1 : Int), true, List.append (α := Int) y.2.1 (bytesL x.1))
theorem wk89 : SpecOK Tryd.prog E0 89 w89 := k89 fun b u h H => by
  simp only [d89, Tr.val, H, cond_true]
  rfl
abbrev w137 : FSpec := s137 (fun _ y => decide (List.length (α := Int) y.2.1 + 1 ≤ 140737488355328)) fun x y => (true, List.append (α := Int) y.2.1 [x.1])
theorem wk137 : SpecOK Tryd.prog E0 137 w137 := k137 fun b u h H => by
  have H : h.length + 1 ≤ 140737488355328 := of_decide_eq_true H
  simp only [d137, Tr.val, Nat.mul_one, H, decide_true, cond_true]
  rfl
abbrev w91 : FSpec := s91' fun _ y => (strOf y.2.1, y.1.1)
theorem wk91 : SpecOK Tryd.prog E0 91 w91 := k91' fun u h => by
  simp only [d91, Tr.val, decide_true, cond_true]
end Go.Proofs.YtdlbnlbajnafdaaDoor
end
section
set_option linter.unusedVariables false
set_option linter.unusedSimpArgs false
set_option maxRecDepth 20000
set_option maxHeartbeats 4000000
open Go Go.Ev
namespace U
open Go.Proofs.YtdlbnlbajnafdaaDoor
theorem strOf_app (a b : List Int) : strOf (a ++ b) = strOf a ++ strOf b := by
  apply ByteArray.ext
  simp [strOf]
theorem strOf_bytes (s : ByteArray) : strOf (bytesL s) = s := by
  apply ByteArray.ext
  unfold strOf bytesL
  rw [List.map_map]
  have e : ((fun n : Int => UInt8.ofNat n.toNat) ∘ fun b : UInt8 => (b.toNat : Int)) = id := by
    funext b
    simp
  rw [e, List.map_id]
end U
end
section
set_option linter.unusedVariables false
set_option linter.unusedSimpArgs false
set_option maxRecDepth 20000
set_option maxHeartbeats 4000000
open Go Go.Ev
namespace U
theorem bytesL_len (b : ByteArray) : (bytesL b).length = b.size := by simp [bytesL]
end U
end
section
set_option linter.unusedVariables false
set_option linter.unusedSimpArgs false
set_option maxRecDepth 20000
set_option maxHeartbeats 4000000
open Go Go.Ev
namespace Go.Proofs.YtdlbnlbajnafdaaDoor
open Go.RowKit
def w176 : FSpec := { ps := [.data (.int .i64)], g := fun args bs => match args with
  | [.one (.dat (.int .i64) n)] => match bs with
    | [] => some { c := some (decide (1 ≤ (n : Int) ∧ (n : Int) ≤ 140737488355328)), rs := .av (.one (.room 0)), new := [.row 5 (.int .u8) []] }
    | _ => none
  | _ => none }
theorem wk176 : SpecOK Tryd.prog E0 176 w176 := by
  intro F O args bs r hr
  unfold w176 at hr
  simp only at hr
  split at hr
  · rename_i n
    split at hr
    · cases hr
      intro hc w K A vs H hv
      have hc : 1 ≤ (n : Int) ∧ (n : Int) ≤ 140737488355328 := by
        cases hd : decide (1 ≤ (n : Int) ∧ (n : Int) ≤ 140737488355328) with
        | true => exact of_decide_eq_true hd
        | false => exact absurd (by rw [hd]) hc
      obtain ⟨m, rfl⟩ := Int.eq_ofNat_of_zero_le (a := n) (Int.le_trans (by decide) hc.1)
      have hc : (1 : Int) ≤ (m : Int) ∧ (m : Int) ≤ 140737488355328 := hc
      cases hv with
      | cons h0 h1 =>
        cases h1
        rename_i v
        have h0 : [v] = [Value.int .i64 (m : Int)] := h0
        cases h0
        have hu : Tryd.prog.underlying 96 = some (.slice 5) := by kernel_rfl
        obtain ⟨cs, hrun, hle, hmax⟩ := Lib.run_makeNoZero (P := Tryd.prog) w #[3] 96 5 hu m (by omega)
        have hg : w.grownBy (w.drew.drew.alloc (.cells cs 5)) none := have g := World.grownBy_alloc (w.drew.drew) (.cells cs 5) none; ⟨g.os, g.tape, g.output, g.size, g.block⟩
        have hm : cs.size ≤ maxLen := hmax (by unfold maxLen; omega)
        have hnew : (w.drew.drew.alloc (.cells cs 5)).heap[w.heap.size]? = some (.cells cs 5 (0, 0)) := World.alloc_heap_new w.drew.drew _
        obtain ⟨K', A', H', x, s⟩ := new_row (e := 5) (k := .int .u8) (xs := []) (l := []) (v := .slice (some ⟨w.heap.size, 0, none⟩) 0 cs.size) (key := 0) (w' := w.drew.drew.alloc (.cells cs 5)) H rfl hg
          ⟨rfl, .inr ⟨w.heap.size, cs.size, cs, (0, 0), rfl, by omega, hnew, .inl rfl, by simp, hm, by show cs.size = cs.size * 1; omega, by simp⟩⟩ rfl (by decide)
          (fun g hg => by
            have hg : (if cs.size = 0 then none else some w.heap.size) = some g := hg
            split at hg
            · cases hg
            · cases hg; exact Nat.le_refl _)
        obtain ⟨hh, hhd, _⟩ := s
        obtain ⟨l, _, _, hm2, _⟩ := H'.blk 0 _ (show (Heap.sets (zipN 0 []) [(0, Blk.row 5 (.int .u8) [])]).get 0 = some (Blk.row 5 (.int .u8) []) from rfl)
        have e0 : ¬ cs.size = 0 := by omega
        have em : A'.m 0 = w.heap.size := by
          rw [← hhd] at hm2
          unfold ownB at hm2
          simp only [e0, if_false] at hm2
          rcases hm2 with h | h
          · cases h
          · exact (Option.some.inj h).symm
        refine .inl ⟨.slice (some ⟨w.heap.size, 0, none⟩) m cs.size, w.drew.drew.alloc (.cells cs 5), ?_, K', A', H', x, ?_, rfl⟩
        · rw [run_callFunc_extern Tryd.func176 (by kernel_rfl) (by kernel_rfl) (by kernel_rfl) (e := Extern.BytealgMakeNoZero.makeNoZero #[3] #[96]) (by kernel_rfl)]
          rw [show ([Value.int .i64 (m : Int)].toArray : Array Value) = #[.int .i64 m] from rfl, hrun]
          rfl
        · exact ⟨hh, m, cs.size, by rw [em]; exact hhd.symm, by rw [em], hle, by omega⟩
    · cases hr
  · cases hr
def d145 (b : Int) (h0_u : Bool) : Tr (Bool × List Int) :=
 let v1 : Int := (IntKind.wrap IntKind.i64 ((0 : Int) + b))
 Tr.ite (decide ((1 : Int) ≤ v1 ∧ v1 ≤ (140737488355328 : Int))) (Tr.ret (h0_u, putAt [] (0 : Nat) (List.take (0 : Nat) []))) Tr.fail
def e145 (r : Bool × List Int) : FRes := { rs := Slot.tup [], upd := [Blk.tb ( 143) r.fst [Leaf.srow ( 1)]], new := [Blk.row ( 5) (Kd.int IntKind.u8) r.snd] }
@[reducible] def a145 : List AK := [AK.c (Leaf.ptr (0 : Nat) (0 : Nat)), AK.d (.int .i64)]
@[reducible] def b145 : List BK := bldZ
theorem t145 (b : Int) (h0_u : Bool) : evFn (Env.withFns E0 [((176 : Nat), w176)]) Tryd.f145 [] (akAV a145 (b, ())) (bkBs b145 ((h0_u, ()), ())) = (d145 b h0_u).map e145 := by kernel_rfl
def s145 (C : akT a145 → bksT b145 → Bool) (G : akT a145 → bksT b145 → Bool × List Int) : FSpec := aspec a145 b145 e145 (C) (G)
theorem k145 {C : akT a145 → bksT b145 → Bool} {G : akT a145 → bksT b145 → Bool × List Int} (hd : ∀ (b : Int) (h0_u : Bool), C (b, ()) ((h0_u, ()), ()) = true → (d145 b h0_u).val = some (G (b, ()) ((h0_u, ()), ()))) (IO : ItOK Tryd.prog (Env.withFns E0 [((176 : Nat), w176)]) := by exact itOK_none rfl) (L : ∀ c, Tryd.f145.body = some c → LsOK (evI 2) ((Env.withFns E0 [((176 : Nat), w176)]).lend 1) c := by exact fun c _ => LsOK_none rfl c) : SpecOK Tryd.prog E0 145 (s145 C G) :=
  aspec_ok (ak := a145) (bl := b145) (e := e145) (c := C) (g := G) (E0 := E0) (E := Env.withFns E0 [((176 : Nat), w176)]) tab (.cons wk176 .nil) rfl rfl hm Tryd.func145 (by kernel_rfl) [] (fun X Y H => by obtain ⟨b, _⟩ := X; obtain ⟨⟨h0_u, _⟩, _⟩ := Y; exact val_of (t145 b h0_u) (hd b h0_u H)) IO L
abbrev w145 : FSpec := s145 (fun x _ => decide (1 ≤ (x.1 : Int) ∧ (x.1 : Int) ≤ 140737488355328)) fun _ y => (y.1.1, [])
theorem wk145 : SpecOK Tryd.prog E0 145 w145 := k145 fun n u H => by
  have H : 1 ≤ (n : Int) ∧ (n : Int) ≤ 140737488355328 := of_decide_eq_true H
  have e : IntKind.i64.wrap (0 + n) = n := by rw [Go.Ev.w64 (by omega) (by omega)]; omega
  simp only [d145, Tr.val, e, H.1, H.2, and_self, decide_true, cond_true]
  rfl
def d88 (b : Int) (h0_u : Bool) : Tr (Bool × List Int ⊕ Bool) :=
 Tr.ite (decide (b < (0 : Int))) Tr.fail (Tr.ite (decide ((0 : Int) < b)) (Tr.ite (decide ((1 : Int) ≤ b ∧ b ≤ (140737488355328 : Int))) (Tr.ret (Sum.inl (true, []))) Tr.fail) (Tr.ret (Sum.inr true)))
def e88 : Bool × List Int ⊕ Bool → FRes
  | (.inl r) => { rs := Slot.tup [], upd := [Blk.tb ( 143) r.fst [Leaf.srow ( 1)]], new := [Blk.row ( 5) (Kd.int IntKind.u8) r.snd] }
  | (.inr r) => { rs := Slot.tup [], upd := [Blk.tb ( 143) r [Leaf.nils]], new := [] }
@[reducible] def a88 : List AK := [AK.c (Leaf.ptr (0 : Nat) (0 : Nat)), AK.d (.int .i64)]
@[reducible] def b88 : List BK := bldZ
theorem t88 (b : Int) (h0_u : Bool) : evFn (Env.withFns E0 [((144 : Nat), Z.w144), ((145 : Nat), w145)]) Tryd.f88 [] (akAV a88 (b, ())) (bkBs b88 ((h0_u, ()), ())) = (d88 b h0_u).map e88 := by kernel_rfl
def s88 (C : akT a88 → bksT b88 → Bool) (G : akT a88 → bksT b88 → Bool × List Int ⊕ Bool) : FSpec := aspec a88 b88 e88 (C) (G)
theorem k88 {C : akT a88 → bksT b88 → Bool} {G : akT a88 → bksT b88 → Bool × List Int ⊕ Bool} (hd : ∀ (b : Int) (h0_u : Bool), C (b, ()) ((h0_u, ()), ()) = true → (d88 b h0_u).val = some (G (b, ()) ((h0_u, ()), ()))) (IO : ItOK Tryd.prog (Env.withFns E0 [((144 : Nat), Z.w144), ((145 : Nat), w145)]) := by exact itOK_none rfl) (L : ∀ c, Tryd.f88.body = some c → LsOK (evI 2) ((Env.withFns E0 [((144 : Nat), Z.w144), ((145 : Nat), w145)]).lend 1) c := by exact fun c _ => LsOK_none rfl c) : SpecOK Tryd.prog E0 88 (s88 C G) :=
  aspec_ok (ak := a88) (bl := b88) (e := e88) (c := C) (g := G) (E0 := E0) (E := Env.withFns E0 [((144 : Nat), Z.w144), ((145 : Nat), w145)]) tab (.cons Z.wk144 (.cons wk145 .nil)) rfl rfl hm Tryd.func88 (by kernel_rfl) [] (fun X Y H => by obtain ⟨b, _⟩ := X; obtain ⟨⟨h0_u, _⟩, _⟩ := Y; exact val_of (t88 b h0_u) (hd b h0_u H)) IO L
abbrev w88 : FSpec := s88 (fun x _ => decide (1 ≤ (x.1 : Int) ∧ (x.1 : Int) ≤ 140737488355328)) fun _ _ => .inl (true, [])
theorem wk88 : SpecOK Tryd.prog E0 88 w88 := k88 fun n u H => by
  have H : 1 ≤ (n : Int) ∧ (n : Int) ≤ 140737488355328 := of_decide_eq_true H
  have h1 : ¬ n < 0 := by omega
  have h2 : 0 < n := by omega
  simp only [d88, Tr.val, h1, h2, H.1, H.2, and_self, decide_true, decide_false, cond_true, cond_false]
def live77 (key : Nat) : Lv :=
  bif Nat.beq key 22 then { ls := [1, 8, 63, 64, 65] } else bif Nat.beq key 1022 then { ls := [8] } else
  bif Nat.beq key 12 then { ls := [0, 1, 5, 39, 40, 41] } else bif Nat.beq key 1012 then { ls := [0, 1, 5] } else
  bif Nat.beq key 9997 then { ls := [143] } else
  { ls := [] }
abbrev G77 : List (Nat × FSpec) := [(88, w88), (89, w89), (91, w91)]
theorem AG77 : AllFn Tryd.prog E0 G77 := .cons wk88 (.cons wk89 (.cons wk91 .nil))
abbrev M77 (ls : Nat → VS → Option (Tr (Ex × VS))) : Env := (E0.withFns G77).loops live77 ls
@[reducible] def p77_0 : LP := { n := 75, sl := [.d (Kd.sl Kd.str), .d (Kd.str), .d (.int .i64), .d (Kd.sl Kd.str), .d (.int .i64), .d (.int .i64)], bl := [] }
def B77_0 (x0 : List ByteArray) (x1 : ByteArray) (x2 : Int) (x3 : List ByteArray) (x4 : Int) (x5 : Int) : Tr (p77_0.T ⊕ (List ByteArray × ByteArray × Int)) :=
 let v1 : Int := ((↑(ByteArray.size (rget Kd.str x3 x5)) : Int))
 let v2 : Int := (IntKind.wrap IntKind.i64 ((9223372036854775807 : Int) - x2))
 Tr.ite (decide (x5 < x4)) (Tr.ite (inB x5 (List.length x3)) (Tr.ite (decide (v2 < v1)) Tr.fail (Tr.ret (Sum.inl ((x0, x1, IntKind.wrap IntKind.i64 (x2 + v1), x3, x4, IntKind.wrap IntKind.i64 (x5 + (1 : Int)), ()), ())))) Tr.fail) (Tr.ret (Sum.inr (x0, x1, x2)))
def X77_0 (r : (List ByteArray × ByteArray × Int)) : Ex × VS := Prod.mk (Ex.exit ( 1)) { n := 75, v := [Slot.av (AV.one (Leaf.dat (Kd.sl Kd.str) r.fst)), Slot.av (AV.one (Leaf.dat Kd.str r.snd.fst)), Slot.av (AV.one (Leaf.dat (.int .i64) r.snd.snd))], h := [] }
def b77_0 : p77_0.T → Tr (p77_0.T ⊕ (List ByteArray × ByteArray × Int)) := fun ⟨⟨x0, ⟨x1, ⟨x2, ⟨x3, ⟨x4, ⟨x5, _⟩⟩⟩⟩⟩⟩, _⟩ => B77_0 x0 x1 x2 x3 x4 x5
theorem h77_0 (ls : Nat → VS → Option (Tr (Ex × VS))) (x : p77_0.T) : (evC (evI 2) (lc Tryd.f77 0) (Env.lend (M77 ls) 0) (unV (live77 12) (p77_0.V x))).map (decL 0 (live77 12) (live77 1012)) = (b77_0 x).map (encR p77_0.V X77_0) := by
  obtain ⟨⟨x0, ⟨x1, ⟨x2, ⟨x3, ⟨x4, ⟨x5, _⟩⟩⟩⟩⟩⟩, _⟩ := x; kernel_rfl
theorem c77_0 (x : p77_0.T) : canV 0 (live77 12) (unV (live77 12) (p77_0.V x)) = p77_0.V x := by
  obtain ⟨⟨x0, ⟨x1, ⟨x2, ⟨x3, ⟨x4, ⟨x5, _⟩⟩⟩⟩⟩⟩, _⟩ := x; kernel_rfl
theorem l77_0 {T : p77_0.T → Tr (List ByteArray × ByteArray × Int)} {ls : Nat → VS → Option (Tr (Ex × VS))} (hls : ∀ x, (Env.lend (M77 ls) 0).ls 12 x = p77_0.ls (fun a => (T a).map X77_0) x) (hS : ∀ x r, (T x).val = some r → Rounds b77_0 x r) : LoopOK (evI 2) (Env.lend (M77 ls) 0) (lc Tryd.f77 0) :=
  loopA 12 (live77 12) (live77 1012) p77_0 b77_0 X77_0 T (by kernel_rfl) rfl rfl hls (h77_0 ls) c77_0 hS
end Go.Proofs.YtdlbnlbajnafdaaDoor
namespace U
def sumS (l : List ByteArray) : Nat := (l.map ByteArray.size).sum
def joinI (sep : ByteArray) : List ByteArray → List Int
  | [] => []
  | x :: r => bytesL x ++ r.flatMap fun y => bytesL sep ++ bytesL y
end U
namespace Go.Proofs.YtdlbnlbajnafdaaDoor
def T77_0 (x : p77_0.T) : Tr (List ByteArray × ByteArray × Int) :=
  match x with
  | ⟨⟨x0, x1, n, l, m, i, _⟩, _⟩ => .ite (decide (0 ≤ (n : Int) ∧ (m : Int) = (List.length (α := ByteArray) l : Int) ∧ (i : Int) = 0 ∧ List.length (α := ByteArray) l ≤ 1048576 ∧ (n : Int) + (U.sumS l : Int) ≤ 140737488355328)) (.ret (x0, x1, n + (U.sumS l : Int))) .fail
abbrev N77 (ls : Nat → VS → Option (Tr (Ex × VS))) : Env := M77 fun key x => bif Nat.beq key 12 then p77_0.ls (fun a => (T77_0 a).map X77_0) x else ls key x
theorem R77_0 (x0 l : List ByteArray) (x1 : ByteArray) (hl : l.length ≤ 1048576) : ∀ (k i n : Nat), i + k = l.length → n + U.sumS (l.drop i) ≤ 140737488355328 →
    Rounds b77_0 ((x0, x1, (n : Int), l, (l.length : Int), (i : Int), ()), ()) (x0, x1, ((n + U.sumS (l.drop i) : Nat) : Int))
  | 0, i, n, e, _ => by
    have e : i = l.length := by omega
    subst e
    rw [List.drop_length]
    refine .exit ?_
    simp [b77_0, B77_0, Tr.val, U.sumS]
  | k + 1, i, n, e, hb => by
    have hi : i < l.length := by omega
    have e1 : rget .str l (i : Int) = l[i] := by rw [rget_nat]; exact getD_el hi
    have hs : U.sumS (l.drop i) = l[i].size + U.sumS (l.drop (i + 1)) := by rw [List.drop_eq_getElem_cons hi]; rfl
    rw [hs] at hb ⊢
    have c1 : decide ((i : Int) < (l.length : Int)) = true := decide_eq_true (by omega)
    have e2 : IntKind.i64.wrap ((9223372036854775807 : Int) - (n : Int)) = 9223372036854775807 - (n : Int) := Go.Ev.w64 (by omega) (by omega)
    have c2 : decide ((9223372036854775807 : Int) - (n : Int) < (l[i].size : Int)) = false := decide_eq_false (by omega)
    have e3 : IntKind.i64.wrap ((n : Int) + (l[i].size : Int)) = ((n + l[i].size : Nat) : Int) := by rw [Go.Ev.w64 (by omega) (by omega)]; omega
    have ih := R77_0 x0 l x1 hl k (i + 1) (n + l[i].size) (by omega) (by omega)
    rw [Nat.add_assoc] at ih
    refine .step ?_ ih
    simp only [b77_0, B77_0, Tr.val, e1, e2, e3, c1, c2, inB_nat hi, cond_true, cond_false, wrap64_nat (show i ≤ 1048576 by omega)]
theorem L77_0 {ls : Nat → VS → Option (Tr (Ex × VS))} : LoopOK (evI 2) ((N77 ls).lend 0) (lc Tryd.f77 0) := by
  refine l77_0 (T := T77_0) (fun x => rfl) ?_
  rintro ⟨⟨x0, x1, n, l, m, i, z⟩, z1⟩ r hh
  obtain ⟨g1, g2⟩ := pre_val hh
  have g1 : 0 ≤ (n : Int) ∧ (m : Int) = (l.length : Int) ∧ (i : Int) = 0 ∧ l.length ≤ 1048576 ∧ (n : Int) + (U.sumS l : Int) ≤ 140737488355328 := of_decide_eq_true g1
  obtain ⟨h1, rfl, rfl, h2, h3⟩ := g1
  obtain ⟨q, rfl⟩ := Int.eq_ofNat_of_zero_le h1
  cases g2
  have h3 : (q : Int) + (U.sumS l : Int) ≤ 140737488355328 := h3
  have := R77_0 x0 l x1 h2 l.length 0 q (by omega) (by rw [List.drop_zero]; omega)
  rw [List.drop_zero] at this
  exact this
@[reducible] def p77_1 : LP := { n := 75, sl := [.d (Kd.str), .c (Leaf.ptr ( 0) ( 0)), .d (Kd.sl Kd.str), .d (.int .i64), .d (.int .i64)], bl := [(0, .tb 143 [.c (Leaf.srow ( 1))]), (1, .row 5 (Kd.int IntKind.u8))] }
def B77_1 (x0 : ByteArray) (x2 : List ByteArray) (x3 : Int) (x4 : Int) (h0_u : Bool) (h1 : List Int) : Tr (p77_1.T ⊕ (Bool × List Int)) :=
 Tr.ite (decide (x4 < x3)) (Tr.ite (inB x4 (List.length x2)) (Tr.ite (decide (List.length h1 + ByteArray.size x0 ≤ (140737488355328 : Nat))) (Tr.ite (decide (List.length (List.append h1 (bytesL x0)) + ByteArray.size (rget Kd.str x2 x4) ≤ (140737488355328 : Nat))) (Tr.ret (Sum.inl ((x0, x2, x3, IntKind.wrap IntKind.i64 (x4 + (1 : Int)), ()), (true, ()), List.append (List.append h1 (bytesL x0)) (bytesL (rget Kd.str x2 x4)), ()))) Tr.fail) Tr.fail) Tr.fail) (Tr.ret (Sum.inr (h0_u, h1)))
def X77_1 (r : (Bool × List Int)) : Ex × VS := Prod.mk (Ex.exit ( 3)) { n := 75, v := [Slot.av (AV.one (Leaf.ptr ( 0) ( 0)))], h := [( 0, Blk.tb ( 143) r.fst [Leaf.srow ( 1)]), ( 1, Blk.row ( 5) (Kd.int IntKind.u8) r.snd)] }
def b77_1 : p77_1.T → Tr (p77_1.T ⊕ (Bool × List Int)) := fun ⟨⟨x0, ⟨x2, ⟨x3, ⟨x4, _⟩⟩⟩⟩, ⟨⟨h0_u, _⟩, ⟨h1, _⟩⟩⟩ => B77_1 x0 x2 x3 x4 h0_u h1
theorem h77_1 (ls : Nat → VS → Option (Tr (Ex × VS))) (x : p77_1.T) : (evC (evI 2) (lc Tryd.f77 1) (Env.lend (N77 ls) 0) (unV (live77 22) (p77_1.V x))).map (decL 0 (live77 22) (live77 1022)) = (b77_1 x).map (encR p77_1.V X77_1) := by
  obtain ⟨⟨x0, ⟨x2, ⟨x3, ⟨x4, _⟩⟩⟩⟩, ⟨⟨h0_u, _⟩, ⟨h1, _⟩⟩⟩ := x; kernel_rfl
theorem c77_1 (x : p77_1.T) : canV 0 (live77 22) (unV (live77 22) (p77_1.V x)) = p77_1.V x := by
  obtain ⟨⟨x0, ⟨x2, ⟨x3, ⟨x4, _⟩⟩⟩⟩, ⟨⟨h0_u, _⟩, ⟨h1, _⟩⟩⟩ := x; kernel_rfl
theorem l77_1 {T : p77_1.T → Tr (Bool × List Int)} {ls : Nat → VS → Option (Tr (Ex × VS))} (hls : ∀ x, (Env.lend (N77 ls) 0).ls 22 x = p77_1.ls (fun a => (T a).map X77_1) x) (hS : ∀ x r, (T x).val = some r → Rounds b77_1 x r) : LoopOK (evI 2) (Env.lend (N77 ls) 0) (lc Tryd.f77 1) :=
  loopA 22 (live77 22) (live77 1022) p77_1 b77_1 X77_1 T (by kernel_rfl) rfl rfl hls (h77_1 ls) c77_1 hS
theorem sumS_cons (y : ByteArray) (l : List ByteArray) : U.sumS (y :: l) = y.size + U.sumS l := rfl
def T77_1 (x : p77_1.T) : Tr (Bool × List Int) :=
  match x with
  | ⟨⟨sep, l, n, i, _⟩, ⟨u, _⟩, bs, _⟩ => .ite (decide ((n : Int) = (List.length (α := ByteArray) l : Int) ∧ (i : Int) = 0 ∧ List.length (α := ByteArray) l ≤ 1048576 ∧ List.length (α := Int) bs + (U.sumS l + List.length (α := ByteArray) l * ByteArray.size sep) ≤ 140737488355328))
      (.ret ((u || !decide (List.length (α := ByteArray) l = 0)), List.append (α := Int) bs (List.flatMap (fun y => bytesL sep ++ bytesL y) l))) .fail
abbrev E77 : Env := N77 fun key x => bif Nat.beq key 22 then p77_1.ls (fun a => (T77_1 a).map X77_1) x else none
theorem R77_1 (l : List ByteArray) (sep : ByteArray) (hl : l.length ≤ 1048576) : ∀ (k i : Nat) (u : Bool) (bs : List Int), i + k = l.length → bs.length + (U.sumS (l.drop i) + k * sep.size) ≤ 140737488355328 →
    Rounds b77_1 ((sep, l, (l.length : Int), (i : Int), ()), (u, ()), bs, ()) ((u || !decide (k = 0)), bs ++ (l.drop i).flatMap fun y => bytesL sep ++ bytesL y)
  | 0, i, u, bs, e, _ => by
    have e : i = l.length := by omega
    subst e
    rw [List.drop_length]
    refine .exit ?_
    have c : decide ((l.length : Int) < (l.length : Int)) = false := decide_eq_false (by omega)
    simp only [b77_1, B77_1, Tr.val, c, cond_false]
    simp
  | k + 1, i, u, bs, e, hb => by
    have hi : i < l.length := by omega
    have e1 : rget .str l (i : Int) = l[i] := by rw [rget_nat]; exact getD_el hi
    rw [List.drop_eq_getElem_cons hi] at hb ⊢
    rw [sumS_cons] at hb
    rw [Nat.add_mul] at hb
    have c1 : decide ((i : Int) < (l.length : Int)) = true := decide_eq_true (by omega)
    have e2 : (List.append bs (bytesL sep)).length = bs.length + sep.size := by rw [← U.bytesL_len sep]; exact List.length_append
    have c2 : decide (bs.length + sep.size ≤ 140737488355328) = true := decide_eq_true (by omega)
    have c3 : decide (bs.length + sep.size + l[i].size ≤ 140737488355328) = true := decide_eq_true (by omega)
    have ih := R77_1 l sep hl k (i + 1) true (bs ++ (bytesL sep ++ bytesL l[i])) (by omega) (by rw [List.length_append, List.length_append, U.bytesL_len, U.bytesL_len]; omega)
    rw [List.append_assoc, ← List.flatMap_cons (f := fun y => bytesL sep ++ bytesL y), Bool.true_or] at ih
    rw [show (u || !decide (k + 1 = 0)) = true by simp]
    refine .step ?_ ih
    simp only [b77_1, B77_1, Tr.val, e1, e2, c1, c2, c3, inB_nat hi, cond_true, wrap64_nat (show i ≤ 1048576 by omega)]
    rw [← List.append_assoc bs]
    rfl
theorem L77_1 : LoopOK (evI 2) (E77.lend 0) (lc Tryd.f77 1) := by
  refine l77_1 (T := T77_1) (fun x => rfl) ?_
  rintro ⟨⟨sep, l, n, i, z⟩, ⟨u, z1⟩, bs, z2⟩ r hh
  obtain ⟨g1, g2⟩ := pre_val hh
  have g1 : (n : Int) = (l.length : Int) ∧ (i : Int) = 0 ∧ l.length ≤ 1048576 ∧ bs.length + (U.sumS l + l.length * sep.size) ≤ 140737488355328 := of_decide_eq_true g1
  obtain ⟨rfl, rfl, h2, h3⟩ := g1
  cases g2
  have := R77_1 l sep h2 l.length 0 u bs (by omega) (by rw [List.drop_zero]; exact h3)
  rw [List.drop_zero] at this
  exact this
def d77 (a : List ByteArray) (b : ByteArray) : Tr (ByteArray) :=
 let v1 : Int := ((↑(List.length a) : Int))
 let v2 : Int := ((↑(List.length a) : Int))
 let v3 : Bool := (inB (0 : Int) (List.length a))
 let v4 : List ByteArray := (sub a (1 : Nat) (List.length a))
 let v5 : List Int := (List.append [] (bytesL (rget Kd.str a (0 : Int))))
 let v6 : Int := ((↑(List.length v4) : Int))
 let v7 : Int := ((↑(List.length v4) : Int))
 let v8 : Int := (IntKind.wrap IntKind.i64 (v2 - (1 : Int)))
 let v9 : Int := (IntKind.wrap IntKind.i64 (Int.tdiv (9223372036854775807 : Int) v8))
 let v10 : Int := (IntKind.wrap IntKind.i64 ((0 : Int) + IntKind.wrap IntKind.i64 ((↑(ByteArray.size b) : Int) * v8)))
 Tr.ite (decide (v2 = (0 : Int))) (Tr.ret { data := #[] }) (Tr.ite (decide (v2 = (1 : Int))) (Tr.ite v3 (Tr.ret (rget Kd.str a (0 : Int))) Tr.fail) (Tr.ite (decide ((0 : Int) < (↑(ByteArray.size b) : Int))) (Tr.ite (!decide (v8 = (0 : Int))) (Tr.ite (decide (v9 ≤ (↑(ByteArray.size b) : Int))) Tr.fail (Tr.ite (decide ((0 : Int) ≤ v10 ∧ v2 = v1 ∧ (0 : Int) = (0 : Int) ∧ List.length a ≤ (1048576 : Nat) ∧ v10 + (↑(U.sumS a) : Int) ≤ (140737488355328 : Int))) (Tr.ite (decide ((1 : Int) ≤ v10 + (↑(U.sumS a) : Int) ∧ v10 + (↑(U.sumS a) : Int) ≤ (140737488355328 : Int))) (Tr.ite v3 (Tr.ite (decide ((0 : Nat) + ByteArray.size (rget Kd.str a (0 : Int)) ≤ (140737488355328 : Nat))) (Tr.ite (decide ((0 : Int) ≤ (1 : Int) ∧ (1 : Int) ≤ v2)) (Tr.ite (decide (v7 = v6 ∧ (0 : Int) = (0 : Int) ∧ List.length v4 ≤ (1048576 : Nat) ∧ List.length v5 + (U.sumS v4 + List.length v4 * ByteArray.size b) ≤ (140737488355328 : Nat))) (Tr.ret (strOf (List.append v5 (List.flatMap (fun (y : ByteArray) => bytesL b ++ bytesL y) v4)))) Tr.fail) Tr.fail) Tr.fail) Tr.fail) Tr.fail) Tr.fail)) Tr.fail) (Tr.ite (decide ((0 : Int) ≤ (0 : Int) ∧ v2 = v1 ∧ (0 : Int) = (0 : Int) ∧ List.length a ≤ (1048576 : Nat) ∧ (0 : Int) + (↑(U.sumS a) : Int) ≤ (140737488355328 : Int))) (Tr.ite (decide ((1 : Int) ≤ (0 : Int) + (↑(U.sumS a) : Int) ∧ (0 : Int) + (↑(U.sumS a) : Int) ≤ (140737488355328 : Int))) (Tr.ite v3 (Tr.ite (decide ((0 : Nat) + ByteArray.size (rget Kd.str a (0 : Int)) ≤ (140737488355328 : Nat))) (Tr.ite (decide ((0 : Int) ≤ (1 : Int) ∧ (1 : Int) ≤ v2)) (Tr.ite (decide (v7 = v6 ∧ (0 : Int) = (0 : Int) ∧ List.length v4 ≤ (1048576 : Nat) ∧ List.length v5 + (U.sumS v4 + List.length v4 * ByteArray.size b) ≤ (140737488355328 : Nat))) (Tr.ret (strOf (List.append v5 (List.flatMap (fun (y : ByteArray) => bytesL b ++ bytesL y) v4)))) Tr.fail) Tr.fail) Tr.fail) Tr.fail) Tr.fail) Tr.fail)))
def e77 (r : ByteArray) : FRes := { rs := Slot.av (AV.one (Leaf.dat Kd.str r)), upd := [], new := [] }
@[reducible] def a77 : List AK := [AK.d (Kd.sl Kd.str), AK.d Kd.str]
@[reducible] def b77 : List BK := []
theorem t77 (a : List ByteArray) (b : ByteArray) : evFn (E77) Tryd.f77 [PM.data Kd.str] (akAV a77 (a, b, ())) (bkBs b77 ()) = (d77 a b).map e77 := by kernel_rfl
def s77 (C : akT a77 → Bool) (G : akT a77 → ByteArray) : FSpec := aspec a77 b77 e77 (fun x _ => C x) (fun x _ => G x)
theorem k77 {C : akT a77 → Bool} {G : akT a77 → ByteArray} (hd : ∀ (a : List ByteArray) (b : ByteArray), C (a, b, ()) = true → (d77 a b).val = some (G (a, b, ()))) (IO : ItOK Tryd.prog (E77) := by exact itOK_none rfl) (L : ∀ c, Tryd.f77.body = some c → LsOK (evI 2) ((E77).lend 0) c := by exact fun c _ => LsOK_none rfl c) : SpecOK Tryd.prog E0 77 (s77 C G) :=
  aspec_ok (ak := a77) (bl := b77) (e := e77) (c := fun x _ => C x) (g := fun x _ => G x) (E0 := E0) (E := E77) tab AG77 rfl rfl hm Tryd.func77 (by kernel_rfl) [PM.data Kd.str] (fun X Y H => by obtain ⟨a, ⟨b, _⟩⟩ := X; exact val_of (t77 a b) (hd a b H)) IO L
abbrev w77 : FSpec := s77 (fun x => decide (1 ≤ ByteArray.size x.2.1 ∧ ByteArray.size x.2.1 ≤ 1048576 ∧ List.length (α := ByteArray) x.1 ≤ 1048576 ∧ U.sumS x.1 + List.length (α := ByteArray) x.1 * ByteArray.size x.2.1 ≤ 140737488355328)) fun x => strOf (U.joinI x.2.1 x.1)
theorem wk77 : SpecOK Tryd.prog E0 77 w77 := by
  refine k77 (fun l sep H => ?_) (L := ls_ok (lcs := [lc Tryd.f77 0, lc Tryd.f77 1]) (rgs := []) (by kernel_rfl) (by kernel_rfl) ⟨L77_0, L77_1⟩ trivial)
  have H : 1 ≤ sep.size ∧ sep.size ≤ 1048576 ∧ l.length ≤ 1048576 ∧ U.sumS l + l.length * sep.size ≤ 140737488355328 := of_decide_eq_true H
  obtain ⟨h1, h2, h3, h4⟩ := H
  show _ = some (strOf (U.joinI sep l))
  match l, h3, h4 with
  | [], _, _ => rfl
  | [x], _, _ =>
    show some x = some (strOf (bytesL x ++ []))
    rw [List.append_nil, U.strOf_bytes]
  | x :: y :: r, h3, h4 =>
    generalize hl : y :: r = r' at *
    have hr : 1 ≤ r'.length := by rw [← hl]; simp
    rw [List.length_cons] at h3
    rw [sumS_cons, List.length_cons, Nat.add_mul, Nat.one_mul] at h4
    have k0 : ((x :: r').length : Int) = ((r'.length + 1 : Nat) : Int) := rfl
    have k1 : IntKind.i64.wrap (((r'.length + 1 : Nat) : Int) - 1) = ((r'.length : Nat) : Int) := by rw [Go.Ev.w64 (by omega) (by omega)]; omega
    have k2 : decide (((r'.length + 1 : Nat) : Int) = 0) = false := decide_eq_false (by omega)
    have k3 : decide (((r'.length + 1 : Nat) : Int) = 1) = false := decide_eq_false (by omega)
    have k4 : decide ((0 : Int) < (sep.size : Int)) = true := decide_eq_true (by omega)
    have k5 : decide (((r'.length : Nat) : Int) = 0) = false := decide_eq_false (by omega)
    have q0 : Int.tdiv 9223372036854775807 ((r'.length : Nat) : Int) = 9223372036854775807 / ((r'.length : Nat) : Int) := Int.tdiv_eq_ediv_of_nonneg (by decide)
    have q1 : 1048577 ≤ (9223372036854775807 : Int) / ((r'.length : Nat) : Int) := Int.le_ediv_of_mul_le (by omega) (by omega)
    have q2 : (9223372036854775807 : Int) / ((r'.length : Nat) : Int) ≤ 9223372036854775807 := Int.ediv_le_self _ (by decide)
    have k6 : decide (IntKind.i64.wrap (Int.tdiv 9223372036854775807 ((r'.length : Nat) : Int)) ≤ (sep.size : Int)) = false := by
      rw [q0, Go.Ev.w64 (by omega) q2]
      exact decide_eq_false (by omega)
    have k7 : (sep.size : Int) * ((r'.length : Nat) : Int) = ((r'.length * sep.size : Nat) : Int) := by rw [Nat.mul_comm]; exact (Int.natCast_mul _ _).symm
    generalize hp : r'.length * sep.size = p at *
    have k8 : IntKind.i64.wrap ((0 : Int) + IntKind.i64.wrap ((p : Nat) : Int)) = ((p : Nat) : Int) := by
      rw [Go.Ev.w64 (n := ((p : Nat) : Int)) (by omega) (by omega), Int.zero_add, Go.Ev.w64 (by omega) (by omega)]
    have hp1 : 1 ≤ p := by rw [← hp]; exact Nat.mul_le_mul hr h1
    have e1 : rget .str (x :: r') (0 : Int) = x := rfl
    have e2 : sub (x :: r') 1 (r'.length + 1) = r' := by
      unfold sub
      rw [List.take_of_length_le (by simp)]
      rfl
    have e3 : (List.append ([] : List Int) (bytesL x)).length = x.size := U.bytesL_len x
    have e4 : inB (0 : Int) (r'.length + 1) = true := inB_nat (i := 0) (by omega)
    have c1 : decide ((0 : Int) ≤ ((p : Nat) : Int) ∧ ((r'.length + 1 : Nat) : Int) = ((r'.length + 1 : Nat) : Int) ∧ (0 : Int) = 0 ∧ r'.length + 1 ≤ 1048576 ∧ ((p : Nat) : Int) + ((x.size + U.sumS r' : Nat) : Int) ≤ 140737488355328) = true := decide_eq_true (by omega)
    have c2 : decide ((1 : Int) ≤ ((p : Nat) : Int) + ((x.size + U.sumS r' : Nat) : Int) ∧ ((p : Nat) : Int) + ((x.size + U.sumS r' : Nat) : Int) ≤ 140737488355328) = true := decide_eq_true (by omega)
    have c3 : decide (0 + x.size ≤ 140737488355328) = true := decide_eq_true (by omega)
    have c4 : decide ((0 : Int) ≤ 1 ∧ (1 : Int) ≤ ((r'.length + 1 : Nat) : Int)) = true := decide_eq_true (by omega)
    have c5 : decide (((r'.length : Nat) : Int) = ((r'.length : Nat) : Int) ∧ (0 : Int) = 0 ∧ r'.length ≤ 1048576 ∧ x.size + (U.sumS r' + p) ≤ 140737488355328) = true := decide_eq_true (by omega)
    simp only [d77, Tr.val, List.length_cons, sumS_cons, k1, k2, k3, k4, k5, k6, k7, k8, e1, e2, e3, e4, hp, c1, c2, c3, c4, c5, Bool.not_false, cond_true, cond_false]
    have a1 : (0 : Int) ≤ ((p : Nat) : Int) := by omega
    have a2 : r'.length + 1 ≤ 1048576 := by omega
    have a3 : ((p : Nat) : Int) + ((x.size + U.sumS r' : Nat) : Int) ≤ 140737488355328 := by omega
    have a4 : r'.length ≤ 1048576 := by omega
    have a5 : x.size + (U.sumS r' + p) ≤ 140737488355328 := by omega
    simp only [a1, a2, a3, a4, a5, and_self, decide_true, cond_true]
    rfl
end Go.Proofs.YtdlbnlbajnafdaaDoor
end
section
set_option maxRecDepth 100000
namespace Go.Proofs.YtdlbnlbajnafdaaDoor
open Go.Ev
def laysRen : Go.Shelf.Ren := ⟨fun | 171 => 51 | 243 => 109 | 246 => 160 | 283 => 186 | 284 => 187 | 285 => 188 | 286 => 189 | 129 => 202 | 317 => 201 | 318 => 203 | 319 => 204 | 320 => 205 | 337 => 215 | 338 => 216 | n => n, fun | 3 => 3 | 9 => 9 | 2 => 2 | 4 => 4 | 171 => 228 | 0 => 0 | 53 => 193 | 37 => 96 | 5 => 5 | 173 => 231 | 212 => 241 | 51 => 190 | 20 => 20 | 213 => 242 | 46 => 138 | 232 => 258 | 233 => 259 | n => n, fun | 17 => 5 | 18 => 8 | 19 => 9 | n => n⟩
theorem laysItoa : Go.Proofs.LaysM.n171 Tryd.prog laysRen where
  mixed := by kernel_rfl
  f129 := Tryd.func202.trans (congrArg some (by kernel_rfl))
  f171 := Tryd.func51.trans (congrArg some (by kernel_rfl))
  f243 := Tryd.func109.trans (congrArg some (by kernel_rfl))
  f246 := Tryd.func160.trans (congrArg some (by kernel_rfl))
  f283 := Tryd.func186.trans (congrArg some (by kernel_rfl))
  f284 := Tryd.func187.trans (congrArg some (by kernel_rfl))
  f285 := Tryd.func188.trans (congrArg some (by kernel_rfl))
  f286 := Tryd.func189.trans (congrArg some (by kernel_rfl))
  f317 := Tryd.func201.trans (congrArg some (by kernel_rfl))
  f318 := Tryd.func203.trans (congrArg some (by kernel_rfl))
  f319 := Tryd.func204.trans (congrArg some (by kernel_rfl))
  f320 := Tryd.func205.trans (congrArg some (by kernel_rfl))
  f337 := Tryd.func215.trans (congrArg some (by kernel_rfl))
  f338 := Tryd.func216.trans (congrArg some (by kernel_rfl))
  t0 := Tryd.underlying0
  a0 := Tryd.isAgg0
  z0 := Tryd.sizeOf0
  v0 := Tryd.zeroValue0
  t2 := Tryd.underlying2
  a2 := Tryd.isAgg2
  z2 := Tryd.sizeOf2
  v2 := Tryd.zeroValue2
  t3 := Tryd.underlying3
  a3 := Tryd.isAgg3
  z3 := Tryd.sizeOf3
  v3 := Tryd.zeroValue3
  t4 := Tryd.underlying4
  a4 := Tryd.isAgg4
  z4 := Tryd.sizeOf4
  v4 := Tryd.zeroValue4
  t5 := Tryd.underlying5
  a5 := Tryd.isAgg5
  z5 := Tryd.sizeOf5
  v5 := Tryd.zeroValue5
  t9 := Tryd.underlying9
  a9 := Tryd.isAgg9
  z9 := Tryd.sizeOf9
  v9 := Tryd.zeroValue9
  t20 := Tryd.underlying20
  a20 := Tryd.isAgg20
  z20 := Tryd.sizeOf20
  v20 := Tryd.zeroValue20
  t37 := Tryd.underlying96
  a37 := Tryd.isAgg96
  z37 := Tryd.sizeOf96
  v37 := Tryd.zeroValue96
  t46 := Tryd.underlying138
  a46 := Tryd.isAgg138
  z46 := Tryd.sizeOf138
  v46 := Tryd.zeroValue138
  t51 := Tryd.underlying190
  a51 := Tryd.isAgg190
  z51 := Tryd.sizeOf190
  v51 := Tryd.zeroValue190
  t53 := Tryd.underlying193
  a53 := Tryd.isAgg193
  z53 := Tryd.sizeOf193
  v53 := Tryd.zeroValue193
  t171 := Tryd.underlying228
  a171 := Tryd.isAgg228
  z171 := Tryd.sizeOf228
  v171 := Tryd.zeroValue228
  t173 := Tryd.underlying231
  a173 := Tryd.isAgg231
  z173 := Tryd.sizeOf231
  v173 := Tryd.zeroValue231
  t212 := Tryd.underlying241
  a212 := Tryd.isAgg241
  z212 := Tryd.sizeOf241
  v212 := Tryd.zeroValue241
  t213 := Tryd.underlying242
  a213 := Tryd.isAgg242
  z213 := Tryd.sizeOf242
  t232 := Tryd.underlying258
  a232 := Tryd.isAgg258
  z232 := Tryd.sizeOf258
  v232 := Tryd.zeroValue258
  t233 := Tryd.underlying259
  a233 := Tryd.isAgg259
  z233 := Tryd.sizeOf259
  v233 := Tryd.zeroValue259
  g17 := by kernel_rfl
  g18 := by kernel_rfl
  g19 := by kernel_rfl
  i0 := by kernel_rfl
  i2 := by kernel_rfl
  i3 := by kernel_rfl
  i4 := by kernel_rfl
  i5 := by kernel_rfl
  i9 := by kernel_rfl
  i20 := by kernel_rfl
  i37 := by kernel_rfl
  i46 := by kernel_rfl
  i51 := by kernel_rfl
  i53 := by kernel_rfl
  i171 := by kernel_rfl
  i173 := by kernel_rfl
  i212 := by kernel_rfl
  i232 := by kernel_rfl
  i233 := by kernel_rfl
  m17 := by kernel_rfl
  m18 := by kernel_rfl
  m19 := by kernel_rfl
theorem pow10_eq : Go.Lib.pow10Tab = U.pow10L := by kernel_rfl
theorem wk51 : SpecOK Tryd.prog E0 51 itoaS :=
  itoa_ok (ρ := laysRen) laysItoa (g := 5) (by rw [pow10_eq]; kernel_rfl) (by kernel_rfl) (Go.Proofs.enters_of laysItoa.f171 (by kernel_rfl) rfl) rfl
end Go.Proofs.YtdlbnlbajnafdaaDoor
end
section
set_option linter.unusedVariables false
namespace Go.Ev
open Go.RowKit Go.Sort Go.Shelf Go.Proofs
theorem grown_of_below {w w' : World} (h : Below w.heap.size w w') : w.grownBy w' none := ⟨h.os, h.tape, h.output, h.size, fun k hk _ => h.block k hk⟩
theorem lib_ok {P : Program} {E : Env} {f : FuncId} {ks : List Kd} {g : tup ks → SRes} (he : ∀ args w, (callFunc f args).run P w = .ok (.enter f args) w)
    (hu : ∀ x, (g x).upd = [] ∧ (g x).new = [])
    (h : ∀ (C : Ctx) (w : World) (K : KSet) (A : Asg) (x : tup ks) (vs : List Value), C.E = E → HR C w K A [] → All2 (AVR w K A []) (toAVs ks x) vs → (g x).c ≠ some false →
      Calls P f vs.toArray w fun e w' => ∃ v, e = .returned v ∧ w.grownBy w' none ∧ SlotR w' K A [] (g x).rs v) : SpecOK P E f (dspec ks g) := by
  intro F O args bs r hr hc w K A vs H hv
  unfold dspec at hr
  simp only [] at hr
  split at hr
  · split at hr
    · rename_i x hx
      cases hr
      have hv' := packAll_R H hx hv
      refine .inr ⟨he _ _, callsIn_open O ((h _ w K A x vs rfl H hv' hc).mono fun e w' h => ?_)⟩
      obtain ⟨v, rfl, hg, hs⟩ := h
      obtain ⟨H', X⟩ := H.grows hg
      refine ⟨v, rfl, K, A, ?_, ?_, ?_, ?_⟩
      · rw [(hu x).1, (hu x).2]; exact H'
      · rw [(hu x).1, (hu x).2]; exact X
      · rw [(hu x).1, (hu x).2]; exact hs
      · rw [(hu x).1]
    · cases hr
  · cases hr
theorem str1 {w : World} {K : KSet} {A : Asg} {h : Heap} {s : ByteArray} {vs : List Value} (H : All2 (AVR w K A h) (toAVs [.str] (s, ())) vs) : vs = [.string s] := by
  cases H with
  | cons h1 h2 =>
    cases h2
    rw [show _ = _ from h1]
theorem str2 {w : World} {K : KSet} {A : Asg} {h : Heap} {s t : ByteArray} {vs : List Value} (H : All2 (AVR w K A h) (toAVs [.str, .str] (s, t, ())) vs) : vs = [.string s, .string t] := by
  cases H with
  | cons h1 h2 =>
    cases h2 with
    | cons h3 h4 =>
      cases h4
      have e1 : [_] = [Value.string s] := h1
      have e2 : [_] = [Value.string t] := h3
      cases e1
      cases e2
      rfl
def b0 (s : ByteArray) : UInt8 := s.data.getD 0 0
theorem one_byte {s : ByteArray} (h : s.size = 1) : s = ⟨#[b0 s]⟩ := by
  obtain ⟨⟨l⟩⟩ := s
  have h : l.length = 1 := h
  match l, h with
  | [c], _ => rfl
abbrev containsS : FSpec := dspec [.str, .str] fun x => { c := some (decide (ByteArray.size x.2.1 = 1)), rs := .av (.one (.dat .bool (decide (0 ≤ Lib.indexByte x.1.data.toList (b0 x.2.1))))) }
theorem contains_ok {P : Program} {ρ : Go.Shelf.Ren} (L : Lays.n144 P ρ) {E : Env} {f : FuncId} (he : ∀ args w, (callFunc f args).run P w = .ok (.enter f args) w) (hf : ρ.f 144 = f) : SpecOK P E f containsS := by
  subst hf
  refine lib_ok he (fun x => ⟨rfl, rfl⟩) fun C w K A x vs _ H hv hc => ?_
  obtain ⟨s, t, u⟩ := x
  have h1 : t.size = 1 := by
    by_cases h : t.size = 1
    · exact h
    · exact absurd (by show some (decide (t.size = 1)) = some false; rw [decide_eq_false h]) hc
  rw [str2 hv, one_byte h1]
  refine (Any.strings_Contains_one L s (b0 t) w).mono fun e w' h => ?_
  obtain ⟨rfl, rfl⟩ := h
  exact ⟨_, rfl, grown_refl _, rfl⟩
abbrev trimLeftS : FSpec := dspec [.str, .str] fun x => { c := some (decide (ByteArray.size x.2.1 = 1 ∧ (b0 x.2.1).toNat < 128)), rs := .av (.one (.dat .str ⟨(Lib.trimLeftB x.1.data.toList (b0 x.2.1)).toArray⟩)) }
theorem trimLeft_ok {P : Program} {ρ : Go.Shelf.Ren} (L : Lays.n161 P ρ) {E : Env} {f : FuncId} (he : ∀ args w, (callFunc f args).run P w = .ok (.enter f args) w) (hf : ρ.f 161 = f) : SpecOK P E f trimLeftS := by
  subst hf
  refine lib_ok he (fun x => ⟨rfl, rfl⟩) fun C w K A x vs _ H hv hc => ?_
  obtain ⟨s, t, u⟩ := x
  have h1 : t.size = 1 ∧ (b0 t).toNat < 128 := by
    by_cases h : t.size = 1 ∧ (b0 t).toNat < 128
    · exact h
    · exact absurd (by show some (decide (t.size = 1 ∧ (b0 t).toNat < 128)) = some false; rw [decide_eq_false h]) hc
  rw [str2 hv]
  have := Any.strings_TrimLeft_one L s (b0 t) h1.2 w
  rw [← one_byte h1.1] at this
  refine this.mono fun e w' h => ?_
  obtain ⟨rfl, rfl⟩ := h
  exact ⟨_, rfl, grown_refl _, rfl⟩
abbrev indexS : FSpec := dspec [.str, .str] fun x => { c := some (decide (ByteArray.size x.2.1 = 1)), rs := .av (.one (.dat (.int .i64) (Lib.indexByte x.1.data.toList (b0 x.2.1)))) }
theorem index_ok {P : Program} {ρ : Go.Shelf.Ren} (L : Lays.n219 P ρ) {E : Env} {f : FuncId} (he : ∀ args w, (callFunc f args).run P w = .ok (.enter f args) w) (hf : ρ.f 219 = f) : SpecOK P E f indexS := by
  subst hf
  refine lib_ok he (fun x => ⟨rfl, rfl⟩) fun C w K A x vs _ H hv hc => ?_
  obtain ⟨s, t, u⟩ := x
  have h1 : t.size = 1 := by
    by_cases h : t.size = 1
    · exact h
    · exact absurd (by show some (decide (t.size = 1)) = some false; rw [decide_eq_false h]) hc
  rw [str2 hv]
  have := Any.stringslite_Index_one L s (b0 t) w
  rw [← one_byte h1] at this
  refine this.mono fun e w' h => ?_
  obtain ⟨rfl, rfl⟩ := h
  exact ⟨_, rfl, grown_refl _, rfl⟩
theorem ifc_glob {P : Program} {C : Ctx} {w : World} {K : KSet} {A : Asg} {h : Heap} (H : HR C w K A h) {g : Nat} (hg : C.E.glob g = some (.dat .ifc false)) : ∃ t x, w.cell? ⟨g, 0, none⟩ = some (.iface t x) := by
  obtain ⟨b, off, cs, t, fr, e, hk, hc, hR⟩ := H.glob g _ hg
  cases e
  obtain ⟨v, hv, h1⟩ := hR
  rcases h1 with ⟨h1, _⟩ | ⟨_, u, x, rfl⟩
  · cases h1
  · refine ⟨u, x, ?_⟩
    simp only [World.cell?, hc]
    have h2 : cellsAt cs 0 1 = [.iface u x] := hv
    unfold cellsAt at h2
    rw [List.drop_zero] at h2
    obtain ⟨l⟩ := cs
    cases l with
    | nil => simp at h2
    | cons a l =>
      simp at h2
      simp [h2]
def atoiV (s : ByteArray) : Int × Bool := match Lib.atoiAll s.data.toList with
  | .ok v => (v, true)
  | .range => (Lib.atoiSat s.data.toList, false)
  | _ => (0, false)
abbrev atoiS : FSpec := dspec [.str] fun x => { c := some (decide (ByteArray.size x.1 ≤ 1048576)), rs := .tup [.one (.dat (.int .i64) (atoiV x.1).1), .one (.dat .ifc (atoiV x.1).2)] }
theorem atoi_ok {P : Program} {ρ : Go.Shelf.Ren} (L : LaysC.n172 P ρ) {E : Env} {f : FuncId} (he : ∀ args w, (callFunc f args).run P w = .ok (.enter f args) w) (hf : ρ.f 172 = f)
    (hs : E.glob (ρ.g 15) = some (.dat .ifc false)) (hr : E.glob (ρ.g 16) = some (.dat .ifc false)) : SpecOK P E f atoiS := by
  subst hf
  refine lib_ok he (fun x => ⟨rfl, rfl⟩) fun C w K A x vs hE H hv hc => ?_
  obtain ⟨s, u⟩ := x
  have h1 : s.size ≤ 1048576 := by
    by_cases h : s.size ≤ 1048576
    · exact h
    · exact absurd (by show some (decide (s.size ≤ 1048576)) = some false; rw [decide_eq_false h]) hc
  rw [str1 hv]
  subst hE
  obtain ⟨t1, p1, g1⟩ := ifc_glob (P := P) H hs
  obtain ⟨t2, p2, g2⟩ := ifc_glob (P := P) H hr
  show Calls P (ρ.f 172) #[.string s] w fun e w' => ∃ v, e = .returned v ∧ w.grownBy w' none ∧ SlotR w' K A [] (.tup [.one (.dat (.int .i64) (atoiV s).1), .one (.dat .ifc (atoiV s).2)]) v
  unfold atoiV
  cases ha : Lib.atoiAll s.data.toList
  · rename_i v
    refine (Any.strconv_Atoi_ok L s (by omega) v ha w).mono fun e w' h => ?_
    obtain ⟨rfl, h⟩ := h
    refine ⟨_, rfl, ?_, [.int .i64 v, .nilIface], rfl, .cons rfl (.cons ⟨_, rfl, .inl ⟨rfl, rfl⟩⟩ .nil)⟩
    rcases h with rfl | ⟨t, rfl⟩
    · exact grown_refl _
    · exact ⟨rfl, rfl, rfl, by rw [Lib.bytesWorld_size]; exact Nat.le_succ _, fun k hk _ => Lib.bytesWorld_at_old w _ _ k hk⟩
  · refine (Any.strconv_Atoi_syntax L s (by omega) ha _ w g1 (.inr ⟨t1, p1, rfl⟩)).mono fun e w' h => ?_
    obtain ⟨N, rfl, _, _, h⟩ := h
    exact ⟨_, rfl, grown_of_below h, [_, _], rfl, .cons rfl (.cons ⟨_, rfl, .inr ⟨rfl, _, _, rfl⟩⟩ .nil)⟩
  · refine (Any.strconv_Atoi_range L s (by omega) ha _ w g2 (.inr ⟨t2, p2, rfl⟩)).mono fun e w' h => ?_
    obtain ⟨N, rfl, _, _, h⟩ := h
    exact ⟨_, rfl, grown_of_below h, [_, _], rfl, .cons rfl (.cons ⟨_, rfl, .inr ⟨rfl, _, _, rfl⟩⟩ .nil)⟩
abbrev validS : FSpec := dspec [.str] fun x => { c := some (decide (ByteArray.size x.1 ≤ 9223372036854775807)), rs := .av (.one (.dat .bool (Lib.validD x.1.data.toList))) }
theorem tabs_glob {P : Program} {C : Ctx} {w : World} {K : KSet} {A : Asg} {h : Heap} (H : HR C w K A h) {g1 g2 : Nat} {xs : List Int} {ys : List (Int × Int × Unit)} (h1 : C.E.glob g1 = some (.arr (.int .u8) xs)) (h2 : C.E.glob g2 = some (.arr (.pr (.int .u8) (.pr (.int .u8) .un)) ys))
    (e1 : xs = (List.range 256).map fun i => (Lib.firstT i : Int)) (e2 : ys = (List.range 16).map fun i => ((Lib.accLo i : Int), (Lib.accHi i : Int), ())) : Lib.Utf8Tabs g1 g2 w := by
  constructor
  · intro c hc
    obtain ⟨b, off, cs, t, fr, e, hk, hcc, hR, _⟩ := H.glob g1 _ h1
    cases e
    have hl : c < xs.length := by rw [e1]; simpa using hc
    have h3 : cellsAt cs (0 + c * 1) 1 = [.int .u8 (xs.getD c 0)] := hR c hl
    have e3 : xs.getD c 0 = Lib.firstT c := by rw [e1, List.getD_eq_getElem?_getD, List.getElem?_map, List.getElem?_range hc]; rfl
    rw [e3] at h3
    simp only [World.cell?, hcc]
    unfold cellsAt at h3
    rw [Nat.zero_add, Nat.mul_one] at h3
    have h4 := congrArg (·[0]?) h3
    simp only [List.getElem?_take_of_lt (Nat.zero_lt_one), List.getElem?_drop, Nat.add_zero, List.getElem?_cons_zero] at h4
    simpa using h4
  · intro i hi
    obtain ⟨b, off, cs, t, fr, e, hk, hcc, hR, _⟩ := H.glob g2 _ h2
    cases e
    have hl : i < ys.length := by rw [e2]; simpa using hi
    have h3 := hR i hl
    have e3 : ys.getD i (Kd.dflt (.pr (.int .u8) (.pr (.int .u8) .un))) = ((Lib.accLo i : Int), (Lib.accHi i : Int), ()) := by
      rw [e2, List.getD_eq_getElem?_getD, List.getElem?_map, List.getElem?_range hi]; rfl
    rw [e3] at h3
    obtain ⟨l1, l2, q1, q2, l3, l4, q3, q4, q5⟩ := h3
    have q2 : l1 = [.int .u8 (Lib.accLo i)] := q2
    have q4 : l3 = [.int .u8 (Lib.accHi i)] := q4
    have q5 : l4 = [] := q5
    subst q2; subst q4; subst q5
    rw [q3] at q1
    have q1 : (cs.toList.drop (0 + i * 2)).take 2 = [.int .u8 (Lib.accLo i), .int .u8 (Lib.accHi i)] := q1
    rw [Nat.zero_add] at q1
    have h4 := congrArg (·[0]?) q1
    have h5 := congrArg (·[1]?) q1
    simp only [List.getElem?_take_of_lt (show 0 < 2 by omega), List.getElem?_take_of_lt (show 1 < 2 by omega), List.getElem?_drop, Nat.add_zero] at h4 h5
    simp only [World.cell?, hcc]
    constructor
    · simpa [Nat.mul_comm] using h4
    · simpa [Nat.mul_comm] using h5
theorem valid_ok {P : Program} {ρ : Go.Shelf.Ren} (L : Lays.n196 P ρ) {E : Env} {f : FuncId} (he : ∀ args w, (callFunc f args).run P w = .ok (.enter f args) w) (hf : ρ.f 196 = f)
    {xs : List Int} {ys : List (Int × Int × Unit)} (h1 : E.glob (ρ.g 3) = some (.arr (.int .u8) xs)) (h2 : E.glob (ρ.g 4) = some (.arr (.pr (.int .u8) (.pr (.int .u8) .un)) ys))
    (e1 : xs = (List.range 256).map fun i => (Lib.firstT i : Int)) (e2 : ys = (List.range 16).map fun i => ((Lib.accLo i : Int), (Lib.accHi i : Int), ())) : SpecOK P E f validS := by
  subst hf
  refine lib_ok he (fun x => ⟨rfl, rfl⟩) fun C w K A x vs hE H hv hc => ?_
  obtain ⟨s, u⟩ := x
  have h9 : s.size ≤ 9223372036854775807 := by
    by_cases h : s.size ≤ 9223372036854775807
    · exact h
    · exact absurd (by show some (decide (s.size ≤ 9223372036854775807)) = some false; rw [decide_eq_false h]) hc
  rw [str1 hv]
  subst hE
  refine (Any.utf8_ValidString L s w h9 (tabs_glob (P := P) H h1 h2 e1 e2)).mono fun e w' h => ?_
  obtain ⟨rfl, h⟩ := h
  exact ⟨_, rfl, grown_of_below h, rfl⟩
end Go.Ev
end
section
set_option maxRecDepth 100000
namespace Go.Proofs.YtdlbnlbajnafdaaDoor
open Go.Ev
def laysContains_ren : Go.Shelf.Ren := ⟨fun | 144 => 81 | 143 => 139 | 219 => 161 | 217 => 190 | 225 => 191 | 224 => 192 | 267 => 193 | 266 => 206 | 314 => 207 | n => n, fun | 9 => 9 | 4 => 4 | 3 => 3 | 5 => 5 | 46 => 138 | 146 => 191 | 51 => 190 | n => n, fun | 1 => 4 | n => n⟩
theorem laysContains : Go.Proofs.Lays.n144 Tryd.prog laysContains_ren where
  mixed := by kernel_rfl
  f143 := Tryd.func139.trans (congrArg some (by kernel_rfl))
  f144 := Tryd.func81.trans (congrArg some (by kernel_rfl))
  f217 := Tryd.func190.trans (congrArg some (by kernel_rfl))
  f219 := Tryd.func161.trans (congrArg some (by kernel_rfl))
  f224 := Tryd.func192.trans (congrArg some (by kernel_rfl))
  f225 := Tryd.func191.trans (congrArg some (by kernel_rfl))
  f266 := Tryd.func206.trans (congrArg some (by kernel_rfl))
  f267 := Tryd.func193.trans (congrArg some (by kernel_rfl))
  f314 := Tryd.func207.trans (congrArg some (by kernel_rfl))
  t3 := Tryd.underlying3
  a3 := Tryd.isAgg3
  z3 := Tryd.sizeOf3
  v3 := Tryd.zeroValue3
  t4 := Tryd.underlying4
  a4 := Tryd.isAgg4
  z4 := Tryd.sizeOf4
  v4 := Tryd.zeroValue4
  t5 := Tryd.underlying5
  a5 := Tryd.isAgg5
  z5 := Tryd.sizeOf5
  v5 := Tryd.zeroValue5
  t9 := Tryd.underlying9
  a9 := Tryd.isAgg9
  z9 := Tryd.sizeOf9
  v9 := Tryd.zeroValue9
  t46 := Tryd.underlying138
  a46 := Tryd.isAgg138
  z46 := Tryd.sizeOf138
  v46 := Tryd.zeroValue138
  t51 := Tryd.underlying190
  a51 := Tryd.isAgg190
  z51 := Tryd.sizeOf190
  v51 := Tryd.zeroValue190
  t146 := Tryd.underlying191
  a146 := Tryd.isAgg191
  z146 := Tryd.sizeOf191
  v146 := Tryd.zeroValue191
  g1 := by kernel_rfl
def laysTrimLeft_ren : Go.Shelf.Ren := ⟨fun | 161 => 135 | 231 => 111 | 227 => 113 | 233 => 114 | 235 => 116 | 228 => 162 | 197 => 163 | 151 => 164 | 260 => 194 | 152 => 195 | 137 => 208 | 119 => 178 | 224 => 192 | 225 => 191 | 217 => 190 | 266 => 206 | n => n, fun | 9 => 9 | 4 => 4 | 3 => 3 | 5 => 5 | 117 => 165 | 116 => 164 | 0 => 0 | 124 => 168 | 105 => 207 | 21 => 21 | 119 => 212 | 46 => 138 | 139 => 215 | 138 => 214 | n => n, fun | 3 => 2 | 4 => 3 | n => n⟩
theorem laysTrimLeft : Go.Proofs.Lays.n161 Tryd.prog laysTrimLeft_ren where
  mixed := by kernel_rfl
  f119 := Tryd.func178.trans (congrArg some (by kernel_rfl))
  f137 := Tryd.func208.trans (congrArg some (by kernel_rfl))
  f151 := Tryd.func164.trans (congrArg some (by kernel_rfl))
  f152 := Tryd.func195.trans (congrArg some (by kernel_rfl))
  f161 := Tryd.func135.trans (congrArg some (by kernel_rfl))
  f197 := Tryd.func163.trans (congrArg some (by kernel_rfl))
  f217 := Tryd.func190.trans (congrArg some (by kernel_rfl))
  f224 := Tryd.func192.trans (congrArg some (by kernel_rfl))
  f225 := Tryd.func191.trans (congrArg some (by kernel_rfl))
  f227 := Tryd.func113.trans (congrArg some (by kernel_rfl))
  f228 := Tryd.func162.trans (congrArg some (by kernel_rfl))
  f231 := Tryd.func111.trans (congrArg some (by kernel_rfl))
  f233 := Tryd.func114.trans (congrArg some (by kernel_rfl))
  f235 := Tryd.func116.trans (congrArg some (by kernel_rfl))
  f260 := Tryd.func194.trans (congrArg some (by kernel_rfl))
  f266 := Tryd.func206.trans (congrArg some (by kernel_rfl))
  t0 := Tryd.underlying0
  a0 := Tryd.isAgg0
  z0 := Tryd.sizeOf0
  v0 := Tryd.zeroValue0
  t3 := Tryd.underlying3
  a3 := Tryd.isAgg3
  z3 := Tryd.sizeOf3
  v3 := Tryd.zeroValue3
  t4 := Tryd.underlying4
  a4 := Tryd.isAgg4
  z4 := Tryd.sizeOf4
  v4 := Tryd.zeroValue4
  t5 := Tryd.underlying5
  a5 := Tryd.isAgg5
  z5 := Tryd.sizeOf5
  v5 := Tryd.zeroValue5
  t9 := Tryd.underlying9
  a9 := Tryd.isAgg9
  z9 := Tryd.sizeOf9
  v9 := Tryd.zeroValue9
  t21 := Tryd.underlying21
  a21 := Tryd.isAgg21
  z21 := Tryd.sizeOf21
  v21 := Tryd.zeroValue21
  t46 := Tryd.underlying138
  a46 := Tryd.isAgg138
  z46 := Tryd.sizeOf138
  v46 := Tryd.zeroValue138
  t105 := Tryd.underlying207
  a105 := Tryd.isAgg207
  z105 := Tryd.sizeOf207
  v105 := Tryd.zeroValue207
  t116 := Tryd.underlying164
  a116 := Tryd.isAgg164
  z116 := Tryd.sizeOf164
  t117 := Tryd.underlying165
  a117 := Tryd.isAgg165
  z117 := Tryd.sizeOf165
  v117 := Tryd.zeroValue165
  t119 := Tryd.underlying212
  a119 := Tryd.isAgg212
  z119 := Tryd.sizeOf212
  t124 := Tryd.underlying168
  a124 := Tryd.isAgg168
  z124 := Tryd.sizeOf168
  v124 := Tryd.zeroValue168
  t138 := Tryd.underlying214
  a138 := Tryd.isAgg214
  z138 := Tryd.sizeOf214
  v138 := Tryd.zeroValue214
  t139 := Tryd.underlying215
  a139 := Tryd.isAgg215
  z139 := Tryd.sizeOf215
  v139 := Tryd.zeroValue215
  g3 := by kernel_rfl
  g4 := by kernel_rfl
def laysIndex_ren : Go.Shelf.Ren := ⟨fun | 219 => 161 | 217 => 190 | 225 => 191 | 224 => 192 | 267 => 193 | 266 => 206 | 314 => 207 | n => n, fun | 9 => 9 | 3 => 3 | 4 => 4 | 5 => 5 | 46 => 138 | 146 => 191 | 51 => 190 | n => n, fun | 1 => 4 | n => n⟩
theorem laysIndex : Go.Proofs.Lays.n219 Tryd.prog laysIndex_ren where
  mixed := by kernel_rfl
  f217 := Tryd.func190.trans (congrArg some (by kernel_rfl))
  f219 := Tryd.func161.trans (congrArg some (by kernel_rfl))
  f224 := Tryd.func192.trans (congrArg some (by kernel_rfl))
  f225 := Tryd.func191.trans (congrArg some (by kernel_rfl))
  f266 := Tryd.func206.trans (congrArg some (by kernel_rfl))
  f267 := Tryd.func193.trans (congrArg some (by kernel_rfl))
  f314 := Tryd.func207.trans (congrArg some (by kernel_rfl))
  t3 := Tryd.underlying3
  a3 := Tryd.isAgg3
  z3 := Tryd.sizeOf3
  v3 := Tryd.zeroValue3
  t4 := Tryd.underlying4
  a4 := Tryd.isAgg4
  z4 := Tryd.sizeOf4
  v4 := Tryd.zeroValue4
  t5 := Tryd.underlying5
  a5 := Tryd.isAgg5
  z5 := Tryd.sizeOf5
  v5 := Tryd.zeroValue5
  t9 := Tryd.underlying9
  a9 := Tryd.isAgg9
  z9 := Tryd.sizeOf9
  v9 := Tryd.zeroValue9
  t46 := Tryd.underlying138
  a46 := Tryd.isAgg138
  z46 := Tryd.sizeOf138
  v46 := Tryd.zeroValue138
  t51 := Tryd.underlying190
  a51 := Tryd.isAgg190
  z51 := Tryd.sizeOf190
  v51 := Tryd.zeroValue190
  t146 := Tryd.underlying191
  a146 := Tryd.isAgg191
  z146 := Tryd.sizeOf191
  v146 := Tryd.zeroValue191
  g1 := by kernel_rfl
def laysAtoi_ren : Go.Shelf.Ren := ⟨fun | 172 => 170 | 244 => 197 | 245 => 198 | 247 => 209 | 279 => 210 | 280 => 211 | 281 => 212 | 282 => 213 | 287 => 217 | 316 => 218 | 171 => 51 | 205 => 219 | 321 => 220 | 322 => 221 | 243 => 109 | 246 => 160 | 283 => 186 | 284 => 187 | 285 => 188 | 286 => 189 | 129 => 202 | 317 => 201 | 318 => 203 | 319 => 204 | 320 => 205 | 337 => 215 | 338 => 216 | n => n, fun | 9 => 9 | 3 => 3 | 75 => 146 | 76 => 147 | 4 => 4 | 5 => 5 | 167 => 245 | 37 => 96 | 0 => 0 | 85 => 246 | 2 => 2 | 168 => 248 | 53 => 193 | 175 => 253 | 46 => 138 | 210 => 256 | 127 => 196 | 145 => 263 | 143 => 261 | 21 => 21 | 171 => 228 | 173 => 231 | 212 => 241 | 51 => 190 | 20 => 20 | 213 => 242 | 232 => 258 | 233 => 259 | 80 => 150 | n => n, fun | 15 => 6 | 16 => 7 | 17 => 5 | 18 => 8 | 19 => 9 | n => n⟩
theorem laysAtoi : Go.Proofs.LaysC.n172 Tryd.prog laysAtoi_ren where
  mixed := by kernel_rfl
  f129 := Tryd.func202.trans (congrArg some (by kernel_rfl))
  f171 := Tryd.func51.trans (congrArg some (by kernel_rfl))
  f172 := Tryd.func170.trans (congrArg some (by kernel_rfl))
  f205 := Tryd.func219.trans (congrArg some (by kernel_rfl))
  f243 := Tryd.func109.trans (congrArg some (by kernel_rfl))
  f244 := Tryd.func197.trans (congrArg some (by kernel_rfl))
  f245 := Tryd.func198.trans (congrArg some (by kernel_rfl))
  f246 := Tryd.func160.trans (congrArg some (by kernel_rfl))
  f247 := Tryd.func209.trans (congrArg some (by kernel_rfl))
  f279 := Tryd.func210.trans (congrArg some (by kernel_rfl))
  f280 := Tryd.func211.trans (congrArg some (by kernel_rfl))
  f281 := Tryd.func212.trans (congrArg some (by kernel_rfl))
  f282 := Tryd.func213.trans (congrArg some (by kernel_rfl))
  f283 := Tryd.func186.trans (congrArg some (by kernel_rfl))
  f284 := Tryd.func187.trans (congrArg some (by kernel_rfl))
  f285 := Tryd.func188.trans (congrArg some (by kernel_rfl))
  f286 := Tryd.func189.trans (congrArg some (by kernel_rfl))
  f287 := Tryd.func217.trans (congrArg some (by kernel_rfl))
  f316 := Tryd.func218.trans (congrArg some (by kernel_rfl))
  f317 := Tryd.func201.trans (congrArg some (by kernel_rfl))
  f318 := Tryd.func203.trans (congrArg some (by kernel_rfl))
  f319 := Tryd.func204.trans (congrArg some (by kernel_rfl))
  f320 := Tryd.func205.trans (congrArg some (by kernel_rfl))
  f321 := Tryd.func220.trans (congrArg some (by kernel_rfl))
  f322 := Tryd.func221.trans (congrArg some (by kernel_rfl))
  f337 := Tryd.func215.trans (congrArg some (by kernel_rfl))
  f338 := Tryd.func216.trans (congrArg some (by kernel_rfl))
  t0 := Tryd.underlying0
  a0 := Tryd.isAgg0
  z0 := Tryd.sizeOf0
  v0 := Tryd.zeroValue0
  t2 := Tryd.underlying2
  a2 := Tryd.isAgg2
  z2 := Tryd.sizeOf2
  v2 := Tryd.zeroValue2
  t3 := Tryd.underlying3
  a3 := Tryd.isAgg3
  z3 := Tryd.sizeOf3
  v3 := Tryd.zeroValue3
  t4 := Tryd.underlying4
  a4 := Tryd.isAgg4
  z4 := Tryd.sizeOf4
  v4 := Tryd.zeroValue4
  t5 := Tryd.underlying5
  a5 := Tryd.isAgg5
  z5 := Tryd.sizeOf5
  v5 := Tryd.zeroValue5
  t9 := Tryd.underlying9
  a9 := Tryd.isAgg9
  z9 := Tryd.sizeOf9
  v9 := Tryd.zeroValue9
  t20 := Tryd.underlying20
  a20 := Tryd.isAgg20
  z20 := Tryd.sizeOf20
  v20 := Tryd.zeroValue20
  t21 := Tryd.underlying21
  a21 := Tryd.isAgg21
  z21 := Tryd.sizeOf21
  v21 := Tryd.zeroValue21
  t37 := Tryd.underlying96
  a37 := Tryd.isAgg96
  z37 := Tryd.sizeOf96
  v37 := Tryd.zeroValue96
  t46 := Tryd.underlying138
  a46 := Tryd.isAgg138
  z46 := Tryd.sizeOf138
  v46 := Tryd.zeroValue138
  t51 := Tryd.underlying190
  a51 := Tryd.isAgg190
  z51 := Tryd.sizeOf190
  v51 := Tryd.zeroValue190
  t53 := Tryd.underlying193
  a53 := Tryd.isAgg193
  z53 := Tryd.sizeOf193
  v53 := Tryd.zeroValue193
  t75 := Tryd.underlying146
  a75 := Tryd.isAgg146
  z75 := Tryd.sizeOf146
  v75 := Tryd.zeroValue146
  t76 := Tryd.underlying147
  a76 := Tryd.isAgg147
  z76 := Tryd.sizeOf147
  v76 := Tryd.zeroValue147
  t85 := Tryd.underlying246
  a85 := Tryd.isAgg246
  z85 := Tryd.sizeOf246
  v85 := Tryd.zeroValue246
  t127 := Tryd.underlying196
  a127 := Tryd.isAgg196
  z127 := Tryd.sizeOf196
  v127 := Tryd.zeroValue196
  t143 := Tryd.underlying261
  a143 := Tryd.isAgg261
  z143 := Tryd.sizeOf261
  v143 := Tryd.zeroValue261
  t145 := Tryd.underlying263
  a145 := Tryd.isAgg263
  z145 := Tryd.sizeOf263
  v145 := Tryd.zeroValue263
  t167 := Tryd.underlying245
  a167 := Tryd.isAgg245
  z167 := Tryd.sizeOf245
  v167 := Tryd.zeroValue245
  t168 := Tryd.underlying248
  a168 := Tryd.isAgg248
  z168 := Tryd.sizeOf248
  v168 := Tryd.zeroValue248
  t171 := Tryd.underlying228
  a171 := Tryd.isAgg228
  z171 := Tryd.sizeOf228
  v171 := Tryd.zeroValue228
  t173 := Tryd.underlying231
  a173 := Tryd.isAgg231
  z173 := Tryd.sizeOf231
  v173 := Tryd.zeroValue231
  t175 := Tryd.underlying253
  a175 := Tryd.isAgg253
  z175 := Tryd.sizeOf253
  v175 := Tryd.zeroValue253
  t210 := Tryd.underlying256
  a210 := Tryd.isAgg256
  z210 := Tryd.sizeOf256
  v210 := Tryd.zeroValue256
  t212 := Tryd.underlying241
  a212 := Tryd.isAgg241
  z212 := Tryd.sizeOf241
  v212 := Tryd.zeroValue241
  t213 := Tryd.underlying242
  a213 := Tryd.isAgg242
  z213 := Tryd.sizeOf242
  t232 := Tryd.underlying258
  a232 := Tryd.isAgg258
  z232 := Tryd.sizeOf258
  v232 := Tryd.zeroValue258
  t233 := Tryd.underlying259
  a233 := Tryd.isAgg259
  z233 := Tryd.sizeOf259
  v233 := Tryd.zeroValue259
  g15 := by kernel_rfl
  g16 := by kernel_rfl
  g17 := by kernel_rfl
  g18 := by kernel_rfl
  g19 := by kernel_rfl
  t80 := Tryd.underlying150
  a80 := Tryd.isAgg150
  z80 := Tryd.sizeOf150
  v80 := Tryd.zeroValue150
  i0 := by kernel_rfl
  i2 := by kernel_rfl
  i3 := by kernel_rfl
  i4 := by kernel_rfl
  i5 := by kernel_rfl
  i9 := by kernel_rfl
  i20 := by kernel_rfl
  i21 := by kernel_rfl
  i37 := by kernel_rfl
  i46 := by kernel_rfl
  i51 := by kernel_rfl
  i53 := by kernel_rfl
  i75 := by kernel_rfl
  i76 := by kernel_rfl
  i80 := by kernel_rfl
  i85 := by kernel_rfl
  i127 := by kernel_rfl
  i143 := by kernel_rfl
  i145 := by kernel_rfl
  i167 := by kernel_rfl
  i168 := by kernel_rfl
  i171 := by kernel_rfl
  i173 := by kernel_rfl
  i175 := by kernel_rfl
  i210 := by kernel_rfl
  i212 := by kernel_rfl
  i232 := by kernel_rfl
  i233 := by kernel_rfl
  m15 := by kernel_rfl
  m16 := by kernel_rfl
  m17 := by kernel_rfl
  m18 := by kernel_rfl
  m19 := by kernel_rfl
  c0 := by kernel_rfl
  c2 := by kernel_rfl
  c3 := by kernel_rfl
  c4 := by kernel_rfl
  c5 := by kernel_rfl
  c9 := by kernel_rfl
  c20 := by kernel_rfl
  c21 := by kernel_rfl
  c37 := by kernel_rfl
  c46 := by kernel_rfl
  c51 := by kernel_rfl
  c53 := by kernel_rfl
  c75 := by kernel_rfl
  c76 := by kernel_rfl
  c80 := by kernel_rfl
  c85 := by kernel_rfl
  c127 := by kernel_rfl
  c143 := by kernel_rfl
  c145 := by kernel_rfl
  c167 := by kernel_rfl
  c168 := by kernel_rfl
  c171 := by kernel_rfl
  c173 := by kernel_rfl
  c175 := by kernel_rfl
  c210 := by kernel_rfl
  c212 := by kernel_rfl
  c213 := by kernel_rfl
  c232 := by kernel_rfl
  c233 := by kernel_rfl
def laysValid_ren : Go.Shelf.Ren := ⟨fun | 196 => 138 | 259 => 171 | n => n, fun | 9 => 9 | 4 => 4 | 3 => 3 | 5 => 5 | 12 => 12 | 119 => 212 | 0 => 0 | 46 => 138 | 139 => 215 | 138 => 214 | 53 => 193 | n => n, fun | 3 => 2 | 4 => 3 | n => n⟩
theorem laysValid : Go.Proofs.Lays.n196 Tryd.prog laysValid_ren where
  mixed := by kernel_rfl
  f196 := Tryd.func138.trans (congrArg some (by kernel_rfl))
  f259 := Tryd.func171.trans (congrArg some (by kernel_rfl))
  t0 := Tryd.underlying0
  a0 := Tryd.isAgg0
  z0 := Tryd.sizeOf0
  v0 := Tryd.zeroValue0
  t3 := Tryd.underlying3
  a3 := Tryd.isAgg3
  z3 := Tryd.sizeOf3
  v3 := Tryd.zeroValue3
  t4 := Tryd.underlying4
  a4 := Tryd.isAgg4
  z4 := Tryd.sizeOf4
  v4 := Tryd.zeroValue4
  t5 := Tryd.underlying5
  a5 := Tryd.isAgg5
  z5 := Tryd.sizeOf5
  v5 := Tryd.zeroValue5
  t9 := Tryd.underlying9
  a9 := Tryd.isAgg9
  z9 := Tryd.sizeOf9
  v9 := Tryd.zeroValue9
  t12 := Tryd.underlying12
  a12 := Tryd.isAgg12
  z12 := Tryd.sizeOf12
  v12 := Tryd.zeroValue12
  t46 := Tryd.underlying138
  a46 := Tryd.isAgg138
  z46 := Tryd.sizeOf138
  v46 := Tryd.zeroValue138
  t53 := Tryd.underlying193
  a53 := Tryd.isAgg193
  z53 := Tryd.sizeOf193
  v53 := Tryd.zeroValue193
  t119 := Tryd.underlying212
  a119 := Tryd.isAgg212
  z119 := Tryd.sizeOf212
  t138 := Tryd.underlying214
  a138 := Tryd.isAgg214
  z138 := Tryd.sizeOf214
  v138 := Tryd.zeroValue214
  t139 := Tryd.underlying215
  a139 := Tryd.isAgg215
  z139 := Tryd.sizeOf215
  v139 := Tryd.zeroValue215
  g3 := by kernel_rfl
  g4 := by kernel_rfl
theorem wk81 : SpecOK Tryd.prog E0 81 containsS := contains_ok (ρ := laysContains_ren) laysContains (Go.Proofs.enters_of laysContains.f144 (by kernel_rfl) rfl) rfl
theorem wk135 : SpecOK Tryd.prog E0 135 trimLeftS := trimLeft_ok (ρ := laysTrimLeft_ren) laysTrimLeft (Go.Proofs.enters_of laysTrimLeft.f161 (by kernel_rfl) rfl) rfl
theorem wk161 : SpecOK Tryd.prog E0 161 indexS := index_ok (ρ := laysIndex_ren) laysIndex (Go.Proofs.enters_of laysIndex.f219 (by kernel_rfl) rfl) rfl
theorem wk138 : SpecOK Tryd.prog E0 138 validS := valid_ok (ρ := laysValid_ren) laysValid (Go.Proofs.enters_of laysValid.f196 (by kernel_rfl) rfl) rfl (xs := U.firstL) (ys := U.accL) (by kernel_rfl) (by kernel_rfl) rfl rfl
end Go.Proofs.YtdlbnlbajnafdaaDoor
end
section
set_option linter.unusedVariables false
namespace Go.Ev
open Go.RowKit
theorem SpecOK.lift {P : Program} {E E' : Env} {f : FuncId} {sp : FSpec} (h : SpecOK P E f sp) (hg : ∀ g p, E.glob g = some p → E'.glob g = some p) : SpecOK P E' f sp := fun F O args bs r hr hc w K A vs H hv =>
  (h F O args bs r hr hc w K A vs ⟨H.blk, H.inj, H.own, H.kset, H.k0, fun g p hp => H.glob g p (hg g p hp), H.os, H.tape, H.output, H.size, H.frame⟩ hv).mono
    fun v w' ⟨K', A', a, b, c⟩ => ⟨K', A', ⟨a.blk, a.inj, a.own, a.kset, a.k0, fun g p hp => b.leaf (H.glob g p hp), a.os, a.tape, a.output, a.size, a.frame⟩, b, c⟩
end Go.Ev
end
section
set_option maxRecDepth 100000
namespace Go.Proofs.YtdlbnlbajnafdaaDoor
open Go.Ev
theorem gl_of {g : Nat} {p : GV} (h : gl g = some p) : Nat.beq g 2 = true ∨ Nat.beq g 3 = true ∨ Nat.beq g 5 = true := by
  unfold gl at h
  cases h2 : Nat.beq g 2 with
  | true => exact .inl rfl
  | false =>
    cases h3 : Nat.beq g 3 with
    | true => exact .inr (.inl rfl)
    | false =>
      cases h5 : Nat.beq g 5 with
      | true => exact .inr (.inr rfl)
      | false => rw [h2, h3, h5] at h; cases h
namespace Cm
def gl (g : Nat) : Option GV := bif Nat.beq g 0 then some (.arr wordk U.wordsL) else bif Nat.beq g 6 then some (.dat .ifc false) else bif Nat.beq g 7 then some (.dat .ifc false) else Go.Proofs.YtdlbnlbajnafdaaDoor.gl g
def E0 : Env := { tt := tt, glob := gl }
theorem up : ∀ g p, Go.Proofs.YtdlbnlbajnafdaaDoor.E0.glob g = some p → E0.glob g = some p := fun g p h => by
  have h : Go.Proofs.YtdlbnlbajnafdaaDoor.gl g = some p := h
  show gl g = some p
  rcases gl_of h with e | e | e <;> rw [Nat.eq_of_beq_eq_true e] at h ⊢ <;> exact h
theorem wk135 : SpecOK Tryd.prog E0 135 trimLeftS := Go.Proofs.YtdlbnlbajnafdaaDoor.wk135.lift up
theorem wk138 : SpecOK Tryd.prog E0 138 validS := Go.Proofs.YtdlbnlbajnafdaaDoor.wk138.lift up
theorem wk140 : SpecOK Tryd.prog E0 140 w140 := Go.Proofs.YtdlbnlbajnafdaaDoor.wk140.lift up
theorem wk161 : SpecOK Tryd.prog E0 161 indexS := Go.Proofs.YtdlbnlbajnafdaaDoor.wk161.lift up
theorem wk51 : SpecOK Tryd.prog E0 51 itoaS := Go.Proofs.YtdlbnlbajnafdaaDoor.wk51.lift up
theorem wk77 : SpecOK Tryd.prog E0 77 w77 := Go.Proofs.YtdlbnlbajnafdaaDoor.wk77.lift up
theorem wk81 : SpecOK Tryd.prog E0 81 containsS := Go.Proofs.YtdlbnlbajnafdaaDoor.wk81.lift up
theorem wk91 : SpecOK Tryd.prog E0 91 w91 := Go.Proofs.YtdlbnlbajnafdaaDoor.wk91.lift up
theorem wk137' : SpecOK Tryd.prog E0 137 Go.Proofs.YtdlbnlbajnafdaaDoor.w137 := Go.Proofs.YtdlbnlbajnafdaaDoor.wk137.lift up
theorem wk144' : SpecOK Tryd.prog E0 144 Go.Proofs.YtdlbnlbajnafdaaDoor.Z.w144 := Go.Proofs.YtdlbnlbajnafdaaDoor.Z.wk144.lift up
theorem wk170 : SpecOK Tryd.prog E0 170 atoiS := atoi_ok (ρ := laysAtoi_ren) laysAtoi (Go.Proofs.enters_of laysAtoi.f172 (by kernel_rfl) rfl) rfl (by kernel_rfl) (by kernel_rfl)
end Cm
end Go.Proofs.YtdlbnlbajnafdaaDoor
end
section
set_option linter.unusedVariables false
set_option linter.unusedSimpArgs false
set_option maxRecDepth 20000
set_option maxHeartbeats 4000000
open Go Go.Ev
namespace Go.Proofs.YtdlbnlbajnafdaaDoor
namespace Cm
def d78 (xa : Int) : Tr (Bool) :=
 Tr.ite (decide ((-1000 : Int) ≤ xa)) (Tr.ret (decide (xa ≤ (1000 : Int)))) (Tr.ret false)
def e78 (r : Bool) : FRes := { rs := Slot.av (AV.one (Leaf.dat Kd.bool r)), upd := [], new := [] }
@[reducible] def a78 : List AK := [AK.d (.int .i64)]
@[reducible] def b78 : List BK := []
theorem t78 (xa : Int) : evFn (E0) Tryd.f78 [PM.data Kd.bool] (akAV a78 (xa, ())) (bkBs b78 ()) = (d78 xa).map e78 := by kernel_rfl
def s78' (G : akT a78 → Bool) : FSpec := aspec0 a78 b78 e78 (fun x _ => G x)
theorem k78' {G : akT a78 → Bool} (hd : ∀ (xa : Int), (d78 xa).val = some (G (xa, ()))) (IO : ItOK Tryd.prog (E0) := by exact itOK_none rfl) (L : ∀ c, Tryd.f78.body = some c → LsOK (evI 2) ((E0).lend 0) c := by exact fun c _ => LsOK_none rfl c) : SpecOK Tryd.prog E0 78 (s78' G) :=
  aspec0_ok (ak := a78) (bl := b78) (e := e78) (g := fun x _ => G x) (E0 := E0) (E := E0) tab .nil rfl rfl hm Tryd.func78 (by kernel_rfl) [PM.data Kd.bool] (fun X Y => by obtain ⟨xa, _⟩ := X; exact val_of (t78 xa) (hd xa)) IO L
def d82 (xa : Int) : Tr (Bool) :=
 Tr.ite (decide ((-1000 : Int) ≤ xa)) (Tr.ret (decide (xa ≤ (1000 : Int)))) (Tr.ret false)
def e82 (r : Bool) : FRes := { rs := Slot.av (AV.one (Leaf.dat Kd.bool r)), upd := [], new := [] }
@[reducible] def a82 : List AK := [AK.d (.int .i64)]
@[reducible] def b82 : List BK := []
theorem t82 (xa : Int) : evFn (E0) Tryd.f82 [PM.data Kd.bool] (akAV a82 (xa, ())) (bkBs b82 ()) = (d82 xa).map e82 := by kernel_rfl
def s82' (G : akT a82 → Bool) : FSpec := aspec0 a82 b82 e82 (fun x _ => G x)
theorem k82' {G : akT a82 → Bool} (hd : ∀ (xa : Int), (d82 xa).val = some (G (xa, ()))) (IO : ItOK Tryd.prog (E0) := by exact itOK_none rfl) (L : ∀ c, Tryd.f82.body = some c → LsOK (evI 2) ((E0).lend 0) c := by exact fun c _ => LsOK_none rfl c) : SpecOK Tryd.prog E0 82 (s82' G) :=
  aspec0_ok (ak := a82) (bl := b82) (e := e82) (g := fun x _ => G x) (E0 := E0) (E := E0) tab .nil rfl rfl hm Tryd.func82 (by kernel_rfl) [PM.data Kd.bool] (fun X Y => by obtain ⟨xa, _⟩ := X; exact val_of (t82 xa) (hd xa)) IO L
def d75 (xa : Bool) : Tr (ByteArray) :=
 Tr.ite xa (Tr.ret { data := #[OfNat.ofNat (111 : Nat), OfNat.ofNat (110 : Nat)] }) (Tr.ret { data := #[OfNat.ofNat (111 : Nat), OfNat.ofNat (102 : Nat), OfNat.ofNat (102 : Nat)] })
def e75 (r : ByteArray) : FRes := { rs := Slot.av (AV.one (Leaf.dat Kd.str r)), upd := [], new := [] }
@[reducible] def a75 : List AK := [AK.d Kd.bool]
@[reducible] def b75 : List BK := []
theorem t75 (xa : Bool) : evFn (E0) Tryd.f75 [PM.data Kd.str] (akAV a75 (xa, ())) (bkBs b75 ()) = (d75 xa).map e75 := by kernel_rfl
def s75' (G : akT a75 → ByteArray) : FSpec := aspec0 a75 b75 e75 (fun x _ => G x)
theorem k75' {G : akT a75 → ByteArray} (hd : ∀ (xa : Bool), (d75 xa).val = some (G (xa, ()))) (IO : ItOK Tryd.prog (E0) := by exact itOK_none rfl) (L : ∀ c, Tryd.f75.body = some c → LsOK (evI 2) ((E0).lend 0) c := by exact fun c _ => LsOK_none rfl c) : SpecOK Tryd.prog E0 75 (s75' G) :=
  aspec0_ok (ak := a75) (bl := b75) (e := e75) (g := fun x _ => G x) (E0 := E0) (E := E0) tab .nil rfl rfl hm Tryd.func75 (by kernel_rfl) [PM.data Kd.str] (fun X Y => by obtain ⟨xa, _⟩ := X; exact val_of (t75 xa) (hd xa)) IO L
def d79 (xa : ByteArray) : Tr (Bool) :=
 Tr.ite (decide (ByteArray.size xa ≤ (9223372036854775807 : Nat))) (Tr.ret (Lib.validD xa.data.toList)) Tr.fail
def e79 (r : Bool) : FRes := { rs := Slot.av (AV.one (Leaf.dat Kd.bool r)), upd := [], new := [] }
@[reducible] def a79 : List AK := [AK.d Kd.str]
@[reducible] def b79 : List BK := []
theorem t79 (xa : ByteArray) : evFn (Env.withFns E0 [((138 : Nat), validS)]) Tryd.f79 [PM.data Kd.bool] (akAV a79 (xa, ())) (bkBs b79 ()) = (d79 xa).map e79 := by kernel_rfl
def s79 (C : akT a79 → Bool) (G : akT a79 → Bool) : FSpec := aspec a79 b79 e79 (fun x _ => C x) (fun x _ => G x)
theorem k79 {C : akT a79 → Bool} {G : akT a79 → Bool} (hd : ∀ (xa : ByteArray), C (xa, ()) = true → (d79 xa).val = some (G (xa, ()))) (IO : ItOK Tryd.prog (Env.withFns E0 [((138 : Nat), validS)]) := by exact itOK_none rfl) (L : ∀ c, Tryd.f79.body = some c → LsOK (evI 2) ((Env.withFns E0 [((138 : Nat), validS)]).lend 0) c := by exact fun c _ => LsOK_none rfl c) : SpecOK Tryd.prog E0 79 (s79 C G) :=
  aspec_ok (ak := a79) (bl := b79) (e := e79) (c := fun x _ => C x) (g := fun x _ => G x) (E0 := E0) (E := Env.withFns E0 [((138 : Nat), validS)]) tab (.cons wk138 .nil) rfl rfl hm Tryd.func79 (by kernel_rfl) [PM.data Kd.bool] (fun X Y H => by obtain ⟨xa, _⟩ := X; exact val_of (t79 xa) (hd xa H)) IO L
def d136 (xa1 : ByteArray) (xa2 : Bool) : Tr (Int × Bool) :=
 let v1 : ByteArray := (itoaB (atoiV xa1).fst)
 Tr.ite (decide (ByteArray.size xa1 ≤ (1048576 : Nat))) (Tr.ite (atoiV xa1).snd (Tr.ite (!xa2) (Tr.ite (decide ((-9223372036854775808 : Int) ≤ (atoiV xa1).fst ∧ (atoiV xa1).fst ≤ (9223372036854775807 : Int))) (Tr.ret ((atoiV xa1).fst, decide (v1 = xa1))) Tr.fail) (Tr.ret ((atoiV xa1).fst, false))) (Tr.ret ((atoiV xa1).fst, false))) Tr.fail
def e136 (r : Int × Bool) : FRes := { rs := Slot.tup [AV.one (Leaf.dat (.int .i64) r.fst), AV.one (Leaf.dat Kd.bool r.snd)], upd := [], new := [] }
@[reducible] def a136 : List AK := [AK.d (Kd.pr Kd.str (Kd.pr Kd.bool Kd.un))]
@[reducible] def b136 : List BK := []
theorem t136 (xa1 : ByteArray) (xa2 : Bool) : evFn (Env.withFns E0 [((170 : Nat), atoiS), ((51 : Nat), itoaS)]) Tryd.f136 [PM.data (.int .i64), PM.data Kd.bool] (akAV a136 ((xa1, xa2, ()), ())) (bkBs b136 ()) = (d136 xa1 xa2).map e136 := by kernel_rfl
def s136 (C : akT a136 → Bool) (G : akT a136 → Int × Bool) : FSpec := aspec a136 b136 e136 (fun x _ => C x) (fun x _ => G x)
theorem k136 {C : akT a136 → Bool} {G : akT a136 → Int × Bool} (hd : ∀ (xa1 : ByteArray) (xa2 : Bool), C ((xa1, xa2, ()), ()) = true → (d136 xa1 xa2).val = some (G ((xa1, xa2, ()), ()))) (IO : ItOK Tryd.prog (Env.withFns E0 [((170 : Nat), atoiS), ((51 : Nat), itoaS)]) := by exact itOK_none rfl) (L : ∀ c, Tryd.f136.body = some c → LsOK (evI 2) ((Env.withFns E0 [((170 : Nat), atoiS), ((51 : Nat), itoaS)]).lend 0) c := by exact fun c _ => LsOK_none rfl c) : SpecOK Tryd.prog E0 136 (s136 C G) :=
  aspec_ok (ak := a136) (bl := b136) (e := e136) (c := fun x _ => C x) (g := fun x _ => G x) (E0 := E0) (E := Env.withFns E0 [((170 : Nat), atoiS), ((51 : Nat), itoaS)]) tab (.cons wk170 (.cons wk51 .nil)) rfl rfl hm Tryd.func136 (by kernel_rfl) [PM.data (.int .i64), PM.data Kd.bool] (fun X Y H => by obtain ⟨⟨xa1, ⟨xa2, _⟩⟩, _⟩ := X; exact val_of (t136 xa1 xa2) (hd xa1 xa2 H)) IO L
def d72 (xa : Int) : Tr (ByteArray) :=
 Tr.ite (inB xa (22 : Nat)) (Tr.ret (List.getD [{ data := #[] }, { data := #[OfNat.ofNat (115 : Nat), OfNat.ofNat (101 : Nat), OfNat.ofNat (108 : Nat), OfNat.ofNat (101 : Nat), OfNat.ofNat (99 : Nat), OfNat.ofNat (116 : Nat)] }, { data := #[OfNat.ofNat (110 : Nat), OfNat.ofNat (101 : Nat), OfNat.ofNat (120 : Nat), OfNat.ofNat (116 : Nat)] }, { data := #[OfNat.ofNat (102 : Nat), OfNat.ofNat (108 : Nat), OfNat.ofNat (105 : Nat), OfNat.ofNat (112 : Nat)] }, { data := #[OfNat.ofNat (102 : Nat), OfNat.ofNat (111 : Nat), OfNat.ofNat (99 : Nat), OfNat.ofNat (117 : Nat), OfNat.ofNat (115 : Nat)] }, { data := #[OfNat.ofNat (103 : Nat), OfNat.ofNat (111 : Nat)] }, { data := #[OfNat.ofNat (122 : Nat), OfNat.ofNat (111 : Nat), OfNat.ofNat (111 : Nat), OfNat.ofNat (109 : Nat)] }, { data := #[OfNat.ofNat (99 : Nat), OfNat.ofNat (111 : Nat), OfNat.ofNat (112 : Nat), OfNat.ofNat (121 : Nat)] }, { data := #[OfNat.ofNat (109 : Nat), OfNat.ofNat (111 : Nat), OfNat.ofNat (118 : Nat), OfNat.ofNat (101 : Nat)] }, { data := #[OfNat.ofNat (102 : Nat), OfNat.ofNat (111 : Nat), OfNat.ofNat (108 : Nat), OfNat.ofNat (108 : Nat), OfNat.ofNat (111 : Nat), OfNat.ofNat (119 : Nat)] }, { data := #[OfNat.ofNat (115 : Nat), OfNat.ofNat (116 : Nat), OfNat.ofNat (97 : Nat), OfNat.ofNat (116 : Nat), OfNat.ofNat (117 : Nat), OfNat.ofNat (115 : Nat)] }, { data := #[OfNat.ofNat (119 : Nat), OfNat.ofNat (105 : Nat), OfNat.ofNat (110 : Nat), OfNat.ofNat (100 : Nat), OfNat.ofNat (111 : Nat), OfNat.ofNat (119 : Nat)] }, { data := #[OfNat.ofNat (99 : Nat), OfNat.ofNat (108 : Nat), OfNat.ofNat (111 : Nat), OfNat.ofNat (115 : Nat), OfNat.ofNat (101 : Nat)] }, { data := #[OfNat.ofNat (115 : Nat), OfNat.ofNat (112 : Nat), OfNat.ofNat (108 : Nat), OfNat.ofNat (105 : Nat), OfNat.ofNat (116 : Nat)] }, { data := #[OfNat.ofNat (107 : Nat), OfNat.ofNat (105 : Nat), OfNat.ofNat (108 : Nat), OfNat.ofNat (108 : Nat)] }, { data := #[OfNat.ofNat (108 : Nat), OfNat.ofNat (97 : Nat), OfNat.ofNat (121 : Nat), OfNat.ofNat (111 : Nat), OfNat.ofNat (117 : Nat), OfNat.ofNat (116 : Nat)] }, { data := #[OfNat.ofNat (116 : Nat), OfNat.ofNat (97 : Nat), OfNat.ofNat (107 : Nat), OfNat.ofNat (101 : Nat)] }, { data := #[OfNat.ofNat (108 : Nat), OfNat.ofNat (101 : Nat), OfNat.ofNat (97 : Nat), OfNat.ofNat (118 : Nat), OfNat.ofNat (101 : Nat)] }, { data := #[OfNat.ofNat (115 : Nat), OfNat.ofNat (101 : Nat), OfNat.ofNat (110 : Nat), OfNat.ofNat (100 : Nat)] }, { data := #[OfNat.ofNat (121 : Nat), OfNat.ofNat (97 : Nat), OfNat.ofNat (110 : Nat), OfNat.ofNat (107 : Nat)] }, { data := #[OfNat.ofNat (112 : Nat), OfNat.ofNat (97 : Nat), OfNat.ofNat (115 : Nat), OfNat.ofNat (116 : Nat), OfNat.ofNat (101 : Nat)] }, { data := #[OfNat.ofNat (100 : Nat), OfNat.ofNat (101 : Nat), OfNat.ofNat (116 : Nat), OfNat.ofNat (97 : Nat), OfNat.ofNat (99 : Nat), OfNat.ofNat (104 : Nat)] }] (Int.toNat xa) ByteArray.empty)) Tr.fail
def e72 (r : ByteArray) : FRes := { rs := Slot.av (AV.one (Leaf.dat Kd.str r)), upd := [], new := [] }
@[reducible] def a72 : List AK := [AK.d (.int .i64)]
@[reducible] def b72 : List BK := []
theorem t72 (xa : Int) : evFn (E0) Tryd.f72 [PM.data Kd.str] (akAV a72 (xa, ())) (bkBs b72 ()) = (d72 xa).map e72 := by kernel_rfl
def s72 (C : akT a72 → Bool) (G : akT a72 → ByteArray) : FSpec := aspec a72 b72 e72 (fun x _ => C x) (fun x _ => G x)
theorem k72 {C : akT a72 → Bool} {G : akT a72 → ByteArray} (hd : ∀ (xa : Int), C (xa, ()) = true → (d72 xa).val = some (G (xa, ()))) (IO : ItOK Tryd.prog (E0) := by exact itOK_none rfl) (L : ∀ c, Tryd.f72.body = some c → LsOK (evI 2) ((E0).lend 0) c := by exact fun c _ => LsOK_none rfl c) : SpecOK Tryd.prog E0 72 (s72 C G) :=
  aspec_ok (ak := a72) (bl := b72) (e := e72) (c := fun x _ => C x) (g := fun x _ => G x) (E0 := E0) (E := E0) tab .nil rfl rfl hm Tryd.func72 (by kernel_rfl) [PM.data Kd.str] (fun X Y H => by obtain ⟨xa, _⟩ := X; exact val_of (t72 xa) (hd xa H)) IO L
def d73 (xa : Int) : Tr (Int) :=
 Tr.ite (inB xa (22 : Nat)) (Tr.ret (List.getD [(0 : Int), (1 : Int), (1 : Int), (0 : Int), (1 : Int), (1 : Int), (0 : Int), (3 : Int), (2 : Int), (1 : Int), (3 : Int), (4 : Int), (1 : Int), (1 : Int), (1 : Int), (1 : Int), (1 : Int), (0 : Int), (4 : Int), (0 : Int), (0 : Int), (0 : Int)] (Int.toNat xa) (0 : Int))) Tr.fail
def e73 (r : Int) : FRes := { rs := Slot.av (AV.one (Leaf.dat (.int .i64) r)), upd := [], new := [] }
@[reducible] def a73 : List AK := [AK.d (.int .i64)]
@[reducible] def b73 : List BK := []
theorem t73 (xa : Int) : evFn (E0) Tryd.f73 [PM.data (.int .i64)] (akAV a73 (xa, ())) (bkBs b73 ()) = (d73 xa).map e73 := by kernel_rfl
def s73 (C : akT a73 → Bool) (G : akT a73 → Int) : FSpec := aspec a73 b73 e73 (fun x _ => C x) (fun x _ => G x)
theorem k73 {C : akT a73 → Bool} {G : akT a73 → Int} (hd : ∀ (xa : Int), C (xa, ()) = true → (d73 xa).val = some (G (xa, ()))) (IO : ItOK Tryd.prog (E0) := by exact itOK_none rfl) (L : ∀ c, Tryd.f73.body = some c → LsOK (evI 2) ((E0).lend 0) c := by exact fun c _ => LsOK_none rfl c) : SpecOK Tryd.prog E0 73 (s73 C G) :=
  aspec_ok (ak := a73) (bl := b73) (e := e73) (c := fun x _ => C x) (g := fun x _ => G x) (E0 := E0) (E := E0) tab .nil rfl rfl hm Tryd.func73 (by kernel_rfl) [PM.data (.int .i64)] (fun X Y H => by obtain ⟨xa, _⟩ := X; exact val_of (t73 xa) (hd xa H)) IO L
def d84 (xa : ByteArray) : Tr (Int × Int × Int × Bool × ByteArray) :=
 Tr.ite (decide (xa = { data := #[OfNat.ofNat (99 : Nat)] })) (Tr.ret ((11 : Int), (0 : Int), (0 : Int), false, { data := #[OfNat.ofNat (119 : Nat)] })) (Tr.ite (decide (xa = { data := #[OfNat.ofNat (37 : Nat)] })) (Tr.ret ((13 : Int), (1 : Int), (0 : Int), false, ByteArray.empty)) (Tr.ite (decide (xa = { data := #[OfNat.ofNat (34 : Nat)] })) (Tr.ret ((13 : Int), (2 : Int), (0 : Int), false, ByteArray.empty)) (Tr.ite (decide (xa = { data := #[OfNat.ofNat (120 : Nat)] })) (Tr.ret ((14 : Int), (0 : Int), (0 : Int), false, ByteArray.empty)) (Tr.ite (decide (xa = { data := #[OfNat.ofNat (121 : Nat)] })) (Tr.ret ((19 : Int), (0 : Int), (0 : Int), false, ByteArray.empty)) (Tr.ite (decide (xa = { data := #[OfNat.ofNat (93 : Nat)] })) (Tr.ret ((20 : Int), (0 : Int), (0 : Int), false, ByteArray.empty)) (Tr.ite (decide (xa = { data := #[OfNat.ofNat (116 : Nat)] })) (Tr.ret ((16 : Int), (20 : Int), (0 : Int), false, ByteArray.empty)) (Tr.ite (decide (xa = { data := #[OfNat.ofNat (103 : Nat)] })) (Tr.ret ((17 : Int), (0 : Int), (0 : Int), false, ByteArray.empty)) (Tr.ite (decide (xa = { data := #[OfNat.ofNat (100 : Nat)] })) (Tr.ret ((21 : Int), (0 : Int), (0 : Int), false, ByteArray.empty)) (Tr.ret ((0 : Int), (0 : Int), (0 : Int), false, ByteArray.empty))))))))))
def e84 (r : Int × Int × Int × Bool × ByteArray) : FRes := { rs := Slot.av (AV.agg [Leaf.dat (.int .i64) r.fst, Leaf.dat (.int .i64) r.snd.fst, Leaf.dat (.int .i64) r.snd.snd.fst, Leaf.dat Kd.bool r.snd.snd.snd.fst, Leaf.dat Kd.str r.snd.snd.snd.snd]), upd := [], new := [] }
@[reducible] def a84 : List AK := [AK.d Kd.str]
@[reducible] def b84 : List BK := []
theorem t84 (xa : ByteArray) : evFn (E0) Tryd.f84 [PM.data cmdk] (akAV a84 (xa, ())) (bkBs b84 ()) = (d84 xa).map e84 := by kernel_rfl
def s84' (G : akT a84 → Int × Int × Int × Bool × ByteArray) : FSpec := aspec0 a84 b84 e84 (fun x _ => G x)
theorem k84' {G : akT a84 → Int × Int × Int × Bool × ByteArray} (hd : ∀ (xa : ByteArray), (d84 xa).val = some (G (xa, ()))) (IO : ItOK Tryd.prog (E0) := by exact itOK_none rfl) (L : ∀ c, Tryd.f84.body = some c → LsOK (evI 2) ((E0).lend 0) c := by exact fun c _ => LsOK_none rfl c) : SpecOK Tryd.prog E0 84 (s84' G) :=
  aspec0_ok (ak := a84) (bl := b84) (e := e84) (g := fun x _ => G x) (E0 := E0) (E := E0) tab .nil rfl rfl hm Tryd.func84 (by kernel_rfl) [PM.data cmdk] (fun X Y => by obtain ⟨xa, _⟩ := X; exact val_of (t84 xa) (hd xa)) IO L
def d30 (xa1 : Int) (xa2 : Int) (xa3 : Int) (xa4 : Bool) (xa5 : ByteArray) : Tr (Int × Int × Int × Bool × ByteArray) :=
 let v1 : Int := (minI (↑(ByteArray.size xa5) : Int) (70 : Int))
 Tr.ite (decide ((0 : Int) ≤ v1 ∧ v1 ≤ (↑(ByteArray.size xa5) : Int))) (Tr.ret (xa1, xa2, xa3, xa4, ByteArray.extract xa5 (0 : Nat) (Int.toNat v1))) Tr.fail
def e30 (r : Int × Int × Int × Bool × ByteArray) : FRes := { rs := Slot.av (AV.agg [Leaf.dat (.int .i64) r.fst, Leaf.dat (.int .i64) r.snd.fst, Leaf.dat (.int .i64) r.snd.snd.fst, Leaf.dat Kd.bool r.snd.snd.snd.fst, Leaf.dat Kd.str r.snd.snd.snd.snd]), upd := [], new := [] }
@[reducible] def a30 : List AK := [AK.d cmdk]
@[reducible] def b30 : List BK := []
theorem t30 (xa1 : Int) (xa2 : Int) (xa3 : Int) (xa4 : Bool) (xa5 : ByteArray) : evFn (E0) Tryd.f30 [PM.data cmdk] (akAV a30 ((xa1, xa2, xa3, xa4, xa5, ()), ())) (bkBs b30 ()) = (d30 xa1 xa2 xa3 xa4 xa5).map e30 := by kernel_rfl
def s30' (G : akT a30 → Int × Int × Int × Bool × ByteArray) : FSpec := aspec0 a30 b30 e30 (fun x _ => G x)
theorem k30' {G : akT a30 → Int × Int × Int × Bool × ByteArray} (hd : ∀ (xa1 : Int) (xa2 : Int) (xa3 : Int) (xa4 : Bool) (xa5 : ByteArray), (d30 xa1 xa2 xa3 xa4 xa5).val = some (G ((xa1, xa2, xa3, xa4, xa5, ()), ()))) (IO : ItOK Tryd.prog (E0) := by exact itOK_none rfl) (L : ∀ c, Tryd.f30.body = some c → LsOK (evI 2) ((E0).lend 0) c := by exact fun c _ => LsOK_none rfl c) : SpecOK Tryd.prog E0 30 (s30' G) :=
  aspec0_ok (ak := a30) (bl := b30) (e := e30) (g := fun x _ => G x) (E0 := E0) (E := E0) tab .nil rfl rfl hm Tryd.func30 (by kernel_rfl) [PM.data cmdk] (fun X Y => by obtain ⟨⟨xa1, ⟨xa2, ⟨xa3, ⟨xa4, ⟨xa5, _⟩⟩⟩⟩⟩, _⟩ := X; exact val_of (t30 xa1 xa2 xa3 xa4 xa5) (hd xa1 xa2 xa3 xa4 xa5)) IO L
def d110 (xa : ByteArray) (xb : ByteArray) : Tr (ByteArray × ByteArray × Bool) :=
 let v1 : Int := (Lib.indexByte xa.data.toList (b0 xb))
 let v2 : Int := (IntKind.wrap IntKind.i64 (v1 + (↑(ByteArray.size xb) : Int)))
 Tr.ite (decide (ByteArray.size xb = (1 : Nat))) (Tr.ite (decide ((0 : Int) ≤ v1)) (Tr.ite (decide ((0 : Int) ≤ v1 ∧ v1 ≤ (↑(ByteArray.size xa) : Int))) (Tr.ite (decide ((0 : Int) ≤ v2 ∧ v2 ≤ (↑(ByteArray.size xa) : Int))) (Tr.ret (ByteArray.extract xa (0 : Nat) (Int.toNat v1), ByteArray.extract xa (Int.toNat v2) (ByteArray.size xa), true)) Tr.fail) Tr.fail) (Tr.ret (xa, { data := #[] }, false))) Tr.fail
def e110 (r : ByteArray × ByteArray × Bool) : FRes := { rs := Slot.tup [AV.one (Leaf.dat Kd.str r.fst), AV.one (Leaf.dat Kd.str r.snd.fst), AV.one (Leaf.dat Kd.bool r.snd.snd)], upd := [], new := [] }
@[reducible] def a110 : List AK := [AK.d Kd.str, AK.d Kd.str]
@[reducible] def b110 : List BK := []
theorem t110 (xa : ByteArray) (xb : ByteArray) : evFn (Env.withFns E0 [((161 : Nat), indexS)]) Tryd.f110 [PM.data Kd.str, PM.data Kd.str, PM.data Kd.bool] (akAV a110 (xa, xb, ())) (bkBs b110 ()) = (d110 xa xb).map e110 := by kernel_rfl
def s110 (C : akT a110 → Bool) (G : akT a110 → ByteArray × ByteArray × Bool) : FSpec := aspec a110 b110 e110 (fun x _ => C x) (fun x _ => G x)
theorem k110 {C : akT a110 → Bool} {G : akT a110 → ByteArray × ByteArray × Bool} (hd : ∀ (xa : ByteArray) (xb : ByteArray), C (xa, xb, ()) = true → (d110 xa xb).val = some (G (xa, xb, ()))) (IO : ItOK Tryd.prog (Env.withFns E0 [((161 : Nat), indexS)]) := by exact itOK_none rfl) (L : ∀ c, Tryd.f110.body = some c → LsOK (evI 2) ((Env.withFns E0 [((161 : Nat), indexS)]).lend 0) c := by exact fun c _ => LsOK_none rfl c) : SpecOK Tryd.prog E0 110 (s110 C G) :=
  aspec_ok (ak := a110) (bl := b110) (e := e110) (c := fun x _ => C x) (g := fun x _ => G x) (E0 := E0) (E := Env.withFns E0 [((161 : Nat), indexS)]) tab (.cons wk161 .nil) rfl rfl hm Tryd.func110 (by kernel_rfl) [PM.data Kd.str, PM.data Kd.str, PM.data Kd.bool] (fun X Y H => by obtain ⟨xa, ⟨xb, _⟩⟩ := X; exact val_of (t110 xa xb) (hd xa xb H)) IO L
def near (n : Int) : Bool := decide ((-1000 : Int) ≤ n) && decide (n ≤ (1000 : Int))
abbrev w78 : FSpec := s78' fun x => near x.1
theorem wk78 : SpecOK Tryd.prog E0 78 w78 := k78' fun a => by
  show _ = some (near a)
  unfold near
  simp only [d78, Tr.val]
  cases decide ((-1000 : Int) ≤ a) <;> rfl
abbrev w82 : FSpec := s82' fun x => near x.1
theorem wk82 : SpecOK Tryd.prog E0 82 w82 := k82' fun a => by
  show _ = some (near a)
  unfold near
  simp only [d82, Tr.val]
  cases decide ((-1000 : Int) ≤ a) <;> rfl
def truth (b : Bool) : ByteArray := bif b then ⟨#[111, 110]⟩ else ⟨#[111, 102, 102]⟩
abbrev w75 : FSpec := s75' fun x => truth x.1
theorem wk75 : SpecOK Tryd.prog E0 75 w75 := k75' fun a => by cases a <;> rfl
abbrev w79 : FSpec := s79 (fun x => decide (ByteArray.size x.1 ≤ 1048576)) fun x => Lib.validD x.1.data.toList
theorem wk79 : SpecOK Tryd.prog E0 79 w79 := k79 fun s H => by
  have h : s.size ≤ 1048576 := of_decide_eq_true H
  show _ = some (Lib.validD s.data.toList)
  simp only [d79, Tr.val, show s.size ≤ 9223372036854775807 by omega, decide_true, cond_true]
def d80 (xa : ByteArray) (h0_0 : Int) (h0_1 : Int) (h0_2 : Int) (h0_3 : Bool) (h0_4 : ByteArray) : Tr (Bool × Int × Int × Int × Bool × ByteArray) :=
 let v1 : Int := (Lib.indexByte (rget wordk U.wordsL h0_0).snd.fst.data.toList (b0 xa))
 Tr.ite (inB h0_0 (22 : Nat)) (Tr.ite (decide (ByteArray.size xa = (1 : Nat))) (Tr.ret (!decide ((0 : Int) ≤ v1), h0_0, h0_1, h0_2, h0_3, h0_4)) Tr.fail) Tr.fail
def e80 (r : Bool × Int × Int × Int × Bool × ByteArray) : FRes := { rs := Slot.av (AV.one (Leaf.dat Kd.bool r.fst)), upd := [Blk.box [Leaf.dat (.int .i64) r.snd.fst, Leaf.dat (.int .i64) r.snd.snd.fst, Leaf.dat (.int .i64) r.snd.snd.snd.fst, Leaf.dat Kd.bool r.snd.snd.snd.snd.fst, Leaf.dat Kd.str r.snd.snd.snd.snd.snd]], new := [] }
@[reducible] def a80 : List AK := [AK.d Kd.str, AK.c (Leaf.ptr (0 : Nat) (0 : Nat))]
@[reducible] def b80 : List BK := [BK.box [SK.d (.int .i64), SK.d (.int .i64), SK.d (.int .i64), SK.d Kd.bool, SK.d Kd.str]]
theorem t80 (xa : ByteArray) (h0_0 : Int) (h0_1 : Int) (h0_2 : Int) (h0_3 : Bool) (h0_4 : ByteArray) : evFn (Env.withFns E0 [((81 : Nat), containsS)]) Tryd.f80 [PM.data Kd.bool] (akAV a80 (xa, ())) (bkBs b80 ((h0_0, h0_1, h0_2, h0_3, h0_4, ()), ())) = (d80 xa h0_0 h0_1 h0_2 h0_3 h0_4).map e80 := by kernel_rfl
def s80 (C : akT a80 → bksT b80 → Bool) (G : akT a80 → bksT b80 → Bool × Int × Int × Int × Bool × ByteArray) : FSpec := aspec a80 b80 e80 (C) (G)
theorem k80 {C : akT a80 → bksT b80 → Bool} {G : akT a80 → bksT b80 → Bool × Int × Int × Int × Bool × ByteArray} (hd : ∀ (xa : ByteArray) (h0_0 : Int) (h0_1 : Int) (h0_2 : Int) (h0_3 : Bool) (h0_4 : ByteArray), C (xa, ()) ((h0_0, h0_1, h0_2, h0_3, h0_4, ()), ()) = true → (d80 xa h0_0 h0_1 h0_2 h0_3 h0_4).val = some (G (xa, ()) ((h0_0, h0_1, h0_2, h0_3, h0_4, ()), ()))) (IO : ItOK Tryd.prog (Env.withFns E0 [((81 : Nat), containsS)]) := by exact itOK_none rfl) (L : ∀ c, Tryd.f80.body = some c → LsOK (evI 2) ((Env.withFns E0 [((81 : Nat), containsS)]).lend 1) c := by exact fun c _ => LsOK_none rfl c) : SpecOK Tryd.prog E0 80 (s80 C G) :=
  aspec_ok (ak := a80) (bl := b80) (e := e80) (c := C) (g := G) (E0 := E0) (E := Env.withFns E0 [((81 : Nat), containsS)]) tab (.cons wk81 .nil) rfl rfl hm Tryd.func80 (by kernel_rfl) [PM.data Kd.bool] (fun X Y H => by obtain ⟨xa, _⟩ := X; obtain ⟨⟨h0_0, ⟨h0_1, ⟨h0_2, ⟨h0_3, ⟨h0_4, _⟩⟩⟩⟩⟩, _⟩ := Y; exact val_of (t80 xa h0_0 h0_1 h0_2 h0_3 h0_4) (hd xa h0_0 h0_1 h0_2 h0_3 h0_4 H)) IO L
abbrev C5 := Int × Int × Int × Bool × ByteArray
def lk : List (ByteArray × (Int × Int × Int × Bool × ByteArray × Unit) × Unit) → ByteArray → C5
  | [], _ => (0, 0, 0, false, ByteArray.empty)
  | x :: r, s => bif decide (s = x.1) then (x.2.1.1, x.2.1.2.1, x.2.1.2.2.1, x.2.1.2.2.2.1, x.2.1.2.2.2.2.1) else lk r s
theorem some_bif {α : Type} (c : Bool) (a b : α) : (bif c then some a else some b) = some (bif c then a else b) := by cases c <;> rfl
def keyC (s : ByteArray) : C5 := lk U.boundL s
abbrev w84 : FSpec := s84' fun x => lk (List.drop 12 U.boundL) x.1
theorem wk84 : SpecOK Tryd.prog E0 84 w84 := k84' fun s => by
  show _ = some (lk (List.drop 12 U.boundL) s)
  simp only [d84, Tr.val, lk, U.boundL, List.drop, some_bif]
  rfl
def d35 (xa : ByteArray) : Tr (Int × Int × Int × Bool × ByteArray) :=
 let v1 : Int × Int × Bool × ByteArray := ((lk (List.drop (12 : Nat) U.boundL) xa).snd)
 let v2 : Int × Bool × ByteArray := (v1.snd)
 let v3 : Bool × ByteArray := (v2.snd)
 Tr.ite (decide (xa = { data := #[OfNat.ofNat (110 : Nat)] })) (Tr.ret ((2 : Int), (1 : Int), (0 : Int), false, ByteArray.empty)) (Tr.ite (decide (xa = { data := #[OfNat.ofNat (112 : Nat)] })) (Tr.ret ((2 : Int), (-1 : Int), (0 : Int), false, ByteArray.empty)) (Tr.ite (decide (xa = { data := #[OfNat.ofNat (108 : Nat)] })) (Tr.ret ((3 : Int), (0 : Int), (0 : Int), false, ByteArray.empty)) (Tr.ite (decide (xa = { data := #[OfNat.ofNat (122 : Nat)] })) (Tr.ret ((6 : Int), (0 : Int), (0 : Int), false, ByteArray.empty)) (Tr.ite (decide (xa = { data := #[OfNat.ofNat (76 : Nat), OfNat.ofNat (101 : Nat), OfNat.ofNat (102 : Nat), OfNat.ofNat (116 : Nat)] })) (Tr.ret ((5 : Int), (1 : Int), (0 : Int), false, ByteArray.empty)) (Tr.ite (decide (xa = { data := #[OfNat.ofNat (82 : Nat), OfNat.ofNat (105 : Nat), OfNat.ofNat (103 : Nat), OfNat.ofNat (104 : Nat), OfNat.ofNat (116 : Nat)] })) (Tr.ret ((5 : Int), (2 : Int), (0 : Int), false, ByteArray.empty)) (Tr.ite (decide (xa = { data := #[OfNat.ofNat (85 : Nat), OfNat.ofNat (112 : Nat)] })) (Tr.ret ((5 : Int), (3 : Int), (0 : Int), false, ByteArray.empty)) (Tr.ite (decide (xa = { data := #[OfNat.ofNat (68 : Nat), OfNat.ofNat (111 : Nat), OfNat.ofNat (119 : Nat), OfNat.ofNat (110 : Nat)] })) (Tr.ret ((5 : Int), (4 : Int), (0 : Int), false, ByteArray.empty)) (Tr.ite (decide (xa = { data := #[OfNat.ofNat (91 : Nat)] })) (Tr.ret ((7 : Int), (0 : Int), (0 : Int), true, ByteArray.empty)) (Tr.ite (decide (xa = { data := #[OfNat.ofNat (113 : Nat)] })) (Tr.ret ((7 : Int), (0 : Int), (0 : Int), false, ByteArray.empty)) (Tr.ite (decide (xa = { data := #[OfNat.ofNat (107 : Nat)] })) (Tr.ret ((8 : Int), (-1 : Int), (0 : Int), false, ByteArray.empty)) (Tr.ite (decide (xa = { data := #[OfNat.ofNat (106 : Nat)] })) (Tr.ret ((8 : Int), (1 : Int), (0 : Int), false, ByteArray.empty)) (Tr.ret ((lk (List.drop (12 : Nat) U.boundL) xa).fst, v1.fst, v2.fst, v3.fst, v3.snd)))))))))))))
def e35 (r : Int × Int × Int × Bool × ByteArray) : FRes := { rs := Slot.av (AV.agg [Leaf.dat (.int .i64) r.fst, Leaf.dat (.int .i64) r.snd.fst, Leaf.dat (.int .i64) r.snd.snd.fst, Leaf.dat Kd.bool r.snd.snd.snd.fst, Leaf.dat Kd.str r.snd.snd.snd.snd]), upd := [], new := [] }
@[reducible] def a35 : List AK := [AK.d Kd.str]
@[reducible] def b35 : List BK := []
theorem t35 (xa : ByteArray) : evFn (Env.withFns E0 [((84 : Nat), w84)]) Tryd.f35 [PM.data cmdk] (akAV a35 (xa, ())) (bkBs b35 ()) = (d35 xa).map e35 := by kernel_rfl
def s35' (G : akT a35 → Int × Int × Int × Bool × ByteArray) : FSpec := aspec0 a35 b35 e35 (fun x _ => G x)
theorem k35' {G : akT a35 → Int × Int × Int × Bool × ByteArray} (hd : ∀ (xa : ByteArray), (d35 xa).val = some (G (xa, ()))) (IO : ItOK Tryd.prog (Env.withFns E0 [((84 : Nat), w84)]) := by exact itOK_none rfl) (L : ∀ c, Tryd.f35.body = some c → LsOK (evI 2) ((Env.withFns E0 [((84 : Nat), w84)]).lend 0) c := by exact fun c _ => LsOK_none rfl c) : SpecOK Tryd.prog E0 35 (s35' G) :=
  aspec0_ok (ak := a35) (bl := b35) (e := e35) (g := fun x _ => G x) (E0 := E0) (E := Env.withFns E0 [((84 : Nat), w84)]) tab (.cons wk84 .nil) rfl rfl hm Tryd.func35 (by kernel_rfl) [PM.data cmdk] (fun X Y => by obtain ⟨xa, _⟩ := X; exact val_of (t35 xa) (hd xa)) IO L
abbrev w35 : FSpec := s35' fun x => keyC x.1
theorem wk35 : SpecOK Tryd.prog E0 35 w35 := k35' fun s => by
  show _ = some (keyC s)
  simp only [d35, Tr.val, keyC, lk, U.boundL, List.drop, some_bif]
  rfl
abbrev w72 : FSpec := s72 (fun x => inB (x.1 : Int) 22) fun x => (U.wordsL.getD (Int.toNat x.1) (⟨#[]⟩, ⟨#[]⟩, ())).1
theorem wk72 : SpecOK Tryd.prog E0 72 w72 := k72 fun a H => by
  have H : inB (a : Int) 22 = true := H
  obtain ⟨n, rfl⟩ := Int.eq_ofNat_of_zero_le (inB_iff.1 H).1
  have hn : n < 22 := Int.ofNat_lt.1 (inB_iff.1 H).2
  show _ = some (U.wordsL.getD (Int.toNat (n : Int)) (⟨#[]⟩, ⟨#[]⟩, ())).1
  simp only [d72, Tr.val, H, cond_true, Int.toNat_natCast]
  match n, hn with
  | 0, _ | 1, _ | 2, _ | 3, _ | 4, _ | 5, _ | 6, _ | 7, _ | 8, _ | 9, _ | 10, _ | 11, _ | 12, _ | 13, _ | 14, _ | 15, _ | 16, _ | 17, _ | 18, _ | 19, _ | 20, _ | 21, _ => rfl
  | n + 22, h => omega
def hasL : List Int := [0, 1, 1, 0, 1, 1, 0, 3, 2, 1, 3, 4, 1, 1, 1, 1, 1, 0, 4, 0, 0, 0]
abbrev w73 : FSpec := s73 (fun x => inB (x.1 : Int) 22) fun x => hasL.getD (Int.toNat x.1) 0
theorem wk73 : SpecOK Tryd.prog E0 73 w73 := k73 fun a H => by
  have H : inB (a : Int) 22 = true := H
  show _ = some (hasL.getD (Int.toNat a) 0)
  simp only [d73, Tr.val, H, cond_true]
  rfl
def hasB (s : ByteArray) (c : UInt8) : Bool := (bl s).contains c
theorem index_mem : ∀ (l : List UInt8) (c : UInt8), Lib.indexByte l c = if l.contains c then ((l.takeWhile (· != c)).length : Int) else -1
  | [], c => rfl
  | b :: l, c => by
    have ih := index_mem l c
    unfold Lib.indexByte
    cases h : b == c with
    | true =>
      have h2 : b = c := eq_of_beq h
      subst h2
      simp
    | false =>
      have h3 : (c == b) = false := by
        cases h4 : c == b with
        | false => rfl
        | true => rw [eq_of_beq h4] at h; simp at h
      have h5 : (b != c) = true := by unfold bne; rw [h]; rfl
      rw [List.takeWhile_cons, h5, List.contains_cons, h3, Bool.false_or, ih]
      simp only [if_true, Bool.false_eq_true, if_false]
      cases hc : l.contains c with
      | true =>
        have : ((((l.takeWhile (· != c)).length : Nat) : Int) == -1) = false := by
          rw [beq_eq_false_iff_ne]; omega
        simp only [if_true, this, Bool.false_eq_true, if_false, List.length_cons]
        omega
      | false => rfl
theorem index_ge (s : ByteArray) (c : UInt8) : decide (0 ≤ Lib.indexByte s.data.toList c) = hasB s c := by
  rw [index_mem]
  unfold hasB bl
  cases s.data.toList.contains c with
  | true => simp
  | false => rfl
abbrev w80 : FSpec := s80 (fun x y => inB (y.1.1 : Int) 22 && decide (ByteArray.size x.1 = 1)) fun x y => (!hasB (rget wordk U.wordsL y.1.1).2.1 (b0 x.1), y.1.1, y.1.2.1, y.1.2.2.1, y.1.2.2.2.1, y.1.2.2.2.2.1)
theorem wk80 : SpecOK Tryd.prog E0 80 w80 := k80 fun s a b c d e H => by
  have H : (inB (a : Int) 22 && decide (s.size = 1)) = true := H
  rw [Bool.and_eq_true] at H
  simp only [d80, Tr.val, H.1, H.2, cond_true, index_ge]
def cutB (s : ByteArray) (c : UInt8) : ByteArray := ⟨((bl s).takeWhile (· != c)).toArray⟩
def cutA (s : ByteArray) (c : UInt8) : ByteArray := ⟨(((bl s).dropWhile (· != c)).drop 1).toArray⟩
theorem takeWhile_len {α : Type} (p : α → Bool) : ∀ l : List α, l.take (l.takeWhile p).length = l.takeWhile p
  | [] => rfl
  | a :: l => by
    rw [List.takeWhile_cons]
    split
    · rw [List.length_cons, List.take_succ_cons, takeWhile_len p l]
    · rfl
theorem dropWhile_len {α : Type} (p : α → Bool) : ∀ l : List α, l.drop (l.takeWhile p).length = l.dropWhile p
  | [] => rfl
  | a :: l => by
    rw [List.takeWhile_cons, List.dropWhile_cons]
    split
    · rw [List.length_cons, List.drop_succ_cons, dropWhile_len p l]
    · rfl
theorem takeWhile_lt (c : UInt8) : ∀ l : List UInt8, l.contains c = true → (l.takeWhile (· != c)).length < l.length
  | [], h => by cases h
  | b :: l, h => by
    rw [List.takeWhile_cons]
    split
    · rename_i hb
      rw [List.contains_cons] at h
      have : (c == b) = false := by
        cases h4 : c == b with
        | false => rfl
        | true => rw [eq_of_beq h4] at hb; simp at hb
      rw [this, Bool.false_or] at h
      have := takeWhile_lt c l h
      rw [List.length_cons, List.length_cons]; omega
    · simp
theorem takeWhile_all (c : UInt8) (l : List UInt8) (h : l.contains c = false) : l.takeWhile (· != c) = l ∧ l.dropWhile (· != c) = [] := by
  induction l with
  | nil => exact ⟨rfl, rfl⟩
  | cons b l ih =>
    rw [List.contains_cons, Bool.or_eq_false_iff] at h
    have hb : (b != c) = true := by
      unfold bne
      cases h4 : b == c with
      | false => rfl
      | true => rw [eq_of_beq h4] at h; simp at h
    rw [List.takeWhile_cons, List.dropWhile_cons, hb]
    simp [ih h.2]
abbrev w110 : FSpec := s110 (fun x => decide (ByteArray.size x.2.1 = 1 ∧ ByteArray.size x.1 ≤ 1048576)) fun x => (cutB x.1 (b0 x.2.1), cutA x.1 (b0 x.2.1), hasB x.1 (b0 x.2.1))
theorem wk110 : SpecOK Tryd.prog E0 110 w110 := k110 fun s t H => by
  obtain ⟨h1, h2⟩ : t.size = 1 ∧ s.size ≤ 1048576 := of_decide_eq_true H
  show _ = some (cutB s (b0 t), cutA s (b0 t), hasB s (b0 t))
  have e := index_mem s.data.toList (b0 t)
  have eb : bl s = s.data.toList := rfl
  cases hc : s.data.toList.contains (b0 t) with
  | true =>
    rw [hc, if_pos rfl] at e
    have hl : (s.data.toList.takeWhile (· != b0 t)).length < s.size := by rw [← bl_len]; exact takeWhile_lt _ _ hc
    have w : IntKind.wrap IntKind.i64 (((s.data.toList.takeWhile (· != b0 t)).length : Int) + ((1 : Nat) : Int)) = (((s.data.toList.takeWhile (· != b0 t)).length + 1 : Nat) : Int) := by rw [Go.Ev.w64 (by omega) (by omega)]; omega
    simp only [d110, Tr.val, e, h1, w, show (0 : Int) ≤ ((s.data.toList.takeWhile (· != b0 t)).length : Int) by omega, show (0 : Int) ≤ (((s.data.toList.takeWhile (· != b0 t)).length + 1 : Nat) : Int) by omega,
      show (((s.data.toList.takeWhile (· != b0 t)).length : Int) ≤ (s.size : Int)) by omega, show (((s.data.toList.takeWhile (· != b0 t)).length + 1 : Nat) : Int) ≤ (s.size : Int) by omega, and_self, decide_true, cond_true, Int.toNat_natCast]
    congr 1
    have ha : s.extract 0 (s.data.toList.takeWhile (· != b0 t)).length = cutB s (b0 t) := bl_inj (by
      rw [bl_ext, List.drop_zero]
      show _ = (bl s).takeWhile (· != b0 t)
      rw [eb, takeWhile_len])
    have hb : s.extract ((s.data.toList.takeWhile (· != b0 t)).length + 1) s.size = cutA s (b0 t) := bl_inj (by
      rw [bl_ext, ← bl_len, List.take_length]
      show _ = ((bl s).dropWhile (· != b0 t)).drop 1
      rw [← dropWhile_len, List.drop_drop]
      rfl)
    rw [ha, hb]
    unfold hasB
    rw [eb, hc]
  | false =>
    rw [hc, if_neg (by decide)] at e
    obtain ⟨g1, g2⟩ := takeWhile_all (b0 t) s.data.toList hc
    simp only [d110, Tr.val, e, h1, show ¬ ((0 : Int) ≤ -1) by omega, decide_true, decide_false, cond_true, cond_false]
    congr 1
    have ha : s = cutB s (b0 t) := bl_inj (by
      show _ = (bl s).takeWhile (· != b0 t)
      rw [eb, g1])
    have hb : (⟨#[]⟩ : ByteArray) = cutA s (b0 t) := bl_inj (by
      show _ = ((bl s).dropWhile (· != b0 t)).drop 1
      rw [eb, g2]
      rfl)
    rw [← ha, ← hb]
    unfold hasB
    rw [eb, hc]
def d52 (xa : ByteArray) (xb : ByteArray) : Tr (ByteArray × ByteArray × Bool) :=
 Tr.ite (decide (ByteArray.size xb = (1 : Nat) ∧ ByteArray.size xa ≤ (1048576 : Nat))) (Tr.ret (cutB xa (b0 xb), cutA xa (b0 xb), hasB xa (b0 xb))) Tr.fail
def e52 (r : ByteArray × ByteArray × Bool) : FRes := { rs := Slot.tup [AV.one (Leaf.dat Kd.str r.fst), AV.one (Leaf.dat Kd.str r.snd.fst), AV.one (Leaf.dat Kd.bool r.snd.snd)], upd := [], new := [] }
@[reducible] def a52 : List AK := [AK.d Kd.str, AK.d Kd.str]
@[reducible] def b52 : List BK := []
theorem t52 (xa : ByteArray) (xb : ByteArray) : evFn (Env.withFns E0 [((110 : Nat), w110)]) Tryd.f52 [PM.data Kd.str, PM.data Kd.str, PM.data Kd.bool] (akAV a52 (xa, xb, ())) (bkBs b52 ()) = (d52 xa xb).map e52 := by kernel_rfl
def s52 (C : akT a52 → Bool) (G : akT a52 → ByteArray × ByteArray × Bool) : FSpec := aspec a52 b52 e52 (fun x _ => C x) (fun x _ => G x)
theorem k52 {C : akT a52 → Bool} {G : akT a52 → ByteArray × ByteArray × Bool} (hd : ∀ (xa : ByteArray) (xb : ByteArray), C (xa, xb, ()) = true → (d52 xa xb).val = some (G (xa, xb, ()))) (IO : ItOK Tryd.prog (Env.withFns E0 [((110 : Nat), w110)]) := by exact itOK_none rfl) (L : ∀ c, Tryd.f52.body = some c → LsOK (evI 2) ((Env.withFns E0 [((110 : Nat), w110)]).lend 0) c := by exact fun c _ => LsOK_none rfl c) : SpecOK Tryd.prog E0 52 (s52 C G) :=
  aspec_ok (ak := a52) (bl := b52) (e := e52) (c := fun x _ => C x) (g := fun x _ => G x) (E0 := E0) (E := Env.withFns E0 [((110 : Nat), w110)]) tab (.cons wk110 .nil) rfl rfl hm Tryd.func52 (by kernel_rfl) [PM.data Kd.str, PM.data Kd.str, PM.data Kd.bool] (fun X Y H => by obtain ⟨xa, ⟨xb, _⟩⟩ := X; exact val_of (t52 xa xb) (hd xa xb H)) IO L
abbrev w52 : FSpec := s52 (fun x => decide (ByteArray.size x.2.1 = 1 ∧ ByteArray.size x.1 ≤ 1048576)) fun x => (cutB x.1 (b0 x.2.1), cutA x.1 (b0 x.2.1), hasB x.1 (b0 x.2.1))
theorem wk52 : SpecOK Tryd.prog E0 52 w52 := k52 fun s t H => by
  have H : decide (t.size = 1 ∧ s.size ≤ 1048576) = true := H
  simp only [d52, Tr.val, H, cond_true]
abbrev w30 : FSpec := s30' fun x => (x.1.1, x.1.2.1, x.1.2.2.1, x.1.2.2.2.1, ByteArray.extract x.1.2.2.2.2.1 0 70)
theorem wk30 : SpecOK Tryd.prog E0 30 w30 := k30' fun a b c d s => by
  have e3 : minI (s.size : Int) 70 = ((min s.size 70 : Nat) : Int) := by unfold minI; split <;> omega
  have e4 : s.extract 0 (min s.size 70) = s.extract 0 70 := bl_inj (by
    rw [bl_ext, bl_ext, List.drop_zero, List.drop_zero, ← bl_len]
    rcases Nat.le_total (bl s).length 70 with h | h
    · rw [Nat.min_eq_left h, List.take_length, List.take_of_length_le h]
    · rw [Nat.min_eq_right h])
  show _ = some (a, b, c, d, s.extract 0 70)
  simp only [d30, Tr.val, e3, Int.toNat_natCast, e4, show ((0 : Int) ≤ ((min s.size 70 : Nat) : Int) ∧ ((min s.size 70 : Nat) : Int) ≤ (s.size : Int)) by omega, and_self, decide_true, cond_true]
theorem atoi_rng (s : ByteArray) : (-9223372036854775808 : Int) ≤ (atoiV s).1 ∧ (atoiV s).1 ≤ (9223372036854775807 : Int) := by
  unfold atoiV
  cases h : Lib.atoiAll s.data.toList
  · rename_i v
    dsimp only
    unfold Lib.atoiAll at h
    split at h
    · cases h
    · dsimp only at h
      split at h
      · cases h
      · cases h
      · rename_i u hu
        have := Lib.parseMag_lt hu
        split at h
        · cases h
        · split at h
          · cases h
          · cases h
            split <;> omega
  · dsimp only
    exact ⟨by decide, by decide⟩
  · unfold Lib.atoiSat
    dsimp only
    split <;> exact ⟨by decide, by decide⟩
def numV (s : ByteArray) (q : Bool) : Int × Bool := ((atoiV s).1, (atoiV s).2 && (!q && decide (itoaB (atoiV s).1 = s)))
abbrev w136 : FSpec := s136 (fun x => decide (ByteArray.size x.1.1 ≤ 1048576)) fun x => numV x.1.1 x.1.2.1
theorem wk136 : SpecOK Tryd.prog E0 136 w136 := k136 fun s q H => by
  have H : decide (s.size ≤ 1048576) = true := H
  show _ = some (numV s q)
  unfold numV
  simp only [d136, Tr.val, H, decide_eq_true (atoi_rng s), cond_true]
  cases (atoiV s).2 <;> cases q <;> rfl
end Cm
end Go.Proofs.YtdlbnlbajnafdaaDoor
end
section
set_option linter.unusedVariables false
set_option linter.unusedSimpArgs false
set_option maxRecDepth 20000
set_option maxHeartbeats 4000000
open Go Go.Ev
namespace U
theorem need_1 {c : Int} (h : c < 128) : need c = 1 := by unfold need; rw [if_pos h]
theorem need_0 {c : Int} (h : 128 ≤ c) (h2 : c < 194) : need c = 0 := by unfold need; rw [if_neg (by omega), if_pos h2]
theorem need_2 {c : Int} (h : 194 ≤ c) (h2 : c < 224) : need c = 2 := by unfold need; rw [if_neg (by omega), if_neg (by omega), if_pos h2]
theorem need_3 {c : Int} (h : 224 ≤ c) (h2 : c < 240) : need c = 3 := by unfold need; rw [if_neg (by omega), if_neg (by omega), if_neg (by omega), if_pos h2]
theorem need_4 {c : Int} (h : 240 ≤ c) (h2 : c < 245) : need c = 4 := by unfold need; rw [if_neg (by omega), if_neg (by omega), if_neg (by omega), if_neg (by omega), if_pos h2]
theorem need_5 {c : Int} (h : 245 ≤ c) : need c = 0 := by unfold need; rw [if_neg (by omega), if_neg (by omega), if_neg (by omega), if_neg (by omega), if_neg (by omega)]
theorem lo_cases (c : Int) : lo c = 160 ∧ c = 224 ∨ lo c = 144 ∧ c = 240 ∨ lo c = 128 ∧ c ≠ 224 ∧ c ≠ 240 := by unfold lo; split <;> first | omega | (split <;> omega)
theorem hi_cases (c : Int) : hi c = 159 ∧ c = 237 ∨ hi c = 143 ∧ c = 244 ∨ hi c = 191 ∧ c ≠ 237 ∧ c ≠ 244 := by unfold hi; split <;> first | omega | (split <;> omega)
theorem dec_N (s : ByteArray) (b0 b1 b2 b3 : Nat) (hs : s.size ≠ 0) (e0 : bt s 0 = b0) (e1 : bt s 1 = b1) (e2 : bt s 2 = b2) (e3 : bt s 3 = b3) (h0 : b0 < 256) (h1 : b1 < 256) (h2 : b2 < 256) (h3 : b3 < 256) :
    dec s = (((Lib.decodeN s.size b0 b1 b2 b3).1 : Int), ((Lib.decodeN s.size b0 b1 b2 b3).2 : Int)) := by
  have d0 : decide (s.size = 0) = false := decide_eq_false hs
  unfold dec
  rw [d0, e0, e2, e3, cond_false]
  generalize hn : s.size = n at *
  unfold ok1 val2 val3 val4 cont
  rw [e0, e1, e2, e3]
  have gl := lo_cases b0
  have gh := hi_cases b0
  generalize lo (b0 : Int) = lb at *
  generalize hi (b0 : Int) = hb at *
  by_cases c1 : b0 < 128
  · rw [need_1 (by omega)]
    unfold Lib.decodeN
    rw [if_pos c1]
    rfl
  by_cases c2 : b0 < 194
  · rw [need_0 (by omega) (by omega), Lib.decodeN_bad _ _ _ _ _ (.inl ⟨by omega, c2⟩)]
    rfl
  by_cases c3 : b0 < 224
  · rw [need_2 (by omega) (by omega)]
    unfold Lib.decodeN
    rw [if_neg c1, if_neg (show ¬ (b0 / 16 = 14 ∧ (1 < n ∧ b1 / 64 = 2) ∧ 2 < n ∧ b2 / 64 = 2) by omega), if_neg (show ¬ (b0 / 8 = 30 ∧ (1 < n ∧ b1 / 64 = 2) ∧ (2 < n ∧ b2 / 64 = 2) ∧ 3 < n ∧ b3 / 64 = 2) by omega)]
    by_cases c4 : 1 < n ∧ b1 / 64 = 2
    · rw [if_pos ⟨by omega, c4⟩, if_pos (by omega)]
      rw [decide_eq_false (show ¬ ((n : Int) < 2) by omega), decide_eq_true (show lb ≤ b1 by omega), decide_eq_true (show (b1 : Int) ≤ hb by omega)]
      show (((b0 : Int) - 192) * 64 + (b1 - 128), (2 : Int)) = _
      exact Prod.ext (by show _ = ((b0 % 32 * 64 + b1 % 64 : Nat) : Int); omega) rfl
    · rw [if_neg (fun h => c4 h.2)]
      by_cases c5 : (n : Int) < 2
      · rw [decide_eq_true c5]; rfl
      · rw [decide_eq_false c5]
        have : (decide (lb ≤ b1) && decide ((b1 : Int) ≤ hb)) = false := by
          rw [← Bool.not_eq_true, Bool.and_eq_true, decide_eq_true_eq, decide_eq_true_eq]; omega
        rw [this]
        rfl
  by_cases c4 : b0 < 240
  · rw [need_3 (by omega) (by omega)]
    unfold Lib.decodeN
    rw [if_neg c1, if_neg (show ¬ (b0 / 32 = 6 ∧ 1 < n ∧ b1 / 64 = 2) by omega), if_neg (show ¬ (b0 / 8 = 30 ∧ (1 < n ∧ b1 / 64 = 2) ∧ (2 < n ∧ b2 / 64 = 2) ∧ 3 < n ∧ b3 / 64 = 2) by omega)]
    by_cases c5 : (1 < n ∧ b1 / 64 = 2) ∧ 2 < n ∧ b2 / 64 = 2
    · rw [if_pos ⟨by omega, c5⟩, decide_eq_false (show ¬ ((n : Int) < 3) by omega), decide_eq_true (show (128 : Int) ≤ b2 by omega), decide_eq_true (show (b2 : Int) ≤ 191 by omega)]
      by_cases c6 : lb ≤ b1 ∧ (b1 : Int) ≤ hb
      · rw [decide_eq_true c6.1, decide_eq_true c6.2, if_pos (by omega)]
        show (((b0 : Int) - 224) * 4096 + (b1 - 128) * 64 + (b2 - 128), (3 : Int)) = _
        exact Prod.ext (by show _ = ((b0 % 16 * 4096 + b1 % 64 * 64 + b2 % 64 : Nat) : Int); omega) rfl
      · have : (decide (lb ≤ b1) && decide ((b1 : Int) ≤ hb)) = false := by
          rw [← Bool.not_eq_true, Bool.and_eq_true, decide_eq_true_eq, decide_eq_true_eq]; exact c6
        rw [this, if_neg (by omega)]
        rfl
    · rw [if_neg (fun h => c5 h.2)]
      by_cases c7 : (n : Int) < 3
      · rw [decide_eq_true c7]; rfl
      · rw [decide_eq_false c7]
        cases ho : decide (lb ≤ b1) && decide ((b1 : Int) ≤ hb) with
        | false => rfl
        | true =>
          rw [Bool.and_eq_true, decide_eq_true_eq, decide_eq_true_eq] at ho
          have : (decide ((128 : Int) ≤ b2) && decide ((b2 : Int) ≤ 191)) = false := by
            rw [← Bool.not_eq_true, Bool.and_eq_true, decide_eq_true_eq, decide_eq_true_eq]
            intro g
            obtain ⟨g1, g2⟩ := ho
            apply c5
            have g3 : (128 : Int) ≤ b1 := by omega
            have g4 : (b1 : Int) ≤ 191 := by omega
            omega
          rw [this]
          rfl
  by_cases c5 : b0 < 245
  · rw [need_4 (by omega) (by omega)]
    unfold Lib.decodeN
    rw [if_neg c1, if_neg (show ¬ (b0 / 32 = 6 ∧ 1 < n ∧ b1 / 64 = 2) by omega), if_neg (show ¬ (b0 / 16 = 14 ∧ (1 < n ∧ b1 / 64 = 2) ∧ 2 < n ∧ b2 / 64 = 2) by omega)]
    by_cases c6 : (1 < n ∧ b1 / 64 = 2) ∧ (2 < n ∧ b2 / 64 = 2) ∧ 3 < n ∧ b3 / 64 = 2
    · rw [if_pos ⟨by omega, c6⟩, decide_eq_false (show ¬ ((n : Int) < 4) by omega), decide_eq_true (show (128 : Int) ≤ b2 by omega), decide_eq_true (show (b2 : Int) ≤ 191 by omega), decide_eq_true (show (128 : Int) ≤ b3 by omega), decide_eq_true (show (b3 : Int) ≤ 191 by omega)]
      by_cases c7 : lb ≤ b1 ∧ (b1 : Int) ≤ hb
      · rw [decide_eq_true c7.1, decide_eq_true c7.2, if_pos (by omega)]
        show (((b0 : Int) - 240) * 262144 + (b1 - 128) * 4096 + (b2 - 128) * 64 + (b3 - 128), (4 : Int)) = _
        exact Prod.ext (by show _ = ((b0 % 8 * 262144 + b1 % 64 * 4096 + b2 % 64 * 64 + b3 % 64 : Nat) : Int); omega) rfl
      · have : (decide (lb ≤ b1) && decide ((b1 : Int) ≤ hb)) = false := by
          rw [← Bool.not_eq_true, Bool.and_eq_true, decide_eq_true_eq, decide_eq_true_eq]; exact c7
        rw [this, if_neg (by omega)]
        rfl
    · rw [if_neg (fun h => c6 h.2)]
      by_cases c7 : (n : Int) < 4
      · rw [decide_eq_true c7]; rfl
      · rw [decide_eq_false c7]
        cases ho : decide (lb ≤ b1) && decide ((b1 : Int) ≤ hb) with
        | false => rfl
        | true =>
          cases h2' : decide ((128 : Int) ≤ b2) && decide ((b2 : Int) ≤ 191) with
          | false => rfl
          | true =>
            rw [Bool.and_eq_true, decide_eq_true_eq, decide_eq_true_eq] at ho h2'
            have : (decide ((128 : Int) ≤ b3) && decide ((b3 : Int) ≤ 191)) = false := by
              rw [← Bool.not_eq_true, Bool.and_eq_true, decide_eq_true_eq, decide_eq_true_eq]
              intro g
              obtain ⟨g1, g2⟩ := ho
              apply c6
              have g3 : (128 : Int) ≤ b1 := by omega
              have g4 : (b1 : Int) ≤ 191 := by omega
              omega
            rw [this]
            rfl
  · rw [need_5 (by omega), Lib.decodeN_bad _ _ _ _ _ (.inr ⟨by omega, h0⟩)]
    rfl
theorem dec_L (s : ByteArray) (hs : s.size ≠ 0) : dec s = (((Lib.decodeL (bl s)).1 : Int), ((Lib.decodeL (bl s)).2 : Int)) := by
  rw [Lib.decodeL_N, bl_len]
  exact dec_N s _ _ _ _ hs (bt_eq (by omega)) (bt_eq (by omega)) (bt_eq (by omega)) (bt_eq (by omega)) (UInt8.toNat_lt _) (UInt8.toNat_lt _) (UInt8.toNat_lt _) (UInt8.toNat_lt _)
theorem full_isL {s : ByteArray} (hs : s.size ≠ 0) (h : isL s = true) : full s = true := by
  unfold full
  rw [decide_eq_false hs, cond_false]
  by_cases h1 : need (bt s 0) ≤ (s.size : Int)
  · rw [decide_eq_true h1]; rfl
  · exfalso
    have : dec s = (65533, 1) := by
      unfold dec
      rw [decide_eq_false hs, cond_false]
      by_cases h2 : need (bt s 0) = 0
      · rw [decide_eq_true h2]; rfl
      · rw [decide_eq_false h2, cond_false]
        by_cases h3 : need (bt s 0) = 1
        · omega
        · rw [decide_eq_false h3, cond_false, decide_eq_true (show (s.size : Int) < need (bt s 0) by omega)]; rfl
    unfold isL at h
    rw [this] at h
    cases h
theorem isL_L (s : ByteArray) (hs : s.size ≠ 0) : isL s = !decide ((Lib.decodeL (bl s)).1 = 65533 ∧ (Lib.decodeL (bl s)).2 = 1) := by
  have hw := Lib.decodeL_width (bl s)
  unfold isL
  rw [dec_L s hs]
  dsimp only
  by_cases h1 : (Lib.decodeL (bl s)).1 = 65533
  · by_cases h2 : (Lib.decodeL (bl s)).2 = 1
    · rw [decide_eq_true (show (((Lib.decodeL (bl s)).1 : Nat) : Int) = 65533 by omega), decide_eq_false (show ¬ ((1 : Int) < (((Lib.decodeL (bl s)).2 : Nat) : Int)) by omega), decide_eq_true ⟨h1, h2⟩]; rfl
    · rw [decide_eq_true (show (((Lib.decodeL (bl s)).1 : Nat) : Int) = 65533 by omega), decide_eq_true (show ((1 : Int) < (((Lib.decodeL (bl s)).2 : Nat) : Int)) by omega), decide_eq_false (fun h => h2 h.2)]; rfl
  · rw [decide_eq_false (show ¬ ((((Lib.decodeL (bl s)).1 : Nat) : Int) = 65533) by omega), decide_eq_false (show ¬ ((Lib.decodeL (bl s)).1 = 65533 ∧ (Lib.decodeL (bl s)).2 = 1) from fun h => h1 h.1)]; rfl
theorem first_L (s : ByteArray) (hs : s.size ≠ 0) : (isL s = true → (first s).2.2 = 0 ∧ (first s).2.1 = ((Lib.decodeL (bl s)).2 : Int)) ∧ (isL s = false → (first s).2.2 ≠ 0) := by
  constructor
  · intro h
    unfold first
    rw [full_isL hs h, h, dec_L s hs]
    exact ⟨rfl, rfl⟩
  · intro h
    unfold first
    rw [h]
    cases full s
    · show (2 : Int) ≠ 0; decide
    · show (4 : Int) ≠ 0; decide
end U
namespace Go.Proofs.YtdlbnlbajnafdaaDoor
namespace Cm
def esc1 (c : Int) : List Int := bif decide (c = 34) || decide (c = 92) then [92, c] else [c]
def escL (l : List Int) : List Int := l.flatMap esc1
def quoI (l : List Int) : List Int := (34 :: escL l) ++ [34]
def quoB (s : ByteArray) : ByteArray := strOf (quoI (bytesL s))
def live85 (key : Nat) : Lv :=
  bif Nat.beq key 3 then { ls := [0, 3, 4] } else bif Nat.beq key 1003 then { ls := [3] } else
  { ls := [] }
abbrev M85 (ls : Nat → VS → Option (Tr (Ex × VS))) : Env := (E0.withFns []).loops live85 ls
@[reducible] def p85_0 : LP := { n := 36, sl := [.d (Kd.str), .c (Leaf.row ( 0)), .d (.int .i64)], bl := [(0, .row 5 (Kd.int IntKind.u8))] }
def B85_0 (x0 : ByteArray) (x2 : Int) (h0 : List Int) : Tr (p85_0.T ⊕ (List Int)) :=
 let v1 : Bool := (decide ((List.length h0 + (1 : Nat)) * (1 : Nat) ≤ (140737488355328 : Nat)))
 Tr.ite (decide (x2 < (↑(ByteArray.size x0) : Int))) (Tr.ite (inB x2 (ByteArray.size x0)) (Tr.ite (decide (bt x0 x2 = (34 : Int))) (Tr.ite v1 (Tr.ite (inB x2 (ByteArray.size x0)) (Tr.ite (decide ((List.length (h0 ++ [(92 : Int)]) + (1 : Nat)) * (1 : Nat) ≤ (140737488355328 : Nat))) (Tr.ret (Sum.inl ((x0, IntKind.wrap IntKind.i64 (x2 + (1 : Int)), ()), h0 ++ [(92 : Int)] ++ [bt x0 x2], ()))) Tr.fail) Tr.fail) Tr.fail) (Tr.ite (inB x2 (ByteArray.size x0)) (Tr.ite (decide (bt x0 x2 = (92 : Int))) (Tr.ite v1 (Tr.ite (inB x2 (ByteArray.size x0)) (Tr.ite (decide ((List.length (h0 ++ [(92 : Int)]) + (1 : Nat)) * (1 : Nat) ≤ (140737488355328 : Nat))) (Tr.ret (Sum.inl ((x0, IntKind.wrap IntKind.i64 (x2 + (1 : Int)), ()), h0 ++ [(92 : Int)] ++ [bt x0 x2], ()))) Tr.fail) Tr.fail) Tr.fail) (Tr.ite (inB x2 (ByteArray.size x0)) (Tr.ite v1 (Tr.ret (Sum.inl ((x0, IntKind.wrap IntKind.i64 (x2 + (1 : Int)), ()), h0 ++ [bt x0 x2], ()))) Tr.fail) Tr.fail)) Tr.fail)) Tr.fail) (Tr.ret (Sum.inr h0))
def X85_0 (r : (List Int)) : Ex × VS := Prod.mk (Ex.exit ( 0)) { n := 36, v := [Slot.av (AV.one (Leaf.row ( 0)))], h := [( 0, Blk.row ( 5) (Kd.int IntKind.u8) r)] }
def b85_0 : p85_0.T → Tr (p85_0.T ⊕ (List Int)) := fun ⟨⟨x0, ⟨x2, _⟩⟩, ⟨h0, _⟩⟩ => B85_0 x0 x2 h0
theorem h85_0 (ls : Nat → VS → Option (Tr (Ex × VS))) (x : p85_0.T) : (evC (evI 2) (lc Tryd.f85 0) (Env.lend (M85 ls) 0) (unV (live85 3) (p85_0.V x))).map (decL 0 (live85 3) (live85 1003)) = (b85_0 x).map (encR p85_0.V X85_0) := by
  obtain ⟨⟨x0, ⟨x2, _⟩⟩, ⟨h0, _⟩⟩ := x; kernel_rfl
theorem c85_0 (x : p85_0.T) : canV 0 (live85 3) (unV (live85 3) (p85_0.V x)) = p85_0.V x := by
  obtain ⟨⟨x0, ⟨x2, _⟩⟩, ⟨h0, _⟩⟩ := x; kernel_rfl
theorem l85_0 {T : p85_0.T → Tr (List Int)} {ls : Nat → VS → Option (Tr (Ex × VS))} (hls : ∀ x, (Env.lend (M85 ls) 0).ls 3 x = p85_0.ls (fun a => (T a).map X85_0) x) (hS : ∀ x r, (T x).val = some r → Rounds b85_0 x r) : LoopOK (evI 2) (Env.lend (M85 ls) 0) (lc Tryd.f85 0) :=
  loopA 3 (live85 3) (live85 1003) p85_0 b85_0 X85_0 T (by kernel_rfl) rfl rfl hls (h85_0 ls) c85_0 hS
theorem fold_flat {α β : Type} (f : α → List β) : ∀ (l : List α) (o : List β), l.foldl (fun o c => o ++ f c) o = o ++ l.flatMap f
  | [], o => by simp
  | a :: l, o => by rw [List.foldl_cons, fold_flat f l, List.flatMap_cons, List.append_assoc]
theorem esc_len (c : Int) : (esc1 c).length ≤ 2 := by unfold esc1; cases decide (c = 34) || decide (c = 92) <;> simp
theorem byte_at {s : ByteArray} {i : Nat} (h : i < (bytesL s).length) : (bytesL s)[i] = bt s (i : Int) := by
  rw [← U.bytesL_at (by rw [← bytesL_size]; exact h), getD_el h]
def T85 (x : p85_0.T) : Tr (List Int) :=
  match x with
  | ⟨⟨s, i, _⟩, o, _⟩ => .ite (decide ((i : Int) = 0 ∧ ByteArray.size s ≤ 1048576 ∧ List.length (α := Int) o ≤ 1)) (.ret (List.append (α := Int) o (escL (bytesL s)))) .fail
abbrev E85 : Env := M85 fun key x => bif Nat.beq key 3 then p85_0.ls (fun a => (T85 a).map X85_0) x else none
theorem L85 : LoopOK (evI 2) (E85.lend 0) (lc Tryd.f85 0) := by
  refine l85_0 (T := T85) (fun x => rfl) ?_
  rintro ⟨⟨s, i, z⟩, o, z2⟩ r h
  obtain ⟨g1, g2⟩ := pre_val h
  obtain ⟨e1, e2, e3⟩ : (i : Int) = 0 ∧ s.size ≤ 1048576 ∧ o.length ≤ 1 := of_decide_eq_true g1
  subst e1
  cases g2
  have hl := bytesL_size s
  have := Rounds.fold0 (B := b85_0) (bytesL s) (fun i o => ((s, ((i : Nat) : Int), ()), o, ())) (fun o c => o ++ esc1 c) (fun o => o) (fun i o => o.length ≤ 2 * i + 1) o (by omega) (fun i o hi hv => ?_) (fun o hv => ?_)
  · rw [fold_flat] at this
    exact this
  · have hi2 : i < s.size := by omega
    have ec := esc_len (bytesL s)[i]
    refine ⟨?_, by rw [List.length_append]; omega⟩
    rw [byte_at hi]
    unfold esc1
    have c1 : (o.length + 1) * 1 ≤ 140737488355328 := by omega
    have c2 : ((o ++ [(92 : Int)]).length + 1) * 1 ≤ 140737488355328 := by rw [List.length_append]; show (o.length + 1 + 1) * 1 ≤ _; omega
    simp only [b85_0, B85_0, Tr.val, inB_nat hi2, c1, c2, show ((i : Int) < (s.size : Int)) by omega, decide_true, cond_true, wrap64_nat (show i ≤ 1048576 by omega)]
    cases decide (bt s (i : Int) = 34) <;> cases decide (bt s (i : Int) = 92) <;> simp only [Bool.or_true, Bool.or_false, Bool.true_or, cond_true, cond_false, List.append_assoc] <;> rfl
  · simp only [b85_0, B85_0, Tr.val, hl, show ¬ ((s.size : Int) < (s.size : Int)) by omega, decide_false, cond_false]
def d85 (xa : ByteArray) : Tr (ByteArray) :=
 let v1 : List Int := (List.append [(34 : Int)] (escL (bytesL xa)))
 Tr.ite (decide ((0 : Int) = (0 : Int) ∧ ByteArray.size xa ≤ (1048576 : Nat) ∧ (1 : Nat) ≤ (1 : Nat))) (Tr.ite (decide ((List.length v1 + (1 : Nat)) * (1 : Nat) ≤ (140737488355328 : Nat))) (Tr.ret (strOf (v1 ++ [(34 : Int)]))) Tr.fail) Tr.fail
def e85 (r : ByteArray) : FRes := { rs := Slot.av (AV.one (Leaf.dat Kd.str r)), upd := [], new := [] }
@[reducible] def a85 : List AK := [AK.d Kd.str]
@[reducible] def b85 : List BK := []
theorem t85 (xa : ByteArray) : evFn (E85) Tryd.f85 [PM.data Kd.str] (akAV a85 (xa, ())) (bkBs b85 ()) = (d85 xa).map e85 := by kernel_rfl
def s85 (C : akT a85 → Bool) (G : akT a85 → ByteArray) : FSpec := aspec a85 b85 e85 (fun x _ => C x) (fun x _ => G x)
theorem k85 {C : akT a85 → Bool} {G : akT a85 → ByteArray} (hd : ∀ (xa : ByteArray), C (xa, ()) = true → (d85 xa).val = some (G (xa, ()))) (IO : ItOK Tryd.prog (E85) := by exact itOK_none rfl) (L : ∀ c, Tryd.f85.body = some c → LsOK (evI 2) ((E85).lend 0) c := by exact fun c _ => LsOK_none rfl c) : SpecOK Tryd.prog E0 85 (s85 C G) :=
  aspec_ok (ak := a85) (bl := b85) (e := e85) (c := fun x _ => C x) (g := fun x _ => G x) (E0 := E0) (E := E85) tab .nil rfl rfl hm Tryd.func85 (by kernel_rfl) [PM.data Kd.str] (fun X Y H => by obtain ⟨xa, _⟩ := X; exact val_of (t85 xa) (hd xa H)) IO L
abbrev w85 : FSpec := s85 (fun x => decide (ByteArray.size x.1 ≤ 1048576)) fun x => quoB x.1
theorem escL_len : ∀ l : List Int, (escL l).length ≤ 2 * l.length
  | [] => Nat.le_refl 0
  | c :: l => by
    have := escL_len l
    have := esc_len c
    unfold escL at *
    rw [List.flatMap_cons, List.length_append, List.length_cons]; omega
theorem wk85 : SpecOK Tryd.prog E0 85 w85 := by
  refine k85 (fun s H => ?_) (L := ls_ok (lcs := [lc Tryd.f85 0]) (rgs := []) (by kernel_rfl) (by kernel_rfl) L85 trivial)
  have H : s.size ≤ 1048576 := of_decide_eq_true H
  have h1 := escL_len (bytesL s)
  have h2 := bytesL_size s
  show _ = some (quoB s)
  have c1 : (([(34 : Int)] ++ escL (bytesL s)).length + 1) * 1 ≤ 140737488355328 := by rw [List.length_append]; show (1 + (escL (bytesL s)).length + 1) * 1 ≤ _; omega
  simp only [d85, Tr.val, H, show List.length [(34 : Int)] ≤ 1 by decide, and_self, decide_true, cond_true, List.append_eq, c1]
  rfl
def orS (a b : FSpec) : FSpec := { ps := a.ps, g := fun x y => match a.g x y with | some r => some r | none => b.g x y }
theorem or_ok {P : Program} {E : Env} {f : FuncId} {a b : FSpec} (h1 : SpecOK P E f a) (h2 : SpecOK P E f b) : SpecOK P E f (orS a b) := by
  intro F O args bs r hr
  unfold orS at hr
  dsimp only at hr
  split at hr
  · rename_i q h; cases hr; exact h1 F O args bs r h
  · exact h2 F O args bs r hr
namespace Z
def live137 (key : Nat) : Lv :=
  bif Nat.beq key 9996 then { ls := [14] } else
  { ls := [] }
def d137 (xb : Int) (h0_u : Bool) : Tr (Bool × List Int) :=
 Tr.ite true (Tr.ret (true, [xb])) Tr.fail
def e137 (r : Bool × List Int) : FRes := { rs := Slot.av (AV.one Leaf.nili), upd := [Blk.tb ( 143) r.fst [Leaf.srow ( 1)]], new := [Blk.row ( 5) (Kd.int IntKind.u8) r.snd] }
@[reducible] def a137 : List AK := [AK.c (Leaf.ptr (0 : Nat) (0 : Nat)), AK.d (Kd.int IntKind.u8)]
@[reducible] def b137 : List BK := [BK.tb (143 : TypeId) [SK.c Leaf.nils]]
theorem t137 (xb : Int) (h0_u : Bool) : evFn (Env.loops (Env.withFns E0 [((144 : Nat), Z.w144)]) live137 fun (x : Nat) (x_1 : VS) => none) Tryd.f137 [PM.raw] (akAV a137 (xb, ())) (bkBs b137 ((h0_u, ()), ())) = (d137 xb h0_u).map e137 := by kernel_rfl
def s137' (G : akT a137 → bksT b137 → Bool × List Int) : FSpec := aspec0 a137 b137 e137 (G)
theorem k137' {G : akT a137 → bksT b137 → Bool × List Int} (hd : ∀ (xb : Int) (h0_u : Bool), (d137 xb h0_u).val = some (G (xb, ()) ((h0_u, ()), ()))) (IO : ItOK Tryd.prog (Env.loops (Env.withFns E0 [((144 : Nat), Z.w144)]) live137 fun (x : Nat) (x_1 : VS) => none) := by exact itOK_none rfl) (L : ∀ c, Tryd.f137.body = some c → LsOK (evI 2) ((Env.loops (Env.withFns E0 [((144 : Nat), Z.w144)]) live137 fun (x : Nat) (x_1 : VS) => none).lend 1) c := by exact fun c _ => LsOK_none rfl c) : SpecOK Tryd.prog E0 137 (s137' G) :=
  aspec0_ok (ak := a137) (bl := b137) (e := e137) (g := G) (E0 := E0) (E := Env.loops (Env.withFns E0 [((144 : Nat), Z.w144)]) live137 fun (x : Nat) (x_1 : VS) => none) tab (.cons wk144' .nil) rfl rfl hm Tryd.func137 (by kernel_rfl) [PM.raw] (fun X Y => by obtain ⟨xb, _⟩ := X; obtain ⟨⟨h0_u, _⟩, _⟩ := Y; exact val_of (t137 xb h0_u) (hd xb h0_u)) IO L
end Z
abbrev w137 : FSpec := orS Go.Proofs.YtdlbnlbajnafdaaDoor.w137 (Z.s137' fun x _ => (true, [x.1]))
theorem wk137 : SpecOK Tryd.prog E0 137 w137 := or_ok wk137' (Z.k137' fun b u => rfl)
def live76 (key : Nat) : Lv :=
  bif Nat.beq key 20020 then { ls := [9999, 0, 3, 4, 7, 8] } else bif Nat.beq key 40020 then { ls := [21] } else
  bif Nat.beq key 25006 then { ls := [9999, 0, 3, 4, 7, 8, 20] } else bif Nat.beq key 45006 then { ls := [11, 12, 13, 14, 15, 16, 17, 18, 19, 20] } else
  bif Nat.beq key 20009 then { ls := [9999, 0, 3, 7, 8] } else bif Nat.beq key 40009 then { ls := [] } else
  bif Nat.beq key 4 then { ls := [0, 3, 7, 8] } else bif Nat.beq key 1004 then { ls := [3] } else
  bif Nat.beq key 9997 then { ls := [143] } else
  { ls := [] }
abbrev M76 (ls : Nat → VS → Option (Tr (Ex × VS))) : Env := (E0.withFns [(91, w91), (137, w137)]).loops live76 ls
@[reducible] def p76_0 : LP := { n := 29, sl := [.d (Kd.str), .c (Leaf.ptr ( 0) ( 0)), .d (.int .i64), .d (.int .i64)], bl := [(0, .tb 143 [.c (Leaf.srow ( 1))]), (1, .row 5 (Kd.int IntKind.u8))] }
def B76_0 (x0 : ByteArray) (x2 : Int) (x3 : Int) (h0_u : Bool) (h1 : List Int) : Tr (p76_0.T ⊕ (Bool × List Int)) :=
 let v1 : List Int := (List.append h1 [(92 : Int)])
 let v2 : Bool := (decide (List.length h1 + (1 : Nat) ≤ (140737488355328 : Nat)))
 Tr.ite (decide (x3 < x2)) (Tr.ite (inB x3 (ByteArray.size x0)) (Tr.ite (decide (bt x0 x3 = (34 : Int))) (Tr.ite v2 (Tr.ite (inB x3 (ByteArray.size x0)) (Tr.ite (decide (List.length v1 + (1 : Nat) ≤ (140737488355328 : Nat))) (Tr.ret (Sum.inl ((x0, x2, IntKind.wrap IntKind.i64 (x3 + (1 : Int)), ()), (true, ()), List.append v1 [bt x0 x3], ()))) Tr.fail) Tr.fail) Tr.fail) (Tr.ite (inB x3 (ByteArray.size x0)) (Tr.ite (decide (bt x0 x3 = (92 : Int))) (Tr.ite v2 (Tr.ite (inB x3 (ByteArray.size x0)) (Tr.ite (decide (List.length v1 + (1 : Nat) ≤ (140737488355328 : Nat))) (Tr.ret (Sum.inl ((x0, x2, IntKind.wrap IntKind.i64 (x3 + (1 : Int)), ()), (true, ()), List.append v1 [bt x0 x3], ()))) Tr.fail) Tr.fail) Tr.fail) (Tr.ite (inB x3 (ByteArray.size x0)) (Tr.ite v2 (Tr.ret (Sum.inl ((x0, x2, IntKind.wrap IntKind.i64 (x3 + (1 : Int)), ()), (true, ()), List.append h1 [bt x0 x3], ()))) Tr.fail) Tr.fail)) Tr.fail)) Tr.fail) (Tr.ret (Sum.inr (h0_u, h1)))
def X76_0 (r : (Bool × List Int)) : Ex × VS := Prod.mk (Ex.exit ( 0)) { n := 29, v := [Slot.av (AV.one (Leaf.ptr ( 0) ( 0)))], h := [( 0, Blk.tb ( 143) r.fst [Leaf.srow ( 1)]), ( 1, Blk.row ( 5) (Kd.int IntKind.u8) r.snd)] }
def b76_0 : p76_0.T → Tr (p76_0.T ⊕ (Bool × List Int)) := fun ⟨⟨x0, ⟨x2, ⟨x3, _⟩⟩⟩, ⟨⟨h0_u, _⟩, ⟨h1, _⟩⟩⟩ => B76_0 x0 x2 x3 h0_u h1
theorem h76_0 (ls : Nat → VS → Option (Tr (Ex × VS))) (x : p76_0.T) : (evC (evI 2) (lc Tryd.f76 0) (Env.lend (M76 ls) 0) (unV (live76 4) (p76_0.V x))).map (decL 0 (live76 4) (live76 1004)) = (b76_0 x).map (encR p76_0.V X76_0) := by
  obtain ⟨⟨x0, ⟨x2, ⟨x3, _⟩⟩⟩, ⟨⟨h0_u, _⟩, ⟨h1, _⟩⟩⟩ := x; kernel_rfl
theorem c76_0 (x : p76_0.T) : canV 0 (live76 4) (unV (live76 4) (p76_0.V x)) = p76_0.V x := by
  obtain ⟨⟨x0, ⟨x2, ⟨x3, _⟩⟩⟩, ⟨⟨h0_u, _⟩, ⟨h1, _⟩⟩⟩ := x; kernel_rfl
theorem l76_0 {T : p76_0.T → Tr (Bool × List Int)} {ls : Nat → VS → Option (Tr (Ex × VS))} (hls : ∀ x, (Env.lend (M76 ls) 0).ls 4 x = p76_0.ls (fun a => (T a).map X76_0) x) (hS : ∀ x r, (T x).val = some r → Rounds b76_0 x r) : LoopOK (evI 2) (Env.lend (M76 ls) 0) (lc Tryd.f76 0) :=
  loopA 4 (live76 4) (live76 1004) p76_0 b76_0 X76_0 T (by kernel_rfl) rfl rfl hls (h76_0 ls) c76_0 hS
def T76 (x : p76_0.T) : Tr (Bool × List Int) :=
  match x with
  | ⟨⟨s, n, i, _⟩, ⟨u, _⟩, o, _⟩ => .ite (u && decide ((i : Int) = 0 ∧ (n : Int) = (ByteArray.size s : Int) ∧ ByteArray.size s ≤ 1048576 ∧ List.length (α := Int) o ≤ 1)) (.ret (true, List.append (α := Int) o (escL (bytesL s)))) .fail
abbrev E76 : Env := M76 fun key x => bif Nat.beq key 4 then p76_0.ls (fun a => (T76 a).map X76_0) x else none
theorem L76 : LoopOK (evI 2) (E76.lend 0) (lc Tryd.f76 0) := by
  refine l76_0 (T := T76) (fun x => rfl) ?_
  rintro ⟨⟨s, n, i, z⟩, ⟨u, z3⟩, o, z2⟩ r h
  obtain ⟨g1, g2⟩ := pre_val h
  rw [Bool.and_eq_true] at g1
  obtain ⟨g0, g1⟩ := g1
  have g0 : u = true := g0
  subst g0
  obtain ⟨e1, e0, e2, e3⟩ : (i : Int) = 0 ∧ (n : Int) = (s.size : Int) ∧ s.size ≤ 1048576 ∧ o.length ≤ 1 := of_decide_eq_true g1
  subst e1; subst e0
  cases g2
  have hl := bytesL_size s
  have := Rounds.fold0 (B := b76_0) (bytesL s) (fun i o => ((s, (s.size : Int), ((i : Nat) : Int), ()), (true, ()), o, ())) (fun o c => o ++ esc1 c) (fun o => (true, o)) (fun i o => o.length ≤ 2 * i + 1) o (by omega) (fun i o hi hv => ?_) (fun o hv => ?_)
  · rw [fold_flat] at this
    exact this
  · have hi2 : i < s.size := by omega
    have ec := esc_len (bytesL s)[i]
    refine ⟨?_, by rw [List.length_append]; omega⟩
    rw [byte_at hi]
    unfold esc1
    have c1 : o.length + 1 ≤ 140737488355328 := by omega
    have c2 : (o ++ [(92 : Int)]).length + 1 ≤ 140737488355328 := by rw [List.length_append]; show o.length + 1 + 1 ≤ _; omega
    simp only [b76_0, B76_0, Tr.val, inB_nat hi2, c1, c2, List.append_eq, show ((i : Int) < (s.size : Int)) by omega, decide_true, cond_true, wrap64_nat (show i ≤ 1048576 by omega)]
    cases decide (bt s (i : Int) = 34) <;> cases decide (bt s (i : Int) = 92) <;> simp only [Bool.or_true, Bool.or_false, Bool.true_or, cond_true, cond_false, List.append_assoc] <;> rfl
  · simp only [b76_0, B76_0, Tr.val, hl, show ¬ ((s.size : Int) < (s.size : Int)) by omega, decide_false, cond_false]
def d76 (xa : ByteArray) : Tr (ByteArray) :=
 let v1 : List Int := (List.append [(34 : Int)] (escL (bytesL xa)))
 Tr.ite (true && decide ((0 : Int) = (0 : Int) ∧ (↑(ByteArray.size xa) : Int) = (↑(ByteArray.size xa) : Int) ∧ ByteArray.size xa ≤ (1048576 : Nat) ∧ (1 : Nat) ≤ (1 : Nat))) (Tr.ite (decide (List.length v1 + (1 : Nat) ≤ (140737488355328 : Nat))) (Tr.ret (strOf (List.append v1 [(34 : Int)]))) Tr.fail) Tr.fail
def e76 (r : ByteArray) : FRes := { rs := Slot.av (AV.one (Leaf.dat Kd.str r)), upd := [], new := [] }
@[reducible] def a76 : List AK := [AK.d Kd.str]
@[reducible] def b76 : List BK := []
theorem t76 (xa : ByteArray) : evFn (E76) Tryd.f76 [PM.data Kd.str] (akAV a76 (xa, ())) (bkBs b76 ()) = (d76 xa).map e76 := by kernel_rfl
def s76 (C : akT a76 → Bool) (G : akT a76 → ByteArray) : FSpec := aspec a76 b76 e76 (fun x _ => C x) (fun x _ => G x)
theorem k76 {C : akT a76 → Bool} {G : akT a76 → ByteArray} (hd : ∀ (xa : ByteArray), C (xa, ()) = true → (d76 xa).val = some (G (xa, ()))) (IO : ItOK Tryd.prog (E76) := by exact itOK_none rfl) (L : ∀ c, Tryd.f76.body = some c → LsOK (evI 2) ((E76).lend 0) c := by exact fun c _ => LsOK_none rfl c) : SpecOK Tryd.prog E0 76 (s76 C G) :=
  aspec_ok (ak := a76) (bl := b76) (e := e76) (c := fun x _ => C x) (g := fun x _ => G x) (E0 := E0) (E := E76) tab (.cons wk91 (.cons wk137 .nil)) rfl rfl hm Tryd.func76 (by kernel_rfl) [PM.data Kd.str] (fun X Y H => by obtain ⟨xa, _⟩ := X; exact val_of (t76 xa) (hd xa H)) IO L
abbrev w76 : FSpec := s76 (fun x => decide (ByteArray.size x.1 ≤ 1048576)) fun x => quoB x.1
theorem wk76 : SpecOK Tryd.prog E0 76 w76 := by
  refine k76 (fun s H => ?_) (L := ls_ok (lcs := [lc Tryd.f76 0]) (rgs := []) (by kernel_rfl) (by kernel_rfl) L76 trivial)
  have H : s.size ≤ 1048576 := of_decide_eq_true H
  have h1 := escL_len (bytesL s)
  have h2 := bytesL_size s
  show _ = some (quoB s)
  have c1 : ([(34 : Int)] ++ escL (bytesL s)).length + 1 ≤ 140737488355328 := by rw [List.length_append]; show 1 + (escL (bytesL s)).length + 1 ≤ _; omega
  simp only [d76, Tr.val, H, show List.length [(34 : Int)] ≤ 1 by decide, and_self, decide_true, cond_true, List.append_eq, Bool.and_self, c1]
  rfl
def live83 (key : Nat) : Lv :=
  bif Nat.beq key 1 then { ls := [0] } else bif Nat.beq key 1001 then { ls := [2] } else
  { ls := [] }
abbrev M83 (ls : Nat → VS → Option (Tr (Ex × VS))) : Env := (E0.withFns [(140, w140)]).loops live83 ls
@[reducible] def p83_0 : LP := { n := 16, sl := [.d (Kd.str)], bl := [] }
def B83_0 (x0 : ByteArray) : Tr (p83_0.T ⊕ (Unit ⊕ Unit)) :=
 let v1 : Int × Int := ((U.firstR x0).snd)
 let v2 : Int := (v1.snd)
 let v3 : Int := (v1.fst)
 Tr.ite (decide ((0 : Int) < (↑(ByteArray.size x0) : Int))) (Tr.ite (decide (ByteArray.size x0 ≤ (1048576 : Nat))) (Tr.ite (!decide (v2 = (0 : Int))) (Tr.ret (Sum.inr (Sum.inl ()))) (Tr.ite (decide ((0 : Int) ≤ v3 ∧ v3 ≤ (↑(ByteArray.size x0) : Int))) (Tr.ret (Sum.inl ((ByteArray.extract x0 (Int.toNat v3) (ByteArray.size x0), ()), ()))) Tr.fail)) Tr.fail) (Tr.ret (Sum.inr (Sum.inr ())))
def X83_0 : (Unit ⊕ Unit) → Ex × VS
  | (.inl r) => Prod.mk Ex.ret { n := 16, v := [Slot.av (AV.one (Leaf.kb false))], h := [] }
  | (.inr r) => Prod.mk (Ex.exit ( 0)) { n := 16, v := [Slot.av (AV.one Leaf.undef)], h := [] }
def b83_0 : p83_0.T → Tr (p83_0.T ⊕ (Unit ⊕ Unit)) := fun ⟨⟨x0, _⟩, _⟩ => B83_0 x0
theorem h83_0 (ls : Nat → VS → Option (Tr (Ex × VS))) (x : p83_0.T) : (evC (evI 2) (lc Tryd.f83 0) (Env.lend (M83 ls) 0) (unV (live83 1) (p83_0.V x))).map (decL 0 (live83 1) (live83 1001)) = (b83_0 x).map (encR p83_0.V X83_0) := by
  obtain ⟨⟨x0, _⟩, _⟩ := x; kernel_rfl
theorem c83_0 (x : p83_0.T) : canV 0 (live83 1) (unV (live83 1) (p83_0.V x)) = p83_0.V x := by
  obtain ⟨⟨x0, _⟩, _⟩ := x; kernel_rfl
theorem l83_0 {T : p83_0.T → Tr (Unit ⊕ Unit)} {ls : Nat → VS → Option (Tr (Ex × VS))} (hls : ∀ x, (Env.lend (M83 ls) 0).ls 1 x = p83_0.ls (fun a => (T a).map X83_0) x) (hS : ∀ x r, (T x).val = some r → Rounds b83_0 x r) : LoopOK (evI 2) (Env.lend (M83 ls) 0) (lc Tryd.f83 0) :=
  loopA 1 (live83 1) (live83 1001) p83_0 b83_0 X83_0 T (by kernel_rfl) rfl rfl hls (h83_0 ls) c83_0 hS
def T83 (x : p83_0.T) : Tr (Unit ⊕ Unit) :=
  match x with
  | ⟨⟨s, _⟩, _⟩ => .ite (decide (ByteArray.size s ≤ 1048576)) (.ite (Lib.validD (bl s)) (.ret (.inr ())) (.ret (.inl ()))) .fail
abbrev E83 : Env := M83 fun key x => bif Nat.beq key 1 then p83_0.ls (fun a => (T83 a).map X83_0) x else none
theorem R83 : ∀ (n : Nat) (s : ByteArray), s.size ≤ n → s.size ≤ 1048576 → Rounds b83_0 ((s, ()), ()) (bif Lib.validD (bl s) then .inr () else .inl ())
  | n, s, hn, h => by
    by_cases h0 : s.size = 0
    · have e : bl s = [] := List.eq_nil_of_length_eq_zero (by rw [bl_len]; exact h0)
      rw [e, Lib.validD_nil]
      refine .exit ?_
      simp only [b83_0, B83_0, Tr.val, h0]
      rfl
    · have hne : bl s ≠ [] := fun e => h0 (by rw [← bl_len, e]; rfl)
      obtain ⟨f1, f2⟩ := U.first_L s h0
      rw [Lib.validD_step _ hne]
      have hpos : decide ((0 : Int) < (s.size : Int)) = true := decide_eq_true (by omega)
      cases hb : U.isL s with
      | false =>
        have h2 := f2 hb
        rw [U.isL_L s h0] at hb
        have hb : (Lib.decodeL (bl s)).1 = 65533 ∧ (Lib.decodeL (bl s)).2 = 1 := by simpa using hb
        rw [if_pos hb]
        refine .exit ?_
        simp only [b83_0, B83_0, Tr.val, U.firstR_eq, hpos, h, h2, decide_true, decide_false, cond_true, Bool.not_false]
        rfl
      | true =>
        obtain ⟨g1, g2⟩ := f1 hb
        rw [U.isL_L s h0] at hb
        have hb : ¬ ((Lib.decodeL (bl s)).1 = 65533 ∧ (Lib.decodeL (bl s)).2 = 1) := by rw [Bool.not_eq_true'] at hb; exact of_decide_eq_false hb
        rw [if_neg hb]
        have hw := Lib.decodeL_width (bl s)
        have hle := Lib.decodeL_le (bl s) hne
        rw [bl_len] at hle
        have hx : bl (s.extract (Lib.decodeL (bl s)).2 s.size) = (bl s).drop (Lib.decodeL (bl s)).2 := by rw [bl_ext, ← bl_len, List.take_length]
        have hsz : (s.extract (Lib.decodeL (bl s)).2 s.size).size = s.size - (Lib.decodeL (bl s)).2 := by rw [← bl_len, hx, List.length_drop, bl_len]
        obtain ⟨n, rfl⟩ : ∃ m, n = m + 1 := ⟨n - 1, by omega⟩
        have ih := R83 n (s.extract (Lib.decodeL (bl s)).2 s.size) (by omega) (by omega)
        rw [hx] at ih
        refine .step ?_ ih
        simp only [b83_0, B83_0, Tr.val, U.firstR_eq, hpos, h, g1, g2, decide_true, decide_false, cond_true, cond_false, Bool.not_true, Int.toNat_natCast,
          show ((0 : Int) ≤ (((Lib.decodeL (bl s)).2 : Nat) : Int) ∧ (((Lib.decodeL (bl s)).2 : Nat) : Int) ≤ (s.size : Int)) by omega, and_self]
theorem L83 : LoopOK (evI 2) (E83.lend 0) (lc Tryd.f83 0) := by
  refine l83_0 (T := T83) (fun x => rfl) ?_
  rintro ⟨⟨s, z⟩, z2⟩ r h
  obtain ⟨g1, g2⟩ := pre_val h
  have g1 : s.size ≤ 1048576 := of_decide_eq_true g1
  have := R83 s.size s (Nat.le_refl _) g1
  cases hv : Lib.validD (bl s) <;> rw [hv] at g2 this <;> cases g2 <;> exact this
def d83 (xa : ByteArray) : Tr (Bool) :=
 Tr.ite (decide (ByteArray.size xa ≤ (1048576 : Nat))) (Tr.ite (Lib.validD (bl xa)) (Tr.ret true) (Tr.ret false)) Tr.fail
def e83 (r : Bool) : FRes := { rs := Slot.av (AV.one (Leaf.dat Kd.bool r)), upd := [], new := [] }
@[reducible] def a83 : List AK := [AK.d Kd.str]
@[reducible] def b83 : List BK := []
theorem t83 (xa : ByteArray) : evFn (E83) Tryd.f83 [PM.data Kd.bool] (akAV a83 (xa, ())) (bkBs b83 ()) = (d83 xa).map e83 := by kernel_rfl
def s83 (C : akT a83 → Bool) (G : akT a83 → Bool) : FSpec := aspec a83 b83 e83 (fun x _ => C x) (fun x _ => G x)
theorem k83 {C : akT a83 → Bool} {G : akT a83 → Bool} (hd : ∀ (xa : ByteArray), C (xa, ()) = true → (d83 xa).val = some (G (xa, ()))) (IO : ItOK Tryd.prog (E83) := by exact itOK_none rfl) (L : ∀ c, Tryd.f83.body = some c → LsOK (evI 2) ((E83).lend 0) c := by exact fun c _ => LsOK_none rfl c) : SpecOK Tryd.prog E0 83 (s83 C G) :=
  aspec_ok (ak := a83) (bl := b83) (e := e83) (c := fun x _ => C x) (g := fun x _ => G x) (E0 := E0) (E := E83) tab (.cons wk140 .nil) rfl rfl hm Tryd.func83 (by kernel_rfl) [PM.data Kd.bool] (fun X Y H => by obtain ⟨xa, _⟩ := X; exact val_of (t83 xa) (hd xa H)) IO L
abbrev w83 : FSpec := s83 (fun x => decide (ByteArray.size x.1 ≤ 1048576)) fun x => Lib.validD (bl x.1)
theorem wk83 : SpecOK Tryd.prog E0 83 w83 := by
  refine k83 (fun s H => ?_) (L := ls_ok (lcs := [lc Tryd.f83 0]) (rgs := []) (by kernel_rfl) (by kernel_rfl) L83 trivial)
  have H : decide (s.size ≤ 1048576) = true := H
  show _ = some (Lib.validD (bl s))
  simp only [d83, Tr.val, H, cond_true]
  cases Lib.validD (bl s) <;> rfl
@[reducible] def partk : Kd := .pr .str (.pr .bool .un)
end Cm
end Go.Proofs.YtdlbnlbajnafdaaDoor
end
