/- Part 3 of what the proof leans on: an evaluator of Go code over plain data, with its soundness; contracts of functions; laws of plain data. -/
import Derived.Shelf.Strconv.Itoa3
import Derived.Test.YtdlbnlbajnafdaaDoorTie
import Derived.Test.YtdlbnlbajnafdaaDoorCards
import Derived.Lib.LaidU8T
import Derived.PinnedBridge
import Derived.Deep.DeepHandedRow
import Derived.Laws.Externs
import Derived.Lib.MakeNoZero
import Derived.Shelf.Strings.Search3
import Derived.Shelf.Strings.Trim
import Derived.Shelf.Strconv.AtoiAll
import Derived.Shelf.Unicode.ValidAny
import Derived.Lib.ValidLaws
import Derived.Test.YtdlbnlbajnafdaaDoorZq2
section
set_option linter.unusedVariables false
namespace Go.Ev
open Go.RowKit
def encR {α ρ : Type} (V : α → VS) (X : ρ → Ex × VS) : α ⊕ ρ → VS ⊕ (Ex × VS)
  | .inl x => .inl (V x)
  | .inr r => .inr (X r)
def goX {α ρ : Type} (X : ρ → Ex × VS) : α ⊕ ρ → α ⊕ (Ex × VS)
  | .inl y => .inl y
  | .inr r => .inr (X r)
inductive Rounds {α ρ : Type} (B : α → Tr (α ⊕ ρ)) : α → ρ → Prop
  | step {x y : α} {r : ρ} : (B x).val = some (.inl y) → Rounds B y r → Rounds B x r
  | exit {x : α} {r : ρ} : (B x).val = some (.inr r) → Rounds B x r
theorem Tr.map_map {α β γ : Type} (f : α → β) (g : β → γ) : ∀ t : Tr α, (t.map f).map g = t.map fun x => g (f x)
  | .ret _ => rfl
  | .ite c t e => by simp only [Tr.map, Tr.map_map f g t, Tr.map_map f g e]
  | .fail => rfl
theorem Rounds.runB {α ρ : Type} {B : α → Tr (α ⊕ ρ)} {X : ρ → Ex × VS} {x : α} {r : ρ} (h : Rounds B x r) : ∃ k, runB (fun x => (B x).map (goX X)) k x = some (X r) := by
  induction h with
  | step h _ ih =>
    obtain ⟨k, hk⟩ := ih
    refine ⟨k + 1, ?_⟩
    simp only [Ev.runB, Tr.map_val, h, Option.map_some, goX, hk]
  | exit h =>
    refine ⟨1, ?_⟩
    simp only [Ev.runB, Tr.map_val, h, Option.map_some, goX]
theorem loopA {inner : Env → Code → St → Tr (Ex × St)} {E : Env} {c : Code} (key : Nat) (live out : Lv) (p : LP) {ρ : Type} (B : p.T → Tr (p.T ⊕ ρ)) (X : ρ → Ex × VS) (T : p.T → Tr ρ) (hk : loopKey c = key) (hlive : E.live key = live) (hout : E.live (Nat.add 1000 key) = out)
    (hls : ∀ x, E.ls key x = p.ls (fun a => (T a).map X) x)
    (hB : ∀ x, (evC inner c E (unV live (p.V x))).map (decL E.lent live out) = (B x).map (encR p.V X)) (hc : ∀ x, canV E.lent live (unV live (p.V x)) = p.V x)
    (hS : ∀ x r, (T x).val = some r → Rounds B x r) : LoopOK inner E c := by
  refine loopP key live out p (fun x => (B x).map (goX X)) (fun a => (T a).map X) hk hlive hout hls (fun x => ?_) hc fun x r hr => ?_
  · rw [hB, Tr.map_map]
    congr 1
    funext s
    cases s <;> rfl
  · rw [Tr.map_val] at hr
    obtain ⟨q, h1, h2⟩ := Option.map_eq_some_iff.1 hr
    rw [← h2]
    exact (hS x q h1).runB (X := X)
theorem pre_val {α : Type} {c : Bool} {t : Tr α} {r : α} (h : (Tr.ite c t .fail).val = some r) : c = true ∧ t.val = some r := by
  cases c with
  | true => exact ⟨rfl, h⟩
  | false => cases h
theorem ba_nil {s : ByteArray} (h : s.size = 0) : s = { data := #[] } := by
  obtain ⟨a⟩ := s
  have : a = #[] := Array.eq_empty_of_size_eq_zero h
  rw [this]
theorem ba_ne {s : ByteArray} (h : ¬ s.size = 0) : ¬ s = { data := #[] } := fun e => h (by rw [e]; rfl)
theorem Rounds.findA {ρ τ : Type} {B : τ → Tr (τ ⊕ ρ)} {N : Nat} (st : Nat → τ) (p : Nat → Bool) (out : Nat → ρ) (e : ρ)
    (hs : ∀ i, i < N → (B (st i)).val = some (bif p i then .inr (out i) else .inl (st (i + 1)))) (he : (B (st N)).val = some (.inr e)) :
    ∀ k i, i + k = N → Rounds B (st i) (outN (findN p k i) out e)
  | 0, i, h => by
    have : i = N := by omega
    subst this
    exact .exit he
  | k + 1, i, h => by
    have h1 := hs i (by omega)
    simp only [findN]
    cases hp : p i with
    | true =>
      rw [hp] at h1
      exact .exit h1
    | false =>
      rw [hp] at h1
      exact .step h1 (Rounds.findA st p out e hs he k (i + 1) (by omega))
theorem Rounds.find {ρ τ : Type} {B : τ → Tr (τ ⊕ ρ)} {N : Nat} (st : Nat → τ) (p : Nat → Bool) (out : Nat → ρ) (e : ρ)
    (hs : ∀ i, i < N → (B (st i)).val = some (bif p i then .inr (out i) else .inl (st (i + 1)))) (he : (B (st N)).val = some (.inr e)) :
    Rounds B (st 0) (outN (findN p N 0) out e) := Rounds.findA st p out e hs he N 0 (by omega)
theorem Rounds.fold {σ ρ τ α : Type} {B : τ → Tr (τ ⊕ ρ)} (xs : List α) (st : Nat → σ → τ) (f : σ → α → σ) (fin : σ → ρ) (inv : Nat → σ → Prop)
    (hs : ∀ i s (h : i < xs.length), inv i s → (B (st i s)).val = some (.inl (st (i + 1) (f s xs[i]))) ∧ inv (i + 1) (f s xs[i])) (he : ∀ s, inv xs.length s → (B (st xs.length s)).val = some (.inr (fin s))) :
    ∀ k i s, i + k = xs.length → inv i s → Rounds B (st i s) (fin ((xs.drop i).foldl f s))
  | 0, i, s, h, hv => by
    have : i = xs.length := by omega
    subst this
    rw [List.drop_length]
    exact .exit (he s hv)
  | k + 1, i, s, h, hv => by
    have hlt : i < xs.length := by omega
    obtain ⟨h1, h2⟩ := hs i s hlt hv
    rw [List.drop_eq_getElem_cons hlt, List.foldl_cons]
    exact .step h1 (Rounds.fold xs st f fin inv hs he k (i + 1) _ (by omega) h2)
theorem Rounds.fold0 {σ ρ τ α : Type} {B : τ → Tr (τ ⊕ ρ)} (xs : List α) (st : Nat → σ → τ) (f : σ → α → σ) (fin : σ → ρ) (inv : Nat → σ → Prop) (s : σ) (h0 : inv 0 s)
    (hs : ∀ i s (h : i < xs.length), inv i s → (B (st i s)).val = some (.inl (st (i + 1) (f s xs[i]))) ∧ inv (i + 1) (f s xs[i])) (he : ∀ s, inv xs.length s → (B (st xs.length s)).val = some (.inr (fin s))) :
    Rounds B (st 0 s) (fin (xs.foldl f s)) := by
  have := Rounds.fold xs st f fin inv hs he xs.length 0 s (by omega) h0
  rwa [List.drop_zero] at this
theorem getD_el {α : Type} {d : α} {l : List α} {i : Nat} (h : i < l.length) : l.getD i d = l[i] := by simp [List.getD, h]
theorem w64 {n : Int} (h0 : -9223372036854775808 ≤ n) (h1 : n ≤ 9223372036854775807) : IntKind.i64.wrap n = n := by
  simp [IntKind.wrap, IntKind.signed, IntKind.bits]
  omega
section
variable {P : Program} {E E0 : Env} {f : FuncId} {fns : List (Nat × FSpec)}
def aspec (ak : List AK) (bl : List BK) {ρ : Type} (e : ρ → FRes) (c : akT ak → bksT bl → Bool) (g : akT ak → bksT bl → ρ) : FSpec :=
  bspec ak bl fun x y => { c := some (c x y), rs := (e (g x y)).rs, upd := (e (g x y)).upd, new := (e (g x y)).new }
def aspec0 (ak : List AK) (bl : List BK) {ρ : Type} (e : ρ → FRes) (g : akT ak → bksT bl → ρ) : FSpec :=
  bspec ak bl fun x y => { rs := (e (g x y)).rs, upd := (e (g x y)).upd, new := (e (g x y)).new }
theorem aspec_ok (T : TabOK P E.tt) (FO : AllFn P E0 fns) (hfn : E.fn = fnOf fns) (hg : E0.glob = E.glob) (hm : P.follows .mixedOrders = true) {fn : Func} (hf : P.funcs[f]? = some fn) (hname : (fn.name == "runtime.NumGoroutine") = false)
    {ak : List AK} {bl : List BK} {ρ : Type} {e : ρ → FRes} {c : akT ak → bksT bl → Bool} {g : akT ak → bksT bl → ρ} (rm : List PM)
    (h : ∀ x y, c x y = true → (evFn E fn rm (akAV ak x) (bkBs bl y)).val = some (e (g x y))) (IO : ItOK P E) (L : ∀ c, fn.body = some c → LsOK (evI 2) (E.lend bl.length) c) : SpecOK P E0 f (aspec ak bl e c g) := by
  refine bspec_ok T FO hfn hg hm hf hname rm (fun x y hc => ?_) IO L
  rw [h x y (by cases h : c x y with | true => rfl | false => exact absurd (by show some (c x y) = some false; rw [h]) hc)]
theorem aspec0_ok (T : TabOK P E.tt) (FO : AllFn P E0 fns) (hfn : E.fn = fnOf fns) (hg : E0.glob = E.glob) (hm : P.follows .mixedOrders = true) {fn : Func} (hf : P.funcs[f]? = some fn) (hname : (fn.name == "runtime.NumGoroutine") = false)
    {ak : List AK} {bl : List BK} {ρ : Type} {e : ρ → FRes} {g : akT ak → bksT bl → ρ} (rm : List PM)
    (h : ∀ x y, (evFn E fn rm (akAV ak x) (bkBs bl y)).val = some (e (g x y))) (IO : ItOK P E) (L : ∀ c, fn.body = some c → LsOK (evI 2) (E.lend bl.length) c) : SpecOK P E0 f (aspec0 ak bl e g) := by
  refine bspec_ok T FO hfn hg hm hf hname rm (fun x y hc => ?_) IO L
  rw [h x y]
end
theorem val_of {α : Type} {t : Tr α} {f : α → FRes} {F : Tr FRes} {r : α} (h : F = t.map f) (hv : t.val = some r) : F.val = some (f r) := by rw [h, Tr.map_val, hv]; rfl
end Go.Ev
end
section
set_option linter.unusedVariables false
namespace Go.Ev
open Go.RowKit Go.Sort Go.Shelf Go.Proofs
theorem HR.grows {C : Ctx} {w w' : World} {K : KSet} {A : Asg} {h : Heap} (H : HR C w K A h) (hg : w.grownBy w' none) : HR C w' K A h ∧ Ext K A h w K A h w' := by
  have hw : ∀ b, b < w.heap.size → w'.heap[b]? = w.heap[b]? := fun b hb => hg.block b hb (by simp)
  have x : Ext K A h w K A h w' :=
    ⟨fun b hb => ⟨hb, hw b (H.kset b hb).1⟩, fun i hi => ⟨hi, rfl, rfl⟩, fun i e k xs' _ hgi => ⟨xs', hgi, rfl⟩, fun i k xs' _ hgi => .inr ⟨xs', hgi, rfl⟩⟩
  refine ⟨⟨fun i b hb => BlkR.keep x hb (fun hu => hw _ (H.own i hu).2.1) (H.blk i b hb), H.inj, fun i hu => ?_, fun b hb => ?_, fun b hb => H.k0 b hb, fun g l hl => x.leaf (H.glob g l hl),
    hg.os.trans H.os, hg.tape.trans H.tape, hg.output.trans H.output, Nat.le_trans H.size hg.size, fun b hb hl => (hw b (Nat.lt_of_lt_of_le hb H.size)).trans (H.frame b hb hl)⟩, x⟩
  · obtain ⟨a, b, c⟩ := H.own i hu
    exact ⟨a, Nat.lt_of_lt_of_le b hg.size, c⟩
  · obtain ⟨a, c⟩ := H.kset b hb
    exact ⟨Nat.lt_of_lt_of_le a hg.size, c⟩
theorem grownBy_grow (w : World) (k : Nat) (os : Array Obj) : w.grownBy (grow (w.drewN k) os) none :=
  ⟨rfl, rfl, rfl, by rw [size_grow]; exact Nat.le_add_right _ _, fun b hb _ => by
    show (w.heap ++ os)[b]? = w.heap[b]?
    rw [Array.getElem?_append, if_pos hb]⟩
theorem callsIn_open {F : Fence} (O : Open F) {n : Nat} {P : Program} {f : FuncId} {args : Array Value} {w : World} {R : Ending → World → Prop} (h : Calls P f args w R) : CallsIn F n P f args w R := by
  have hf : ∀ m, Machine.fenced P F m := fun m g _ => ⟨fun ha => (by rw [O.alive] at ha; cases ha), .inl (O.fn _), fun f _ => O.fn f, fun d hd => (by rw [O.depth] at hd; cases hd)⟩
  have hs : ∀ {m m' : Machine}, Steps P m m' → StepsIn (Machine.fenced P F) P m m' := fun h => (StepsIn.of_steps h).mono fun m _ => hf m
  refine ⟨O.fn f, fun cs _ => ?_⟩
  obtain ⟨e, w', fr, r, s, x⟩ := h cs
  refine ⟨e, w', fr, r, ?_, x⟩
  cases e with
  | returned v => exact hs s
  | panicked chain => exact hs s
  | outgrown => exact s
def itoaB (n : Int) : ByteArray := ⟨(Lib.itoa n).toArray⟩
abbrev itoaS : FSpec := dspec [.int .i64] fun x => { c := some (decide (-9223372036854775808 ≤ (x.1 : Int) ∧ (x.1 : Int) ≤ 9223372036854775807)), rs := .av (.one (.dat .str (itoaB x.1))) }
theorem tabIs_glob {P : Program} {C : Ctx} {w : World} {K : KSet} {A : Asg} {h : Heap} (H : HR C w K A h) {g : Nat} {name : String} {zs : List Int} (hg : C.E.glob g = some (.arr (.int .u64) zs)) (hn : P.globalNamed name = some g) : Lib.TabIs P w name .u64 zs := by
  obtain ⟨b, off, cs, t, fr, e, hk, hc, hR, hz⟩ := H.glob g _ hg
  cases e
  have hz := hz rfl
  unfold Lib.TabIs World.var?
  rw [hn]
  show (match w.heap[g]? with | some (.cells cs _ _) => some cs | _ => none) = _
  rw [hc]
  show some cs = _
  congr 1
  apply Array.ext_getElem?
  intro i
  by_cases hi : i < zs.length
  · have h1 := hR i hi
    have h2 : cellsAt cs (0 + i * 1) 1 = [.int .u64 (zs.getD i 0)] := h1
    have h3 : i < cs.size := by rw [hz]; exact hi
    unfold cellsAt at h2
    rw [Nat.zero_add, Nat.mul_one, List.drop_eq_getElem_cons (by simpa using h3), List.take_succ_cons, List.take_zero] at h2
    have h4 := (List.cons.inj h2).1
    rw [Array.getElem?_eq_getElem h3]
    simp only [Array.getElem_toList] at h4
    rw [h4]
    simp [List.getD_eq_getElem?_getD, hi]
  · rw [Array.getElem?_eq_none (by rw [hz]; omega), Array.getElem?_eq_none (by simp; omega)]
theorem itoa_ok {P : Program} {ρ : Go.Shelf.Ren} (L : LaysM.n171 P ρ) {E : Env} {g : Nat} (hg : E.glob g = some (.arr (.int .u64) Lib.pow10Tab)) (hn : P.globalNamed "internal/strconv.uint64pow10" = some g)
    (he : ∀ args w, (callFunc (ρ.f 171) args).run P w = .ok (.enter (ρ.f 171) args) w) {f : FuncId} (hf : ρ.f 171 = f) : SpecOK P E f itoaS := by
  subst hf
  intro F O args bs r hr hc w K A vs H hv
  unfold itoaS dspec at hr
  simp only [] at hr
  split at hr
  · split at hr
    · rename_i x hx
      cases hr
      have hin : -9223372036854775808 ≤ x.1 ∧ x.1 ≤ 9223372036854775807 := by
        by_cases hd : -9223372036854775808 ≤ x.1 ∧ x.1 ≤ 9223372036854775807
        · exact hd
        · exact absurd (by simp [hd]) hc
      have hv' := packAll_R H hx hv
      have hvs : vs = [.int .i64 x.1] := by
        cases hv' with
        | cons h1 h2 =>
          cases h2
          rw [show _ = _ from h1]
      subst hvs
      refine .inr ⟨he _ _, callsIn_open O ((Any.strconv_Itoa L x.1 hin.1 hin.2 w (tabIs_glob H hg hn)).mono fun e w' h => ?_)⟩
      obtain ⟨rfl, k, os, rfl⟩ := h
      obtain ⟨H', X⟩ := H.grows (grownBy_grow w k os)
      exact ⟨_, rfl, K, A, H', X, rfl, rfl⟩
    · cases hr
  · cases hr
end Go.Ev
end
section
set_option linter.unusedVariables false
set_option maxRecDepth 100000
namespace Go.Proofs.YtdlbnlbajnafdaaDoor
open Go.ChangeShapes Go.WideShapes Go.ChangeAt Go.RowKit Go.Ev Go.Lib Go.Shelf
def bool1 (b : Bool) : SRes := { rs := one (.dat .bool b) }
theorem own : ownKnob Tryd.prog.godebug = none := by kernel_rfl
def ρ8 : Ren := ⟨fun x => x, fun x => if x = 119 then 212 else if x = 138 then 214 else if x = 139 then 215 else x, fun x => x - 1⟩
theorem ty8 : U8Types Tryd.prog ρ8 := ⟨Tryd.underlying5, Tryd.underlying212, Tryd.underlying214, Tryd.underlying215⟩
theorem ex8 : U8Extra Tryd.prog ρ8 := ⟨by kernel_rfl, by kernel_rfl, by kernel_rfl, by kernel_rfl, by kernel_rfl, by kernel_rfl, by kernel_rfl⟩
theorem pow_eq : (Rows.laid_internal_strconv_uint64pow10 : DataW Unit) = tabData .u64 U.pow10L := by kernel_rfl
theorem acc_eq : (Rows.laid_unicode_utf8_acceptRanges : DataW Unit) = acceptData := by kernel_rfl
theorem fst_eq : Rows.laid_unicode_utf8_first = firstData := by kernel_rfl
def Tabs (W : World) : Prop := Utf8Tabs 2 3 W ∧ TabIs Tryd.prog W "internal/strconv.uint64pow10" .u64 U.pow10L
theorem cells_of {W : World} {g : Nat} {i : Nat} {v : Value} (h : W.cell? ⟨g, i, none⟩ = some v) : ∃ cs t fr, W.heap[g]? = some (.cells cs t fr) := by
  unfold World.cell? at h
  split at h
  · rename_i c t fr hc
    exact ⟨c, t, fr, hc⟩
  · cases h
theorem cell_at {W : World} {g : Nat} {cs : Array Value} {t : TypeId} {fr : Nat × Nat} (hc : W.heap[g]? = some (.cells cs t fr)) {i : Nat} {v : Value} (h : W.cell? ⟨g, i, none⟩ = some v) : cs.toList[i]? = some v := by
  unfold World.cell? at h
  rw [hc] at h
  simpa using h
theorem globs {W : World} (hT : Tabs W) : ∀ g p, E0.glob g = some p → LeafR W (allK W) noA [] p.leaf (.pointer (some ⟨g, 0, none⟩)) := by
  obtain ⟨h, hp10⟩ := hT
  intro g p hp
  have hp : gl g = some p := hp
  unfold gl at hp
  cases h0 : Nat.beq g 2 with
  | true =>
    rw [h0] at hp
    cases hp
    have e := Nat.eq_of_beq_eq_true h0
    subst e
    obtain ⟨cs, t, fr, hc⟩ := cells_of (h.1 0 (by omega))
    refine ⟨2, 0, cs, t, fr, rfl, (Array.getElem?_eq_some_iff.1 hc).1, hc, fun i hi => ?_, fun h => by cases h⟩
    have hi : i < 256 := hi
    have h1 := cell_at hc (h.1 i hi)
    show cellsAt cs (0 + i * 1) 1 = [.int .u8 (U.firstL.getD i 0)]
    have e : U.firstL.getD i 0 = firstT i := by
      unfold U.firstL
      rw [List.getD_eq_getElem?_getD, List.getElem?_map, List.getElem?_range hi]
      rfl
    rw [e]
    unfold cellsAt
    rw [Nat.zero_add, Nat.mul_one, List.drop_eq_getElem_cons (List.getElem?_eq_some_iff.1 h1).1, List.take_succ_cons, List.take_zero, (List.getElem?_eq_some_iff.1 h1).2]
  | false =>
    rw [h0] at hp
    cases h1 : Nat.beq g 3 with
    | false =>
      rw [h1] at hp
      cases h2 : Nat.beq g 5 with
      | false => rw [h2] at hp; cases hp
      | true =>
        rw [h2] at hp
        cases hp
        have e := Nat.eq_of_beq_eq_true h2
        subst e
        unfold TabIs World.var? at hp10
        rw [show Tryd.prog.globalNamed "internal/strconv.uint64pow10" = some 5 from by kernel_rfl] at hp10
        have hp10 : (match (W.heap[5]? : Option Obj) with | some (Obj.cells cs _ _) => some cs | _ => none) = some (U.pow10L.map fun z => Value.int .u64 z).toArray := hp10
        split at hp10
        · rename_i cs t fr hc
          cases hp10
          refine ⟨5, 0, _, t, fr, rfl, (Array.getElem?_eq_some_iff.1 hc).1, hc, fun i hi => ?_, fun _ => by simp⟩
          have hi : i < U.pow10L.length := hi
          show cellsAt (U.pow10L.map fun z => Value.int .u64 z).toArray (0 + i * 1) 1 = [.int .u64 (U.pow10L.getD i 0)]
          unfold cellsAt
          have hi2 : i < (U.pow10L.map fun z => Value.int .u64 z).length := by rw [List.length_map]; exact hi
          rw [Nat.zero_add, Nat.mul_one, List.drop_eq_getElem_cons hi2, List.take_succ_cons, List.take_zero, List.getElem_map, List.getD_eq_getElem?_getD, List.getElem?_eq_getElem hi]
          rfl
        · cases hp10
    | true =>
      rw [h1] at hp
      cases hp
      have e := Nat.eq_of_beq_eq_true h1
      subst e
      obtain ⟨cs, t, fr, hc⟩ := cells_of (h.2 0 (by omega)).1
      refine ⟨3, 0, cs, t, fr, rfl, (Array.getElem?_eq_some_iff.1 hc).1, hc, fun i hi => ?_, fun h => by cases h⟩
      have hi : i < 16 := hi
      have a1 := cell_at hc (h.2 i hi).1
      have a2 := cell_at hc (h.2 i hi).2
      have e : U.accL.getD i (Kd.dflt acck) = ((accLo i : Int), (accHi i : Int), ()) := by
        unfold U.accL
        rw [List.getD_eq_getElem?_getD, List.getElem?_map, List.getElem?_range hi]
        rfl
      show Kd.R W (allK W) acck (U.accL.getD i (Kd.dflt acck)) (cellsAt cs (0 + i * 2) 2)
      rw [e]
      have b1 := List.getElem?_eq_some_iff.1 a1
      have b2 := List.getElem?_eq_some_iff.1 a2
      have hcs : cellsAt cs (0 + i * 2) 2 = [.int .u8 (accLo i), .int .u8 (accHi i)] := by
        unfold cellsAt
        rw [Nat.zero_add, Nat.mul_comm i 2, List.drop_eq_getElem_cons b1.1, List.take_succ_cons, List.drop_eq_getElem_cons b2.1, List.take_succ_cons, List.take_zero, b1.2, b2.2]
      rw [hcs]
      exact ⟨[.int .u8 (accLo i)], [.int .u8 (accHi i)], rfl, rfl, [.int .u8 (accHi i)], [], rfl, rfl, rfl⟩
def lay0 : Obj → Obj
  | .cells _ t frozen => .cells ((List.range 256).map fun i => Value.int .u8 (firstT i)).toArray t frozen
  | o => o
def lay1 : Obj → Obj
  | .cells _ t frozen => .cells ((List.range 16).flatMap fun i => [Value.int .u8 (accLo i), Value.int .u8 (accHi i)]).toArray t frozen
  | o => o
def lay2 : Obj → Obj
  | .cells _ t frozen => .cells (U.pow10L.map fun z => Value.int .u64 z).toArray t frozen
  | o => o
def tab32 : List Int := [0, 1, 28, 2, 29, 14, 24, 3, 30, 22, 20, 15, 25, 17, 4, 8, 31, 27, 13, 23, 21, 19, 16, 7, 26, 12, 18, 6, 11, 5, 10, 9]
def tab64 : List Int := [0, 1, 56, 2, 57, 49, 28, 3, 61, 58, 42, 50, 38, 29, 17, 4, 62, 47, 59, 36, 45, 43, 51, 22, 53, 39, 33, 30, 24, 18, 12, 5, 63, 55, 48, 27, 60, 41, 37, 16, 46, 35, 44, 21, 52, 32, 23, 11, 54, 26, 40, 15, 34, 20, 31, 10, 25, 14, 19, 9, 13, 8, 7, 6]
def lay3 : Obj → Obj
  | .cells _ t frozen => .cells (tab32.map fun z => Value.int .u8 z).toArray t frozen
  | o => o
def lay4 : Obj → Obj
  | .cells _ t frozen => .cells (tab64.map fun z => Value.int .u8 z).toArray t frozen
  | o => o
noncomputable def laidWorld (os : Os) : World :=
  { World.holding Tryd.prog os ⟨#[], #[], []⟩ with heap := (((((World.holding Tryd.prog os ⟨#[], #[], []⟩).heap.modify 2 lay0).modify 3 lay1).modify 5 lay2).modify 8 lay3).modify 9 lay4 }
end Go.Proofs.YtdlbnlbajnafdaaDoor
end
section
set_option linter.unusedVariables false
set_option linter.unusedSimpArgs false
set_option maxRecDepth 20000
open Go Go.Ev
namespace Go.Proofs.YtdlbnlbajnafdaaDoor
open Go.RowKit
def optI' : Option Nat → Int
  | some j => (j : Int)
  | none => -1
end Go.Proofs.YtdlbnlbajnafdaaDoor
end
section
set_option linter.unusedVariables false
set_option linter.unusedSimpArgs false
set_option maxRecDepth 20000
open Go Go.Ev
namespace U
open Go.Proofs.YtdlbnlbajnafdaaDoor
theorem bytesL_at {s : ByteArray} {i : Nat} (hi : i < s.size) : (bytesL s).getD i 0 = bt s (i : Int) := by
  have h2 : i < s.data.toList.length := by
    have := bl_len s
    unfold bl at this
    omega
  rw [bt_eq (by omega), Int.toNat_natCast]
  unfold bytesL bl
  rw [List.getD_eq_getElem?_getD, List.getD_eq_getElem?_getD, List.getElem?_map, List.getElem?_eq_getElem h2]
  rfl
end U
end
section
set_option linter.unusedVariables false
set_option linter.unusedSimpArgs false
set_option maxRecDepth 20000
open Go Go.Ev
namespace Go.Proofs.YtdlbnlbajnafdaaDoor
def d142 (a : Int) (b : Int) : Tr (Int × Int) :=
 let v1 : Int := (b.fdiv (4294967296 : Int))
 let v2 : Int := (a.fdiv (4294967296 : Int))
 let v3 : Int := ((↑(BitVec.ofInt (64 : Nat) a &&& BitVec.ofInt (64 : Nat) (4294967295 : Int)).toNat : Int))
 let v4 : Int := ((↑(BitVec.ofInt (64 : Nat) b &&& BitVec.ofInt (64 : Nat) (4294967295 : Int)).toNat : Int))
 let v5 : Int := (v2 * IntKind.u64.wrap v4)
 let v6 : Int := (IntKind.u64.wrap v3 * IntKind.u64.wrap v4)
 let v7 : Int := ((IntKind.u64.wrap v6).fdiv (4294967296 : Int))
 let v8 : Int := (IntKind.u64.wrap v5 + v7)
 Tr.ite true (Tr.ite true (Tr.ite true (Tr.ite true (Tr.ite true (Tr.ret (IntKind.u64.wrap (IntKind.u64.wrap (IntKind.u64.wrap (v2 * v1) + (IntKind.u64.wrap v8).fdiv (4294967296 : Int)) + (IntKind.u64.wrap (IntKind.u64.wrap (↑(BitVec.ofInt (64 : Nat) (IntKind.u64.wrap v8) &&& BitVec.ofInt (64 : Nat) (4294967295 : Int)).toNat : Int) + IntKind.u64.wrap (IntKind.u64.wrap v3 * v1))).fdiv (4294967296 : Int)), IntKind.u64.wrap (a * b))) Tr.fail) Tr.fail) Tr.fail) Tr.fail) Tr.fail
def e142 (r : Int × Int) : FRes := { rs := Slot.tup [AV.one (Leaf.dat (Kd.int IntKind.u64) r.fst), AV.one (Leaf.dat (Kd.int IntKind.u64) r.snd)], upd := [], new := [] }
@[reducible] def a142 : List AK := [AK.d (Kd.int IntKind.u64), AK.d (Kd.int IntKind.u64)]
@[reducible] def b142 : List BK := []
theorem t142 (a : Int) (b : Int) : evFn (E0) Tryd.f142 [PM.data (Kd.int IntKind.u64), PM.data (Kd.int IntKind.u64)] (akAV a142 (a, b, ())) (bkBs b142 ()) = (d142 a b).map e142 := by kernel_rfl
def s142 (C : akT a142 → Bool) (G : akT a142 → Int × Int) : FSpec := aspec a142 b142 e142 (fun x _ => C x) (fun x _ => G x)
theorem k142 {C : akT a142 → Bool} {G : akT a142 → Int × Int} (hd : ∀ (a : Int) (b : Int), C (a, b, ()) = true → (d142 a b).val = some (G (a, b, ()))) (IO : ItOK Tryd.prog (E0) := by exact itOK_none rfl) (L : ∀ c, Tryd.f142.body = some c → LsOK (evI 2) ((E0).lend 0) c := by exact fun c _ => LsOK_none rfl c) : SpecOK Tryd.prog E0 142 (s142 C G) :=
  aspec_ok (ak := a142) (bl := b142) (e := e142) (c := fun x _ => C x) (g := fun x _ => G x) (E0 := E0) (E := E0) tab .nil rfl rfl hm Tryd.func142 (by kernel_rfl) [PM.data (Kd.int IntKind.u64), PM.data (Kd.int IntKind.u64)] (fun X Y H => by obtain ⟨a, ⟨b, _⟩⟩ := X; exact val_of (t142 a b) (hd a b H)) IO L
abbrev w142 : FSpec := s142 (fun x => decide ((x.1 : Int) = 1 ∧ 0 ≤ (x.2.1 : Int) ∧ (x.2.1 : Int) < 128)) fun x => ((0 : Int), x.2.1)
theorem wk142 : SpecOK Tryd.prog E0 142 w142 := by
  refine k142 fun a b H => ?_
  obtain ⟨h1, h2, h3⟩ := of_decide_eq_true H
  dsimp only at h1 h2 h3
  subst h1
  obtain ⟨n, rfl⟩ := Int.eq_ofNat_of_zero_le h2
  have hn : n < 128 := Int.ofNat_lt.1 h3
  have : ∀ m : Fin 128, (d142 1 (m.val : Int)).val = some ((0 : Int), (m.val : Int)) := by decide +kernel
  exact this ⟨n, hn⟩
def d86 (a : Int) (b : Int) : Tr (Int × Int) :=
 Tr.ite (decide (a = (1 : Int) ∧ (0 : Int) ≤ b ∧ b < (128 : Int))) (Tr.ret ((0 : Int), b)) Tr.fail
def e86 (r : Int × Int) : FRes := { rs := Slot.tup [AV.one (Leaf.dat (Kd.int IntKind.u64) r.fst), AV.one (Leaf.dat (Kd.int IntKind.u64) r.snd)], upd := [], new := [] }
@[reducible] def a86 : List AK := [AK.d (Kd.int IntKind.u64), AK.d (Kd.int IntKind.u64)]
@[reducible] def b86 : List BK := []
theorem t86 (a : Int) (b : Int) : evFn (E0.withFns [((142 : Nat), w142)]) Tryd.f86 [PM.data (Kd.int IntKind.u64), PM.data (Kd.int IntKind.u64)] (akAV a86 (a, b, ())) (bkBs b86 ()) = (d86 a b).map e86 := by kernel_rfl
def s86 (C : akT a86 → Bool) (G : akT a86 → Int × Int) : FSpec := aspec a86 b86 e86 (fun x _ => C x) (fun x _ => G x)
theorem k86 {C : akT a86 → Bool} {G : akT a86 → Int × Int} (hd : ∀ (a : Int) (b : Int), C (a, b, ()) = true → (d86 a b).val = some (G (a, b, ()))) (IO : ItOK Tryd.prog (E0.withFns [((142 : Nat), w142)]) := by exact itOK_none rfl) (L : ∀ c, Tryd.f86.body = some c → LsOK (evI 2) ((E0.withFns [((142 : Nat), w142)]).lend 0) c := by exact fun c _ => LsOK_none rfl c) : SpecOK Tryd.prog E0 86 (s86 C G) :=
  aspec_ok (ak := a86) (bl := b86) (e := e86) (c := fun x _ => C x) (g := fun x _ => G x) (E0 := E0) (E := E0.withFns [((142 : Nat), w142)]) tab (.cons wk142 .nil) rfl rfl hm Tryd.func86 (by kernel_rfl) [PM.data (Kd.int IntKind.u64), PM.data (Kd.int IntKind.u64)] (fun X Y H => by obtain ⟨a, ⟨b, _⟩⟩ := X; exact val_of (t86 a b) (hd a b H)) IO L
abbrev w86 : FSpec := s86 (fun x => decide ((x.1 : Int) = 1 ∧ 0 ≤ (x.2.1 : Int) ∧ (x.2.1 : Int) < 128)) fun x => ((0 : Int), x.2.1)
theorem wk86 : SpecOK Tryd.prog E0 86 w86 := by
  refine k86 fun a b H => ?_
  obtain ⟨h1, h2, h3⟩ := of_decide_eq_true H
  dsimp only at h1 h2 h3
  simp only [d86, Tr.val, h1, h2, h3, and_self, decide_true, cond_true]
end Go.Proofs.YtdlbnlbajnafdaaDoor
end
section
set_option linter.unusedVariables false
set_option linter.unusedSimpArgs false
set_option maxRecDepth 20000
set_option maxHeartbeats 4000000
open Go Go.Ev
namespace Go.Proofs.YtdlbnlbajnafdaaDoor
open Go.RowKit
def w175 : FSpec := { ps := [.raw], g := fun args bs => match args with
  | [.one (.ptr 0 0)] => some { rs := .av (.one (.ptr 0 0)), upd := bs }
  | _ => none }
theorem wk175 : SpecOK Tryd.prog E0 175 w175 := by
  intro F O args bs r hr
  unfold w175 at hr
  simp only at hr
  split at hr
  · cases hr
    intro hc w K A vs H hv
    cases hv with
    | cons h0 h1 =>
      cases h1
      rename_i v
      refine .inl ⟨v, w, ?_, K, A, by rw [List.append_nil]; exact H, by rw [List.append_nil]; exact Ext.refl _ _ _ _, by rw [List.append_nil]; exact h0, rfl⟩
      rw [run_callFunc_extern Tryd.func175 (by kernel_rfl) (by kernel_rfl) (by kernel_rfl) (e := Extern.AbiNoEscape.same) (by kernel_rfl)]
      rw [Lib.run_noEscape]
      rfl
  · cases hr
abbrev bldZ : List BK := [.tb 143 [.c .nils]]
def live144 (key : Nat) : Lv :=
  { ls := [] }
def d144 (h0_u : Bool) (h1 : List Int) : Tr (Bool × List Int) :=
 Tr.ite (!h0_u) (Tr.ret (true, h1)) (Tr.ite (!h0_u) Tr.fail (Tr.ret (h0_u, h1)))
def e144 (r : Bool × List Int) : FRes := { rs := Slot.tup [], upd := [Blk.tb ( 143) r.fst [Leaf.srow ( 1)], Blk.row ( 5) (Kd.int IntKind.u8) r.snd], new := [] }
@[reducible] def a144 : List AK := [AK.c (Leaf.ptr (0 : Nat) (0 : Nat))]
@[reducible] def b144 : List BK := [BK.tb (143 : TypeId) [SK.c (Leaf.srow (1 : Nat))], BK.row (5 : TypeId) (Kd.int IntKind.u8)]
theorem t144 (h0_u : Bool) (h1 : List Int) : evFn (Env.loops (Env.withFns E0 [((175 : Nat), w175)]) live144 fun (x : Nat) (x_1 : VS) => none) Tryd.f144 [] (akAV a144 ()) (bkBs b144 ((h0_u, ()), h1, ())) = (d144 h0_u h1).map e144 := by kernel_rfl
def s144' (G : akT a144 → bksT b144 → Bool × List Int) : FSpec := aspec0 a144 b144 e144 (G)
theorem k144' {G : akT a144 → bksT b144 → Bool × List Int} (hd : ∀ (h0_u : Bool) (h1 : List Int), (d144 h0_u h1).val = some (G () ((h0_u, ()), h1, ()))) (IO : ItOK Tryd.prog (Env.loops (Env.withFns E0 [((175 : Nat), w175)]) live144 fun (x : Nat) (x_1 : VS) => none) := by exact itOK_none rfl) (L : ∀ c, Tryd.f144.body = some c → LsOK (evI 2) ((Env.loops (Env.withFns E0 [((175 : Nat), w175)]) live144 fun (x : Nat) (x_1 : VS) => none).lend 2) c := by exact fun c _ => LsOK_none rfl c) : SpecOK Tryd.prog E0 144 (s144' G) :=
  aspec0_ok (ak := a144) (bl := b144) (e := e144) (g := G) (E0 := E0) (E := Env.loops (Env.withFns E0 [((175 : Nat), w175)]) live144 fun (x : Nat) (x_1 : VS) => none) tab (.cons wk175 .nil) rfl rfl hm Tryd.func144 (by kernel_rfl) [] (fun X Y => by obtain ⟨⟨h0_u, _⟩, ⟨h1, _⟩⟩ := Y; exact val_of (t144 h0_u h1) (hd h0_u h1)) IO L
abbrev w144 : FSpec := s144' fun _ y => (true, y.2.1)
theorem wk144 : SpecOK Tryd.prog E0 144 w144 := k144' fun u h => by cases u <;> rfl
namespace Z
def d144 (h0_u : Bool) : Tr (Bool) :=
 Tr.ite (!h0_u) (Tr.ret true) (Tr.ite (!h0_u) Tr.fail (Tr.ret h0_u))
def e144 (r : Bool) : FRes := { rs := Slot.tup [], upd := [Blk.tb ( 143) r [Leaf.nils]], new := [] }
@[reducible] def a144 : List AK := [AK.c (Leaf.ptr (0 : Nat) (0 : Nat))]
@[reducible] def b144 : List BK := [BK.tb (143 : TypeId) [SK.c Leaf.nils]]
theorem t144 (h0_u : Bool) : evFn (Env.withFns E0 [((175 : Nat), w175)]) Tryd.f144 [] (akAV a144 ()) (bkBs b144 ((h0_u, ()), ())) = (d144 h0_u).map e144 := by kernel_rfl
def s144' (G : akT a144 → bksT b144 → Bool) : FSpec := aspec0 a144 b144 e144 (G)
theorem k144' {G : akT a144 → bksT b144 → Bool} (hd : ∀ (h0_u : Bool), (d144 h0_u).val = some (G () ((h0_u, ()), ()))) (IO : ItOK Tryd.prog (Env.withFns E0 [((175 : Nat), w175)]) := by exact itOK_none rfl) (L : ∀ c, Tryd.f144.body = some c → LsOK (evI 2) ((Env.withFns E0 [((175 : Nat), w175)]).lend 1) c := by exact fun c _ => LsOK_none rfl c) : SpecOK Tryd.prog E0 144 (s144' G) :=
  aspec0_ok (ak := a144) (bl := b144) (e := e144) (g := G) (E0 := E0) (E := Env.withFns E0 [((175 : Nat), w175)]) tab (.cons wk175 .nil) rfl rfl hm Tryd.func144 (by kernel_rfl) [] (fun X Y => by obtain ⟨⟨h0_u, _⟩, _⟩ := Y; exact val_of (t144 h0_u) (hd h0_u)) IO L
abbrev w144 : FSpec := s144' fun _ _ => true
theorem wk144 : SpecOK Tryd.prog E0 144 w144 := k144' fun u => by cases u <;> rfl
end Z
def live89 (key : Nat) : Lv :=
  bif Nat.beq key 9996 then { ls := [14] } else
  { ls := [] }
def d89 (b : ByteArray) (h0_u : Bool) (h1 : List Int) : Tr (Int × Bool × List Int) :=
 Tr.ite (decide (List.length h1 + ByteArray.size b ≤ (140737488355328 : Nat))) (Tr.ret ((↑(ByteArray.size b) : Int), true, h1 ++ bytesL b)) Tr.fail
def e89 (r : Int × Bool × List Int) : FRes := { rs := Slot.tup [AV.one (Leaf.dat (.int .i64) r.fst), AV.one Leaf.nili], upd := [Blk.tb ( 143) r.snd.fst [Leaf.srow ( 2)], Blk.dead], new := [Blk.row ( 5) (Kd.int IntKind.u8) r.snd.snd] }
@[reducible] def a89 : List AK := [AK.c (Leaf.ptr (0 : Nat) (0 : Nat)), AK.d Kd.str]
@[reducible] def b89 : List BK := [BK.tb (143 : TypeId) [SK.c (Leaf.srow (1 : Nat))], BK.row (5 : TypeId) (Kd.int IntKind.u8)]
theorem t89 (b : ByteArray) (h0_u : Bool) (h1 : List Int) : evFn (Env.loops (Env.withFns E0 [((144 : Nat), w144)]) live89 fun (x : Nat) (x_1 : VS) => none) Tryd.f89 [PM.data (.int .i64), PM.raw] (akAV a89 (b, ())) (bkBs b89 ((h0_u, ()), h1, ())) = (d89 b h0_u h1).map e89 := by kernel_rfl
def s89 (C : akT a89 → bksT b89 → Bool) (G : akT a89 → bksT b89 → Int × Bool × List Int) : FSpec := aspec a89 b89 e89 (C) (G)
theorem k89 {C : akT a89 → bksT b89 → Bool} {G : akT a89 → bksT b89 → Int × Bool × List Int} (hd : ∀ (b : ByteArray) (h0_u : Bool) (h1 : List Int), C (b, ()) ((h0_u, ()), h1, ()) = true → (d89 b h0_u h1).val = some (G (b, ()) ((h0_u, ()), h1, ()))) (IO : ItOK Tryd.prog (Env.loops (Env.withFns E0 [((144 : Nat), w144)]) live89 fun (x : Nat) (x_1 : VS) => none) := by exact itOK_none rfl) (L : ∀ c, Tryd.f89.body = some c → LsOK (evI 2) ((Env.loops (Env.withFns E0 [((144 : Nat), w144)]) live89 fun (x : Nat) (x_1 : VS) => none).lend 2) c := by exact fun c _ => LsOK_none rfl c) : SpecOK Tryd.prog E0 89 (s89 C G) :=
  aspec_ok (ak := a89) (bl := b89) (e := e89) (c := C) (g := G) (E0 := E0) (E := Env.loops (Env.withFns E0 [((144 : Nat), w144)]) live89 fun (x : Nat) (x_1 : VS) => none) tab (.cons wk144 .nil) rfl rfl hm Tryd.func89 (by kernel_rfl) [PM.data (.int .i64), PM.raw] (fun X Y H => by obtain ⟨b, _⟩ := X; obtain ⟨⟨h0_u, _⟩, ⟨h1, _⟩⟩ := Y; exact val_of (t89 b h0_u h1) (hd b h0_u h1 H)) IO L
def live137 (key : Nat) : Lv :=
  bif Nat.beq key 9996 then { ls := [14] } else
  { ls := [] }
def d137 (b : Int) (h0_u : Bool) (h1 : List Int) : Tr (Bool × List Int) :=
 Tr.ite (decide ((List.length h1 + (1 : Nat)) * (1 : Nat) ≤ (140737488355328 : Nat))) (Tr.ret (true, h1 ++ [b])) Tr.fail
def e137 (r : Bool × List Int) : FRes := { rs := Slot.av (AV.one Leaf.nili), upd := [Blk.tb ( 143) r.fst [Leaf.srow ( 2)], Blk.dead], new := [Blk.row ( 5) (Kd.int IntKind.u8) r.snd] }
@[reducible] def a137 : List AK := [AK.c (Leaf.ptr (0 : Nat) (0 : Nat)), AK.d (Kd.int IntKind.u8)]
@[reducible] def b137 : List BK := [BK.tb (143 : TypeId) [SK.c (Leaf.srow (1 : Nat))], BK.row (5 : TypeId) (Kd.int IntKind.u8)]
theorem t137 (b : Int) (h0_u : Bool) (h1 : List Int) : evFn (Env.loops (Env.withFns E0 [((144 : Nat), w144)]) live137 fun (x : Nat) (x_1 : VS) => none) Tryd.f137 [PM.raw] (akAV a137 (b, ())) (bkBs b137 ((h0_u, ()), h1, ())) = (d137 b h0_u h1).map e137 := by kernel_rfl
def s137 (C : akT a137 → bksT b137 → Bool) (G : akT a137 → bksT b137 → Bool × List Int) : FSpec := aspec a137 b137 e137 (C) (G)
theorem k137 {C : akT a137 → bksT b137 → Bool} {G : akT a137 → bksT b137 → Bool × List Int} (hd : ∀ (b : Int) (h0_u : Bool) (h1 : List Int), C (b, ()) ((h0_u, ()), h1, ()) = true → (d137 b h0_u h1).val = some (G (b, ()) ((h0_u, ()), h1, ()))) (IO : ItOK Tryd.prog (Env.loops (Env.withFns E0 [((144 : Nat), w144)]) live137 fun (x : Nat) (x_1 : VS) => none) := by exact itOK_none rfl) (L : ∀ c, Tryd.f137.body = some c → LsOK (evI 2) ((Env.loops (Env.withFns E0 [((144 : Nat), w144)]) live137 fun (x : Nat) (x_1 : VS) => none).lend 2) c := by exact fun c _ => LsOK_none rfl c) : SpecOK Tryd.prog E0 137 (s137 C G) :=
  aspec_ok (ak := a137) (bl := b137) (e := e137) (c := C) (g := G) (E0 := E0) (E := Env.loops (Env.withFns E0 [((144 : Nat), w144)]) live137 fun (x : Nat) (x_1 : VS) => none) tab (.cons wk144 .nil) rfl rfl hm Tryd.func137 (by kernel_rfl) [PM.raw] (fun X Y H => by obtain ⟨b, _⟩ := X; obtain ⟨⟨h0_u, _⟩, ⟨h1, _⟩⟩ := Y; exact val_of (t137 b h0_u h1) (hd b h0_u h1 H)) IO L
def live91 (key : Nat) : Lv :=
  { ls := [] }
def d91 (h0_u : Bool) (h1 : List Int) : Tr (ByteArray × Bool) :=
 let v1 : Int := ((↑(List.length h1) : Int))
 let v2 : Int := ((↑(List.length h1) : Int))
 Tr.ite (decide (v2 = v1)) (Tr.ret (strOf h1, h0_u)) Tr.fail
def e91 (r : ByteArray × Bool) : FRes := { rs := Slot.av (AV.one (Leaf.dat Kd.str r.fst)), upd := [Blk.tb ( 143) r.snd [Leaf.srow ( 1)], Blk.dead], new := [] }
@[reducible] def a91 : List AK := [AK.c (Leaf.ptr (0 : Nat) (0 : Nat))]
@[reducible] def b91 : List BK := [BK.tb (143 : TypeId) [SK.c (Leaf.srow (1 : Nat))], BK.row (5 : TypeId) (Kd.int IntKind.u8)]
theorem t91 (h0_u : Bool) (h1 : List Int) : evFn (Env.loops (Env.withFns E0 [((144 : Nat), w144)]) live91 fun (x : Nat) (x_1 : VS) => none) Tryd.f91 [PM.data Kd.str] (akAV a91 ()) (bkBs b91 ((h0_u, ()), h1, ())) = (d91 h0_u h1).map e91 := by kernel_rfl
def s91' (G : akT a91 → bksT b91 → ByteArray × Bool) : FSpec := aspec0 a91 b91 e91 (G)
theorem k91' {G : akT a91 → bksT b91 → ByteArray × Bool} (hd : ∀ (h0_u : Bool) (h1 : List Int), (d91 h0_u h1).val = some (G () ((h0_u, ()), h1, ()))) (IO : ItOK Tryd.prog (Env.loops (Env.withFns E0 [((144 : Nat), w144)]) live91 fun (x : Nat) (x_1 : VS) => none) := by exact itOK_none rfl) (L : ∀ c, Tryd.f91.body = some c → LsOK (evI 2) ((Env.loops (Env.withFns E0 [((144 : Nat), w144)]) live91 fun (x : Nat) (x_1 : VS) => none).lend 2) c := by exact fun c _ => LsOK_none rfl c) : SpecOK Tryd.prog E0 91 (s91' G) :=
  aspec0_ok (ak := a91) (bl := b91) (e := e91) (g := G) (E0 := E0) (E := Env.loops (Env.withFns E0 [((144 : Nat), w144)]) live91 fun (x : Nat) (x_1 : VS) => none) tab (.cons wk144 .nil) rfl rfl hm Tryd.func91 (by kernel_rfl) [PM.data Kd.str] (fun X Y => by obtain ⟨⟨h0_u, _⟩, ⟨h1, _⟩⟩ := Y; exact val_of (t91 h0_u h1) (hd h0_u h1)) IO L
abbrev w89 : FSpec := s89 (fun x y => decide (List.length (α := Int) y.2.1 + ByteArray.size x.1 ≤ 140737488355328)) fun x y => ((ByteArray.size x.1 : Int), true, List.append (α := Int) y.2.1 (bytesL x.1))
theorem wk89 : SpecOK Tryd.prog E0 89 w89 := k89 fun b u h H => by
  simp only [d89, Tr.val, H, cond_true]
  rfl
abbrev w137 : FSpec := s137 (fun _ y => decide (List.length (α := Int) y.2.1 + 1 ≤ 140737488355328)) fun x y => (true, List.append (α := Int) y.2.1 [x.1])
theorem wk137 : SpecOK Tryd.prog E0 137 w137 := k137 fun b u h H => by
  have H : h.length + 1 ≤ 140737488355328 := of_decide_eq_true H
  simp only [d137, Tr.val, Nat.mul_one, H, decide_true, cond_true]
  rfl
abbrev w91 : FSpec := s91' fun _ y => (strOf y.2.1, y.1.1)
theorem wk91 : SpecOK Tryd.prog E0 91 w91 := k91' fun u h => by
  simp only [d91, Tr.val, decide_true, cond_true]
end Go.Proofs.YtdlbnlbajnafdaaDoor
end
section
set_option linter.unusedVariables false
set_option linter.unusedSimpArgs false
set_option maxRecDepth 20000
set_option maxHeartbeats 4000000
namespace U
def pre (a b : ByteArray) : Bool := decide (b.size ≤ a.size) && decide (a.extract 0 b.size = b)
end U
open Go Go.Ev
namespace Go.Proofs.YtdlbnlbajnafdaaDoor
open Go.RowKit
def d143 (a : ByteArray) (b : ByteArray) : Tr (Bool) :=
 let v1 : ByteArray := (ByteArray.extract a (0 : Nat) (Int.toNat (↑(ByteArray.size b) : Int)))
 Tr.ite (decide ((↑(ByteArray.size b) : Int) ≤ (↑(ByteArray.size a) : Int))) (Tr.ite (decide ((0 : Int) ≤ (↑(ByteArray.size b) : Int) ∧ (↑(ByteArray.size b) : Int) ≤ (↑(ByteArray.size a) : Int))) (Tr.ret (decide (v1 = b))) Tr.fail) (Tr.ret false)
def e143 (r : Bool) : FRes := { rs := Slot.av (AV.one (Leaf.dat Kd.bool r)), upd := [], new := [] }
@[reducible] def a143 : List AK := [AK.d Kd.str, AK.d Kd.str]
@[reducible] def b143 : List BK := []
theorem t143 (a : ByteArray) (b : ByteArray) : evFn (E0) Tryd.f143 [PM.data Kd.bool] (akAV a143 (a, b, ())) (bkBs b143 ()) = (d143 a b).map e143 := by kernel_rfl
def s143' (G : akT a143 → Bool) : FSpec := aspec0 a143 b143 e143 (fun x _ => G x)
theorem k143' {G : akT a143 → Bool} (hd : ∀ (a : ByteArray) (b : ByteArray), (d143 a b).val = some (G (a, b, ()))) (IO : ItOK Tryd.prog (E0) := by exact itOK_none rfl) (L : ∀ c, Tryd.f143.body = some c → LsOK (evI 2) ((E0).lend 0) c := by exact fun c _ => LsOK_none rfl c) : SpecOK Tryd.prog E0 143 (s143' G) :=
  aspec0_ok (ak := a143) (bl := b143) (e := e143) (g := fun x _ => G x) (E0 := E0) (E := E0) tab .nil rfl rfl hm Tryd.func143 (by kernel_rfl) [PM.data Kd.bool] (fun X Y => by obtain ⟨a, ⟨b, _⟩⟩ := X; exact val_of (t143 a b) (hd a b)) IO L
abbrev w143 : FSpec := s143' fun x => U.pre x.1 x.2.1
theorem wk143 : SpecOK Tryd.prog E0 143 w143 := k143' fun a b => by
  show _ = some (U.pre a b)
  unfold U.pre
  by_cases h : b.size ≤ a.size
  · simp only [d143, Tr.val, h, Int.ofNat_le, Int.natCast_nonneg, Int.toNat_natCast, and_self, decide_true, cond_true, Bool.true_and]
  · simp only [d143, Tr.val, h, Int.ofNat_le, decide_false, cond_false, Bool.false_and]
def d87 (a : ByteArray) (b : ByteArray) : Tr (Bool) :=
 Tr.ret (U.pre a b)
def e87 (r : Bool) : FRes := { rs := Slot.av (AV.one (Leaf.dat Kd.bool r)), upd := [], new := [] }
@[reducible] def a87 : List AK := [AK.d Kd.str, AK.d Kd.str]
@[reducible] def b87 : List BK := []
theorem t87 (a : ByteArray) (b : ByteArray) : evFn (Env.withFns E0 [((143 : Nat), w143)]) Tryd.f87 [PM.data Kd.bool] (akAV a87 (a, b, ())) (bkBs b87 ()) = (d87 a b).map e87 := by kernel_rfl
def s87' (G : akT a87 → Bool) : FSpec := aspec0 a87 b87 e87 (fun x _ => G x)
theorem k87' {G : akT a87 → Bool} (hd : ∀ (a : ByteArray) (b : ByteArray), (d87 a b).val = some (G (a, b, ()))) (IO : ItOK Tryd.prog (Env.withFns E0 [((143 : Nat), w143)]) := by exact itOK_none rfl) (L : ∀ c, Tryd.f87.body = some c → LsOK (evI 2) ((Env.withFns E0 [((143 : Nat), w143)]).lend 0) c := by exact fun c _ => LsOK_none rfl c) : SpecOK Tryd.prog E0 87 (s87' G) :=
  aspec0_ok (ak := a87) (bl := b87) (e := e87) (g := fun x _ => G x) (E0 := E0) (E := Env.withFns E0 [((143 : Nat), w143)]) tab (.cons wk143 .nil) rfl rfl hm Tryd.func87 (by kernel_rfl) [PM.data Kd.bool] (fun X Y => by obtain ⟨a, ⟨b, _⟩⟩ := X; exact val_of (t87 a b) (hd a b)) IO L
abbrev w87 : FSpec := s87' fun x => U.pre x.1 x.2.1
theorem wk87 : SpecOK Tryd.prog E0 87 w87 := k87' fun a b => rfl
end Go.Proofs.YtdlbnlbajnafdaaDoor
end
section
set_option linter.unusedVariables false
set_option linter.unusedSimpArgs false
set_option maxRecDepth 20000
set_option maxHeartbeats 4000000
open Go Go.Ev
namespace U
open Go.Proofs.YtdlbnlbajnafdaaDoor
theorem strOf_app (a b : List Int) : strOf (a ++ b) = strOf a ++ strOf b := by
  apply ByteArray.ext
  simp [strOf]
theorem strOf_bytes (s : ByteArray) : strOf (bytesL s) = s := by
  apply ByteArray.ext
  unfold strOf bytesL
  rw [List.map_map]
  have e : ((fun n : Int => UInt8.ofNat n.toNat) ∘ fun b : UInt8 => (b.toNat : Int)) = id := by
    funext b
    simp
  rw [e, List.map_id]
end U
end
section
set_option linter.unusedVariables false
set_option linter.unusedSimpArgs false
set_option maxRecDepth 20000
set_option maxHeartbeats 4000000
open Go Go.Ev
namespace U
theorem bytesL_len (b : ByteArray) : (bytesL b).length = b.size := by simp [bytesL]
end U
end
section
set_option linter.unusedVariables false
set_option linter.unusedSimpArgs false
set_option maxRecDepth 20000
set_option maxHeartbeats 4000000
open Go Go.Ev
namespace Go.Proofs.YtdlbnlbajnafdaaDoor
open Go.RowKit
def w176 : FSpec := { ps := [.data (.int .i64)], g := fun args bs => match args with
  | [.one (.dat (.int .i64) n)] => match bs with
    | [] => some { c := some (decide (1 ≤ (n : Int) ∧ (n : Int) ≤ 140737488355328)), rs := .av (.one (.room 0)), new := [.row 5 (.int .u8) []] }
    | _ => none
  | _ => none }
theorem wk176 : SpecOK Tryd.prog E0 176 w176 := by
  intro F O args bs r hr
  unfold w176 at hr
  simp only at hr
  split at hr
  · rename_i n
    split at hr
    · cases hr
      intro hc w K A vs H hv
      have hc : 1 ≤ (n : Int) ∧ (n : Int) ≤ 140737488355328 := by
        cases hd : decide (1 ≤ (n : Int) ∧ (n : Int) ≤ 140737488355328) with
        | true => exact of_decide_eq_true hd
        | false => exact absurd (by rw [hd]) hc
      obtain ⟨m, rfl⟩ := Int.eq_ofNat_of_zero_le (a := n) (Int.le_trans (by decide) hc.1)
      have hc : (1 : Int) ≤ (m : Int) ∧ (m : Int) ≤ 140737488355328 := hc
      cases hv with
      | cons h0 h1 =>
        cases h1
        rename_i v
        have h0 : [v] = [Value.int .i64 (m : Int)] := h0
        cases h0
        have hu : Tryd.prog.underlying 96 = some (.slice 5) := by kernel_rfl
        obtain ⟨cs, hrun, hle, hmax⟩ := Lib.run_makeNoZero (P := Tryd.prog) w #[3] 96 5 hu m (by omega)
        have hg : w.grownBy (w.drew.drew.alloc (.cells cs 5)) none := have g := World.grownBy_alloc (w.drew.drew) (.cells cs 5) none; ⟨g.os, g.tape, g.output, g.size, g.block⟩
        have hm : cs.size ≤ maxLen := hmax (by unfold maxLen; omega)
        have hnew : (w.drew.drew.alloc (.cells cs 5)).heap[w.heap.size]? = some (.cells cs 5 (0, 0)) := World.alloc_heap_new w.drew.drew _
        obtain ⟨K', A', H', x, s⟩ := new_row (e := 5) (k := .int .u8) (xs := []) (l := []) (v := .slice (some ⟨w.heap.size, 0, none⟩) 0 cs.size) (key := 0) (w' := w.drew.drew.alloc (.cells cs 5)) H rfl hg
          ⟨rfl, .inr ⟨w.heap.size, cs.size, cs, (0, 0), rfl, by omega, hnew, .inl rfl, by simp, hm, by show cs.size = cs.size * 1; omega, by simp⟩⟩ rfl (by decide)
          (fun g hg => by
            have hg : (if cs.size = 0 then none else some w.heap.size) = some g := hg
            split at hg
            · cases hg
            · cases hg; exact Nat.le_refl _)
        obtain ⟨hh, hhd, _⟩ := s
        obtain ⟨l, _, _, hm2, _⟩ := H'.blk 0 _ (show (Heap.sets (zipN 0 []) [(0, Blk.row 5 (.int .u8) [])]).get 0 = some (Blk.row 5 (.int .u8) []) from rfl)
        have e0 : ¬ cs.size = 0 := by omega
        have em : A'.m 0 = w.heap.size := by
          rw [← hhd] at hm2
          unfold ownB at hm2
          simp only [e0, if_false] at hm2
          rcases hm2 with h | h
          · cases h
          · exact (Option.some.inj h).symm
        refine .inl ⟨.slice (some ⟨w.heap.size, 0, none⟩) m cs.size, w.drew.drew.alloc (.cells cs 5), ?_, K', A', H', x, ?_, rfl⟩
        · rw [run_callFunc_extern Tryd.func176 (by kernel_rfl) (by kernel_rfl) (by kernel_rfl) (e := Extern.BytealgMakeNoZero.makeNoZero #[3] #[96]) (by kernel_rfl)]
          rw [show ([Value.int .i64 (m : Int)].toArray : Array Value) = #[.int .i64 m] from rfl, hrun]
          rfl
        · exact ⟨hh, m, cs.size, by rw [em]; exact hhd.symm, by rw [em], hle, by omega⟩
    · cases hr
  · cases hr
def d145 (b : Int) (h0_u : Bool) : Tr (Bool × List Int) :=
 let v1 : Int := (IntKind.wrap IntKind.i64 ((0 : Int) + b))
 Tr.ite (decide ((1 : Int) ≤ v1 ∧ v1 ≤ (140737488355328 : Int))) (Tr.ret (h0_u, putAt [] (0 : Nat) (List.take (0 : Nat) []))) Tr.fail
def e145 (r : Bool × List Int) : FRes := { rs := Slot.tup [], upd := [Blk.tb ( 143) r.fst [Leaf.srow ( 1)]], new := [Blk.row ( 5) (Kd.int IntKind.u8) r.snd] }
@[reducible] def a145 : List AK := [AK.c (Leaf.ptr (0 : Nat) (0 : Nat)), AK.d (.int .i64)]
@[reducible] def b145 : List BK := bldZ
theorem t145 (b : Int) (h0_u : Bool) : evFn (Env.withFns E0 [((176 : Nat), w176)]) Tryd.f145 [] (akAV a145 (b, ())) (bkBs b145 ((h0_u, ()), ())) = (d145 b h0_u).map e145 := by kernel_rfl
def s145 (C : akT a145 → bksT b145 → Bool) (G : akT a145 → bksT b145 → Bool × List Int) : FSpec := aspec a145 b145 e145 (C) (G)
theorem k145 {C : akT a145 → bksT b145 → Bool} {G : akT a145 → bksT b145 → Bool × List Int} (hd : ∀ (b : Int) (h0_u : Bool), C (b, ()) ((h0_u, ()), ()) = true → (d145 b h0_u).val = some (G (b, ()) ((h0_u, ()), ()))) (IO : ItOK Tryd.prog (Env.withFns E0 [((176 : Nat), w176)]) := by exact itOK_none rfl) (L : ∀ c, Tryd.f145.body = some c → LsOK (evI 2) ((Env.withFns E0 [((176 : Nat), w176)]).lend 1) c := by exact fun c _ => LsOK_none rfl c) : SpecOK Tryd.prog E0 145 (s145 C G) :=
  aspec_ok (ak := a145) (bl := b145) (e := e145) (c := C) (g := G) (E0 := E0) (E := Env.withFns E0 [((176 : Nat), w176)]) tab (.cons wk176 .nil) rfl rfl hm Tryd.func145 (by kernel_rfl) [] (fun X Y H => by obtain ⟨b, _⟩ := X; obtain ⟨⟨h0_u, _⟩, _⟩ := Y; exact val_of (t145 b h0_u) (hd b h0_u H)) IO L
abbrev w145 : FSpec := s145 (fun x _ => decide (1 ≤ (x.1 : Int) ∧ (x.1 : Int) ≤ 140737488355328)) fun _ y => (y.1.1, [])
theorem wk145 : SpecOK Tryd.prog E0 145 w145 := k145 fun n u H => by
  have H : 1 ≤ (n : Int) ∧ (n : Int) ≤ 140737488355328 := of_decide_eq_true H
  have e : IntKind.i64.wrap (0 + n) = n := by rw [Go.Ev.w64 (by omega) (by omega)]; omega
  simp only [d145, Tr.val, e, H.1, H.2, and_self, decide_true, cond_true]
  rfl
def d88 (b : Int) (h0_u : Bool) : Tr (Bool × List Int ⊕ Bool) :=
 Tr.ite (decide (b < (0 : Int))) Tr.fail (Tr.ite (decide ((0 : Int) < b)) (Tr.ite (decide ((1 : Int) ≤ b ∧ b ≤ (140737488355328 : Int))) (Tr.ret (Sum.inl (true, []))) Tr.fail) (Tr.ret (Sum.inr true)))
def e88 : Bool × List Int ⊕ Bool → FRes
  | (.inl r) => { rs := Slot.tup [], upd := [Blk.tb ( 143) r.fst [Leaf.srow ( 1)]], new := [Blk.row ( 5) (Kd.int IntKind.u8) r.snd] }
  | (.inr r) => { rs := Slot.tup [], upd := [Blk.tb ( 143) r [Leaf.nils]], new := [] }
@[reducible] def a88 : List AK := [AK.c (Leaf.ptr (0 : Nat) (0 : Nat)), AK.d (.int .i64)]
@[reducible] def b88 : List BK := bldZ
theorem t88 (b : Int) (h0_u : Bool) : evFn (Env.withFns E0 [((144 : Nat), Z.w144), ((145 : Nat), w145)]) Tryd.f88 [] (akAV a88 (b, ())) (bkBs b88 ((h0_u, ()), ())) = (d88 b h0_u).map e88 := by kernel_rfl
def s88 (C : akT a88 → bksT b88 → Bool) (G : akT a88 → bksT b88 → Bool × List Int ⊕ Bool) : FSpec := aspec a88 b88 e88 (C) (G)
theorem k88 {C : akT a88 → bksT b88 → Bool} {G : akT a88 → bksT b88 → Bool × List Int ⊕ Bool} (hd : ∀ (b : Int) (h0_u : Bool), C (b, ()) ((h0_u, ()), ()) = true → (d88 b h0_u).val = some (G (b, ()) ((h0_u, ()), ()))) (IO : ItOK Tryd.prog (Env.withFns E0 [((144 : Nat), Z.w144), ((145 : Nat), w145)]) := by exact itOK_none rfl) (L : ∀ c, Tryd.f88.body = some c → LsOK (evI 2) ((Env.withFns E0 [((144 : Nat), Z.w144), ((145 : Nat), w145)]).lend 1) c := by exact fun c _ => LsOK_none rfl c) : SpecOK Tryd.prog E0 88 (s88 C G) :=
  aspec_ok (ak := a88) (bl := b88) (e := e88) (c := C) (g := G) (E0 := E0) (E := Env.withFns E0 [((144 : Nat), Z.w144), ((145 : Nat), w145)]) tab (.cons Z.wk144 (.cons wk145 .nil)) rfl rfl hm Tryd.func88 (by kernel_rfl) [] (fun X Y H => by obtain ⟨b, _⟩ := X; obtain ⟨⟨h0_u, _⟩, _⟩ := Y; exact val_of (t88 b h0_u) (hd b h0_u H)) IO L
abbrev w88 : FSpec := s88 (fun x _ => decide (1 ≤ (x.1 : Int) ∧ (x.1 : Int) ≤ 140737488355328)) fun _ _ => .inl (true, [])
theorem wk88 : SpecOK Tryd.prog E0 88 w88 := k88 fun n u H => by
  have H : 1 ≤ (n : Int) ∧ (n : Int) ≤ 140737488355328 := of_decide_eq_true H
  have h1 : ¬ n < 0 := by omega
  have h2 : 0 < n := by omega
  simp only [d88, Tr.val, h1, h2, H.1, H.2, and_self, decide_true, decide_false, cond_true, cond_false]
def live77 (key : Nat) : Lv :=
  bif Nat.beq key 22 then { ls := [1, 8, 63, 64, 65] } else bif Nat.beq key 1022 then { ls := [8] } else
  bif Nat.beq key 12 then { ls := [0, 1, 5, 39, 40, 41] } else bif Nat.beq key 1012 then { ls := [0, 1, 5] } else
  bif Nat.beq key 9997 then { ls := [143] } else
  { ls := [] }
abbrev G77 : List (Nat × FSpec) := [(88, w88), (89, w89), (91, w91)]
theorem AG77 : AllFn Tryd.prog E0 G77 := .cons wk88 (.cons wk89 (.cons wk91 .nil))
abbrev M77 (ls : Nat → VS → Option (Tr (Ex × VS))) : Env := (E0.withFns G77).loops live77 ls
@[reducible] def p77_0 : LP := { n := 75, sl := [.d (Kd.sl Kd.str), .d (Kd.str), .d (.int .i64), .d (Kd.sl Kd.str), .d (.int .i64), .d (.int .i64)], bl := [] }
def B77_0 (x0 : List ByteArray) (x1 : ByteArray) (x2 : Int) (x3 : List ByteArray) (x4 : Int) (x5 : Int) : Tr (p77_0.T ⊕ (List ByteArray × ByteArray × Int)) :=
 let v1 : Int := ((↑(ByteArray.size (rget Kd.str x3 x5)) : Int))
 let v2 : Int := (IntKind.wrap IntKind.i64 ((9223372036854775807 : Int) - x2))
 Tr.ite (decide (x5 < x4)) (Tr.ite (inB x5 (List.length x3)) (Tr.ite (decide (v2 < v1)) Tr.fail (Tr.ret (Sum.inl ((x0, x1, IntKind.wrap IntKind.i64 (x2 + v1), x3, x4, IntKind.wrap IntKind.i64 (x5 + (1 : Int)), ()), ())))) Tr.fail) (Tr.ret (Sum.inr (x0, x1, x2)))
def X77_0 (r : (List ByteArray × ByteArray × Int)) : Ex × VS := Prod.mk (Ex.exit ( 1)) { n := 75, v := [Slot.av (AV.one (Leaf.dat (Kd.sl Kd.str) r.fst)), Slot.av (AV.one (Leaf.dat Kd.str r.snd.fst)), Slot.av (AV.one (Leaf.dat (.int .i64) r.snd.snd))], h := [] }
def b77_0 : p77_0.T → Tr (p77_0.T ⊕ (List ByteArray × ByteArray × Int)) := fun ⟨⟨x0, ⟨x1, ⟨x2, ⟨x3, ⟨x4, ⟨x5, _⟩⟩⟩⟩⟩⟩, _⟩ => B77_0 x0 x1 x2 x3 x4 x5
theorem h77_0 (ls : Nat → VS → Option (Tr (Ex × VS))) (x : p77_0.T) : (evC (evI 2) (lc Tryd.f77 0) (Env.lend (M77 ls) 0) (unV (live77 12) (p77_0.V x))).map (decL 0 (live77 12) (live77 1012)) = (b77_0 x).map (encR p77_0.V X77_0) := by
  obtain ⟨⟨x0, ⟨x1, ⟨x2, ⟨x3, ⟨x4, ⟨x5, _⟩⟩⟩⟩⟩⟩, _⟩ := x; kernel_rfl
theorem c77_0 (x : p77_0.T) : canV 0 (live77 12) (unV (live77 12) (p77_0.V x)) = p77_0.V x := by
  obtain ⟨⟨x0, ⟨x1, ⟨x2, ⟨x3, ⟨x4, ⟨x5, _⟩⟩⟩⟩⟩⟩, _⟩ := x; kernel_rfl
theorem l77_0 {T : p77_0.T → Tr (List ByteArray × ByteArray × Int)} {ls : Nat → VS → Option (Tr (Ex × VS))} (hls : ∀ x, (Env.lend (M77 ls) 0).ls 12 x = p77_0.ls (fun a => (T a).map X77_0) x) (hS : ∀ x r, (T x).val = some r → Rounds b77_0 x r) : LoopOK (evI 2) (Env.lend (M77 ls) 0) (lc Tryd.f77 0) :=
  loopA 12 (live77 12) (live77 1012) p77_0 b77_0 X77_0 T (by kernel_rfl) rfl rfl hls (h77_0 ls) c77_0 hS
end Go.Proofs.YtdlbnlbajnafdaaDoor
namespace U
def sumS (l : List ByteArray) : Nat := (l.map ByteArray.size).sum
def joinI (sep : ByteArray) : List ByteArray → List Int
  | [] => []
  | x :: r => bytesL x ++ r.flatMap fun y => bytesL sep ++ bytesL y
end U
namespace Go.Proofs.YtdlbnlbajnafdaaDoor
def T77_0 (x : p77_0.T) : Tr (List ByteArray × ByteArray × Int) :=
  match x with
  | ⟨⟨x0, x1, n, l, m, i, _⟩, _⟩ => .ite (decide (0 ≤ (n : Int) ∧ (m : Int) = (List.length (α := ByteArray) l : Int) ∧ (i : Int) = 0 ∧ List.length (α := ByteArray) l ≤ 1048576 ∧ (n : Int) + (U.sumS l : Int) ≤ 140737488355328)) (.ret (x0, x1, n + (U.sumS l : Int))) .fail
abbrev N77 (ls : Nat → VS → Option (Tr (Ex × VS))) : Env := M77 fun key x => bif Nat.beq key 12 then p77_0.ls (fun a => (T77_0 a).map X77_0) x else ls key x
theorem R77_0 (x0 l : List ByteArray) (x1 : ByteArray) (hl : l.length ≤ 1048576) : ∀ (k i n : Nat), i + k = l.length → n + U.sumS (l.drop i) ≤ 140737488355328 →
    Rounds b77_0 ((x0, x1, (n : Int), l, (l.length : Int), (i : Int), ()), ()) (x0, x1, ((n + U.sumS (l.drop i) : Nat) : Int))
  | 0, i, n, e, _ => by
    have e : i = l.length := by omega
    subst e
    rw [List.drop_length]
    refine .exit ?_
    simp [b77_0, B77_0, Tr.val, U.sumS]
  | k + 1, i, n, e, hb => by
    have hi : i < l.length := by omega
    have e1 : rget .str l (i : Int) = l[i] := by rw [rget_nat]; exact getD_el hi
    have hs : U.sumS (l.drop i) = l[i].size + U.sumS (l.drop (i + 1)) := by rw [List.drop_eq_getElem_cons hi]; rfl
    rw [hs] at hb ⊢
    have c1 : decide ((i : Int) < (l.length : Int)) = true := decide_eq_true (by omega)
    have e2 : IntKind.i64.wrap ((9223372036854775807 : Int) - (n : Int)) = 9223372036854775807 - (n : Int) := Go.Ev.w64 (by omega) (by omega)
    have c2 : decide ((9223372036854775807 : Int) - (n : Int) < (l[i].size : Int)) = false := decide_eq_false (by omega)
    have e3 : IntKind.i64.wrap ((n : Int) + (l[i].size : Int)) = ((n + l[i].size : Nat) : Int) := by rw [Go.Ev.w64 (by omega) (by omega)]; omega
    have ih := R77_0 x0 l x1 hl k (i + 1) (n + l[i].size) (by omega) (by omega)
    rw [Nat.add_assoc] at ih
    refine .step ?_ ih
    simp only [b77_0, B77_0, Tr.val, e1, e2, e3, c1, c2, inB_nat hi, cond_true, cond_false, wrap64_nat (show i ≤ 1048576 by omega)]
theorem L77_0 {ls : Nat → VS → Option (Tr (Ex × VS))} : LoopOK (evI 2) ((N77 ls).lend 0) (lc Tryd.f77 0) := by
  refine l77_0 (T := T77_0) (fun x => rfl) ?_
  rintro ⟨⟨x0, x1, n, l, m, i, z⟩, z1⟩ r hh
  obtain ⟨g1, g2⟩ := pre_val hh
  have g1 : 0 ≤ (n : Int) ∧ (m : Int) = (l.length : Int) ∧ (i : Int) = 0 ∧ l.length ≤ 1048576 ∧ (n : Int) + (U.sumS l : Int) ≤ 140737488355328 := of_decide_eq_true g1
  obtain ⟨h1, rfl, rfl, h2, h3⟩ := g1
  obtain ⟨q, rfl⟩ := Int.eq_ofNat_of_zero_le h1
  cases g2
  have h3 : (q : Int) + (U.sumS l : Int) ≤ 140737488355328 := h3
  have := R77_0 x0 l x1 h2 l.length 0 q (by omega) (by rw [List.drop_zero]; omega)
  rw [List.drop_zero] at this
  exact this
@[reducible] def p77_1 : LP := { n := 75, sl := [.d (Kd.str), .c (Leaf.ptr ( 0) ( 0)), .d (Kd.sl Kd.str), .d (.int .i64), .d (.int .i64)], bl := [(0, .tb 143 [.c (Leaf.srow ( 1))]), (1, .row 5 (Kd.int IntKind.u8))] }
def B77_1 (x0 : ByteArray) (x2 : List ByteArray) (x3 : Int) (x4 : Int) (h0_u : Bool) (h1 : List Int) : Tr (p77_1.T ⊕ (Bool × List Int)) :=
 Tr.ite (decide (x4 < x3)) (Tr.ite (inB x4 (List.length x2)) (Tr.ite (decide (List.length h1 + ByteArray.size x0 ≤ (140737488355328 : Nat))) (Tr.ite (decide (List.length (List.append h1 (bytesL x0)) + ByteArray.size (rget Kd.str x2 x4) ≤ (140737488355328 : Nat))) (Tr.ret (Sum.inl ((x0, x2, x3, IntKind.wrap IntKind.i64 (x4 + (1 : Int)), ()), (true, ()), List.append (List.append h1 (bytesL x0)) (bytesL (rget Kd.str x2 x4)), ()))) Tr.fail) Tr.fail) Tr.fail) (Tr.ret (Sum.inr (h0_u, h1)))
def X77_1 (r : (Bool × List Int)) : Ex × VS := Prod.mk (Ex.exit ( 3)) { n := 75, v := [Slot.av (AV.one (Leaf.ptr ( 0) ( 0)))], h := [( 0, Blk.tb ( 143) r.fst [Leaf.srow ( 1)]), ( 1, Blk.row ( 5) (Kd.int IntKind.u8) r.snd)] }
def b77_1 : p77_1.T → Tr (p77_1.T ⊕ (Bool × List Int)) := fun ⟨⟨x0, ⟨x2, ⟨x3, ⟨x4, _⟩⟩⟩⟩, ⟨⟨h0_u, _⟩, ⟨h1, _⟩⟩⟩ => B77_1 x0 x2 x3 x4 h0_u h1
theorem h77_1 (ls : Nat → VS → Option (Tr (Ex × VS))) (x : p77_1.T) : (evC (evI 2) (lc Tryd.f77 1) (Env.lend (N77 ls) 0) (unV (live77 22) (p77_1.V x))).map (decL 0 (live77 22) (live77 1022)) = (b77_1 x).map (encR p77_1.V X77_1) := by
  obtain ⟨⟨x0, ⟨x2, ⟨x3, ⟨x4, _⟩⟩⟩⟩, ⟨⟨h0_u, _⟩, ⟨h1, _⟩⟩⟩ := x; kernel_rfl
theorem c77_1 (x : p77_1.T) : canV 0 (live77 22) (unV (live77 22) (p77_1.V x)) = p77_1.V x := by
  obtain ⟨⟨x0, ⟨x2, ⟨x3, ⟨x4, _⟩⟩⟩⟩, ⟨⟨h0_u, _⟩, ⟨h1, _⟩⟩⟩ := x; kernel_rfl
theorem l77_1 {T : p77_1.T → Tr (Bool × List Int)} {ls : Nat → VS → Option (Tr (Ex × VS))} (hls : ∀ x, (Env.lend (N77 ls) 0).ls 22 x = p77_1.ls (fun a => (T a).map X77_1) x) (hS : ∀ x r, (T x).val = some r → Rounds b77_1 x r) : LoopOK (evI 2) (Env.lend (N77 ls) 0) (lc Tryd.f77 1) :=
  loopA 22 (live77 22) (live77 1022) p77_1 b77_1 X77_1 T (by kernel_rfl) rfl rfl hls (h77_1 ls) c77_1 hS
theorem sumS_cons (y : ByteArray) (l : List ByteArray) : U.sumS (y :: l) = y.size + U.sumS l := rfl
def T77_1 (x : p77_1.T) : Tr (Bool × List Int) :=
  match x with
  | ⟨⟨sep, l, n, i, _⟩, ⟨u, _⟩, bs, _⟩ => .ite (decide ((n : Int) = (List.length (α := ByteArray) l : Int) ∧ (i : Int) = 0 ∧ List.length (α := ByteArray) l ≤ 1048576 ∧ List.length (α := Int) bs + (U.sumS l + List.length (α := ByteArray) l * ByteArray.size sep) ≤ 140737488355328))
      (.ret ((u || !decide (List.length (α := ByteArray) l = 0)), List.append (α := Int) bs (List.flatMap (fun y => bytesL sep ++ bytesL y) l))) .fail
abbrev E77 : Env := N77 fun key x => bif Nat.beq key 22 then p77_1.ls (fun a => (T77_1 a).map X77_1) x else none
theorem R77_1 (l : List ByteArray) (sep : ByteArray) (hl : l.length ≤ 1048576) : ∀ (k i : Nat) (u : Bool) (bs : List Int), i + k = l.length → bs.length + (U.sumS (l.drop i) + k * sep.size) ≤ 140737488355328 →
    Rounds b77_1 ((sep, l, (l.length : Int), (i : Int), ()), (u, ()), bs, ()) ((u || !decide (k = 0)), bs ++ (l.drop i).flatMap fun y => bytesL sep ++ bytesL y)
  | 0, i, u, bs, e, _ => by
    have e : i = l.length := by omega
    subst e
    rw [List.drop_length]
    refine .exit ?_
    have c : decide ((l.length : Int) < (l.length : Int)) = false := decide_eq_false (by omega)
    simp only [b77_1, B77_1, Tr.val, c, cond_false]
    simp
  | k + 1, i, u, bs, e, hb => by
    have hi : i < l.length := by omega
    have e1 : rget .str l (i : Int) = l[i] := by rw [rget_nat]; exact getD_el hi
    rw [List.drop_eq_getElem_cons hi] at hb ⊢
    rw [sumS_cons] at hb
    rw [Nat.add_mul] at hb
    have c1 : decide ((i : Int) < (l.length : Int)) = true := decide_eq_true (by omega)
    have e2 : (List.append bs (bytesL sep)).length = bs.length + sep.size := by rw [← U.bytesL_len sep]; exact List.length_append
    have c2 : decide (bs.length + sep.size ≤ 140737488355328) = true := decide_eq_true (by omega)
    have c3 : decide (bs.length + sep.size + l[i].size ≤ 140737488355328) = true := decide_eq_true (by omega)
    have ih := R77_1 l sep hl k (i + 1) true (bs ++ (bytesL sep ++ bytesL l[i])) (by omega) (by rw [List.length_append, List.length_append, U.bytesL_len, U.bytesL_len]; omega)
    rw [List.append_assoc, ← List.flatMap_cons (f := fun y => bytesL sep ++ bytesL y), Bool.true_or] at ih
    rw [show (u || !decide (k + 1 = 0)) = true by simp]
    refine .step ?_ ih
    simp only [b77_1, B77_1, Tr.val, e1, e2, c1, c2, c3, inB_nat hi, cond_true, wrap64_nat (show i ≤ 1048576 by omega)]
    rw [← List.append_assoc bs]
    rfl
theorem L77_1 : LoopOK (evI 2) (E77.lend 0) (lc Tryd.f77 1) := by
  refine l77_1 (T := T77_1) (fun x => rfl) ?_
  rintro ⟨⟨sep, l, n, i, z⟩, ⟨u, z1⟩, bs, z2⟩ r hh
  obtain ⟨g1, g2⟩ := pre_val hh
  have g1 : (n : Int) = (l.length : Int) ∧ (i : Int) = 0 ∧ l.length ≤ 1048576 ∧ bs.length + (U.sumS l + l.length * sep.size) ≤ 140737488355328 := of_decide_eq_true g1
  obtain ⟨rfl, rfl, h2, h3⟩ := g1
  cases g2
  have := R77_1 l sep h2 l.length 0 u bs (by omega) (by rw [List.drop_zero]; exact h3)
  rw [List.drop_zero] at this
  exact this
def d77 (a : List ByteArray) (b : ByteArray) : Tr (ByteArray) :=
 let v1 : Int := ((↑(List.length a) : Int))
 let v2 : Int := ((↑(List.length a) : Int))
 let v3 : Bool := (inB (0 : Int) (List.length a))
 let v4 : List ByteArray := (sub a (1 : Nat) (List.length a))
 let v5 : List Int := (List.append [] (bytesL (rget Kd.str a (0 : Int))))
 let v6 : Int := ((↑(List.length v4) : Int))
 let v7 : Int := ((↑(List.length v4) : Int))
 let v8 : Int := (IntKind.wrap IntKind.i64 (v2 - (1 : Int)))
 let v9 : Int := (IntKind.wrap IntKind.i64 (Int.tdiv (9223372036854775807 : Int) v8))
 let v10 : Int := (IntKind.wrap IntKind.i64 ((0 : Int) + IntKind.wrap IntKind.i64 ((↑(ByteArray.size b) : Int) * v8)))
 Tr.ite (decide (v2 = (0 : Int))) (Tr.ret { data := #[] }) (Tr.ite (decide (v2 = (1 : Int))) (Tr.ite v3 (Tr.ret (rget Kd.str a (0 : Int))) Tr.fail) (Tr.ite (decide ((0 : Int) < (↑(ByteArray.size b) : Int))) (Tr.ite (!decide (v8 = (0 : Int))) (Tr.ite (decide (v9 ≤ (↑(ByteArray.size b) : Int))) Tr.fail (Tr.ite (decide ((0 : Int) ≤ v10 ∧ v2 = v1 ∧ (0 : Int) = (0 : Int) ∧ List.length a ≤ (1048576 : Nat) ∧ v10 + (↑(U.sumS a) : Int) ≤ (140737488355328 : Int))) (Tr.ite (decide ((1 : Int) ≤ v10 + (↑(U.sumS a) : Int) ∧ v10 + (↑(U.sumS a) : Int) ≤ (140737488355328 : Int))) (Tr.ite v3 (Tr.ite (decide ((0 : Nat) + ByteArray.size (rget Kd.str a (0 : Int)) ≤ (140737488355328 : Nat))) (Tr.ite (decide ((0 : Int) ≤ (1 : Int) ∧ (1 : Int) ≤ v2)) (Tr.ite (decide (v7 = v6 ∧ (0 : Int) = (0 : Int) ∧ List.length v4 ≤ (1048576 : Nat) ∧ List.length v5 + (U.sumS v4 + List.length v4 * ByteArray.size b) ≤ (140737488355328 : Nat))) (Tr.ret (strOf (List.append v5 (List.flatMap (fun (y : ByteArray) => bytesL b ++ bytesL y) v4)))) Tr.fail) Tr.fail) Tr.fail) Tr.fail) Tr.fail) Tr.fail)) Tr.fail) (Tr.ite (decide ((0 : Int) ≤ (0 : Int) ∧ v2 = v1 ∧ (0 : Int) = (0 : Int) ∧ List.length a ≤ (1048576 : Nat) ∧ (0 : Int) + (↑(U.sumS a) : Int) ≤ (140737488355328 : Int))) (Tr.ite (decide ((1 : Int) ≤ (0 : Int) + (↑(U.sumS a) : Int) ∧ (0 : Int) + (↑(U.sumS a) : Int) ≤ (140737488355328 : Int))) (Tr.ite v3 (Tr.ite (decide ((0 : Nat) + ByteArray.size (rget Kd.str a (0 : Int)) ≤ (140737488355328 : Nat))) (Tr.ite (decide ((0 : Int) ≤ (1 : Int) ∧ (1 : Int) ≤ v2)) (Tr.ite (decide (v7 = v6 ∧ (0 : Int) = (0 : Int) ∧ List.length v4 ≤ (1048576 : Nat) ∧ List.length v5 + (U.sumS v4 + List.length v4 * ByteArray.size b) ≤ (140737488355328 : Nat))) (Tr.ret (strOf (List.append v5 (List.flatMap (fun (y : ByteArray) => bytesL b ++ bytesL y) v4)))) Tr.fail) Tr.fail) Tr.fail) Tr.fail) Tr.fail) Tr.fail)))
def e77 (r : ByteArray) : FRes := { rs := Slot.av (AV.one (Leaf.dat Kd.str r)), upd := [], new := [] }
@[reducible] def a77 : List AK := [AK.d (Kd.sl Kd.str), AK.d Kd.str]
@[reducible] def b77 : List BK := []
theorem t77 (a : List ByteArray) (b : ByteArray) : evFn (E77) Tryd.f77 [PM.data Kd.str] (akAV a77 (a, b, ())) (bkBs b77 ()) = (d77 a b).map e77 := by kernel_rfl
def s77 (C : akT a77 → Bool) (G : akT a77 → ByteArray) : FSpec := aspec a77 b77 e77 (fun x _ => C x) (fun x _ => G x)
theorem k77 {C : akT a77 → Bool} {G : akT a77 → ByteArray} (hd : ∀ (a : List ByteArray) (b : ByteArray), C (a, b, ()) = true → (d77 a b).val = some (G (a, b, ()))) (IO : ItOK Tryd.prog (E77) := by exact itOK_none rfl) (L : ∀ c, Tryd.f77.body = some c → LsOK (evI 2) ((E77).lend 0) c := by exact fun c _ => LsOK_none rfl c) : SpecOK Tryd.prog E0 77 (s77 C G) :=
  aspec_ok (ak := a77) (bl := b77) (e := e77) (c := fun x _ => C x) (g := fun x _ => G x) (E0 := E0) (E := E77) tab AG77 rfl rfl hm Tryd.func77 (by kernel_rfl) [PM.data Kd.str] (fun X Y H => by obtain ⟨a, ⟨b, _⟩⟩ := X; exact val_of (t77 a b) (hd a b H)) IO L
abbrev w77 : FSpec := s77 (fun x => decide (1 ≤ ByteArray.size x.2.1 ∧ ByteArray.size x.2.1 ≤ 1048576 ∧ List.length (α := ByteArray) x.1 ≤ 1048576 ∧ U.sumS x.1 + List.length (α := ByteArray) x.1 * ByteArray.size x.2.1 ≤ 140737488355328)) fun x => strOf (U.joinI x.2.1 x.1)
theorem wk77 : SpecOK Tryd.prog E0 77 w77 := by
  refine k77 (fun l sep H => ?_) (L := ls_ok (lcs := [lc Tryd.f77 0, lc Tryd.f77 1]) (rgs := []) (by kernel_rfl) (by kernel_rfl) ⟨L77_0, L77_1⟩ trivial)
  have H : 1 ≤ sep.size ∧ sep.size ≤ 1048576 ∧ l.length ≤ 1048576 ∧ U.sumS l + l.length * sep.size ≤ 140737488355328 := of_decide_eq_true H
  obtain ⟨h1, h2, h3, h4⟩ := H
  show _ = some (strOf (U.joinI sep l))
  match l, h3, h4 with
  | [], _, _ => rfl
  | [x], _, _ =>
    show some x = some (strOf (bytesL x ++ []))
    rw [List.append_nil, U.strOf_bytes]
  | x :: y :: r, h3, h4 =>
    generalize hl : y :: r = r' at *
    have hr : 1 ≤ r'.length := by rw [← hl]; simp
    rw [List.length_cons] at h3
    rw [sumS_cons, List.length_cons, Nat.add_mul, Nat.one_mul] at h4
    have k0 : ((x :: r').length : Int) = ((r'.length + 1 : Nat) : Int) := rfl
    have k1 : IntKind.i64.wrap (((r'.length + 1 : Nat) : Int) - 1) = ((r'.length : Nat) : Int) := by rw [Go.Ev.w64 (by omega) (by omega)]; omega
    have k2 : decide (((r'.length + 1 : Nat) : Int) = 0) = false := decide_eq_false (by omega)
    have k3 : decide (((r'.length + 1 : Nat) : Int) = 1) = false := decide_eq_false (by omega)
    have k4 : decide ((0 : Int) < (sep.size : Int)) = true := decide_eq_true (by omega)
    have k5 : decide (((r'.length : Nat) : Int) = 0) = false := decide_eq_false (by omega)
    have q0 : Int.tdiv 9223372036854775807 ((r'.length : Nat) : Int) = 9223372036854775807 / ((r'.length : Nat) : Int) := Int.tdiv_eq_ediv_of_nonneg (by decide)
    have q1 : 1048577 ≤ (9223372036854775807 : Int) / ((r'.length : Nat) : Int) := Int.le_ediv_of_mul_le (by omega) (by omega)
    have q2 : (9223372036854775807 : Int) / ((r'.length : Nat) : Int) ≤ 9223372036854775807 := Int.ediv_le_self _ (by decide)
    have k6 : decide (IntKind.i64.wrap (Int.tdiv 9223372036854775807 ((r'.length : Nat) : Int)) ≤ (sep.size : Int)) = false := by
      rw [q0, Go.Ev.w64 (by omega) q2]
      exact decide_eq_false (by omega)
    have k7 : (sep.size : Int) * ((r'.length : Nat) : Int) = ((r'.length * sep.size : Nat) : Int) := by rw [Nat.mul_comm]; exact (Int.natCast_mul _ _).symm
    generalize hp : r'.length * sep.size = p at *
    have k8 : IntKind.i64.wrap ((0 : Int) + IntKind.i64.wrap ((p : Nat) : Int)) = ((p : Nat) : Int) := by
      rw [Go.Ev.w64 (n := ((p : Nat) : Int)) (by omega) (by omega), Int.zero_add, Go.Ev.w64 (by omega) (by omega)]
    have hp1 : 1 ≤ p := by rw [← hp]; exact Nat.mul_le_mul hr h1
    have e1 : rget .str (x :: r') (0 : Int) = x := rfl
    have e2 : sub (x :: r') 1 (r'.length + 1) = r' := by
      unfold sub
      rw [List.take_of_length_le (by simp)]
      rfl
    have e3 : (List.append ([] : List Int) (bytesL x)).length = x.size := U.bytesL_len x
    have e4 : inB (0 : Int) (r'.length + 1) = true := inB_nat (i := 0) (by omega)
    have c1 : decide ((0 : Int) ≤ ((p : Nat) : Int) ∧ ((r'.length + 1 : Nat) : Int) = ((r'.length + 1 : Nat) : Int) ∧ (0 : Int) = 0 ∧ r'.length + 1 ≤ 1048576 ∧ ((p : Nat) : Int) + ((x.size + U.sumS r' : Nat) : Int) ≤ 140737488355328) = true := decide_eq_true (by omega)
    have c2 : decide ((1 : Int) ≤ ((p : Nat) : Int) + ((x.size + U.sumS r' : Nat) : Int) ∧ ((p : Nat) : Int) + ((x.size + U.sumS r' : Nat) : Int) ≤ 140737488355328) = true := decide_eq_true (by omega)
    have c3 : decide (0 + x.size ≤ 140737488355328) = true := decide_eq_true (by omega)
    have c4 : decide ((0 : Int) ≤ 1 ∧ (1 : Int) ≤ ((r'.length + 1 : Nat) : Int)) = true := decide_eq_true (by omega)
    have c5 : decide (((r'.length : Nat) : Int) = ((r'.length : Nat) : Int) ∧ (0 : Int) = 0 ∧ r'.length ≤ 1048576 ∧ x.size + (U.sumS r' + p) ≤ 140737488355328) = true := decide_eq_true (by omega)
    simp only [d77, Tr.val, List.length_cons, sumS_cons, k1, k2, k3, k4, k5, k6, k7, k8, e1, e2, e3, e4, hp, c1, c2, c3, c4, c5, Bool.not_false, cond_true, cond_false]
    have a1 : (0 : Int) ≤ ((p : Nat) : Int) := by omega
    have a2 : r'.length + 1 ≤ 1048576 := by omega
    have a3 : ((p : Nat) : Int) + ((x.size + U.sumS r' : Nat) : Int) ≤ 140737488355328 := by omega
    have a4 : r'.length ≤ 1048576 := by omega
    have a5 : x.size + (U.sumS r' + p) ≤ 140737488355328 := by omega
    simp only [a1, a2, a3, a4, a5, and_self, decide_true, cond_true]
    rfl
end Go.Proofs.YtdlbnlbajnafdaaDoor
end
section
set_option maxRecDepth 100000
namespace Go.Proofs.YtdlbnlbajnafdaaDoor
open Go.Ev
def laysRen : Go.Shelf.Ren := ⟨fun | 171 => 51 | 243 => 109 | 246 => 160 | 283 => 186 | 284 => 187 | 285 => 188 | 286 => 189 | 129 => 202 | 317 => 201 | 318 => 203 | 319 => 204 | 320 => 205 | 337 => 215 | 338 => 216 | n => n, fun | 3 => 3 | 9 => 9 | 2 => 2 | 4 => 4 | 171 => 228 | 0 => 0 | 53 => 193 | 37 => 96 | 5 => 5 | 173 => 231 | 212 => 241 | 51 => 190 | 20 => 20 | 213 => 242 | 46 => 138 | 232 => 258 | 233 => 259 | n => n, fun | 17 => 5 | 18 => 8 | 19 => 9 | n => n⟩
theorem laysItoa : Go.Proofs.LaysM.n171 Tryd.prog laysRen where
  mixed := by kernel_rfl
  f129 := Tryd.func202.trans (congrArg some (by kernel_rfl))
  f171 := Tryd.func51.trans (congrArg some (by kernel_rfl))
  f243 := Tryd.func109.trans (congrArg some (by kernel_rfl))
  f246 := Tryd.func160.trans (congrArg some (by kernel_rfl))
  f283 := Tryd.func186.trans (congrArg some (by kernel_rfl))
  f284 := Tryd.func187.trans (congrArg some (by kernel_rfl))
  f285 := Tryd.func188.trans (congrArg some (by kernel_rfl))
  f286 := Tryd.func189.trans (congrArg some (by kernel_rfl))
  f317 := Tryd.func201.trans (congrArg some (by kernel_rfl))
  f318 := Tryd.func203.trans (congrArg some (by kernel_rfl))
  f319 := Tryd.func204.trans (congrArg some (by kernel_rfl))
  f320 := Tryd.func205.trans (congrArg some (by kernel_rfl))
  f337 := Tryd.func215.trans (congrArg some (by kernel_rfl))
  f338 := Tryd.func216.trans (congrArg some (by kernel_rfl))
  t0 := Tryd.underlying0
  a0 := Tryd.isAgg0
  z0 := Tryd.sizeOf0
  v0 := Tryd.zeroValue0
  t2 := Tryd.underlying2
  a2 := Tryd.isAgg2
  z2 := Tryd.sizeOf2
  v2 := Tryd.zeroValue2
  t3 := Tryd.underlying3
  a3 := Tryd.isAgg3
  z3 := Tryd.sizeOf3
  v3 := Tryd.zeroValue3
  t4 := Tryd.underlying4
  a4 := Tryd.isAgg4
  z4 := Tryd.sizeOf4
  v4 := Tryd.zeroValue4
  t5 := Tryd.underlying5
  a5 := Tryd.isAgg5
  z5 := Tryd.sizeOf5
  v5 := Tryd.zeroValue5
  t9 := Tryd.underlying9
  a9 := Tryd.isAgg9
  z9 := Tryd.sizeOf9
  v9 := Tryd.zeroValue9
  t20 := Tryd.underlying20
  a20 := Tryd.isAgg20
  z20 := Tryd.sizeOf20
  v20 := Tryd.zeroValue20
  t37 := Tryd.underlying96
  a37 := Tryd.isAgg96
  z37 := Tryd.sizeOf96
  v37 := Tryd.zeroValue96
  t46 := Tryd.underlying138
  a46 := Tryd.isAgg138
  z46 := Tryd.sizeOf138
  v46 := Tryd.zeroValue138
  t51 := Tryd.underlying190
  a51 := Tryd.isAgg190
  z51 := Tryd.sizeOf190
  v51 := Tryd.zeroValue190
  t53 := Tryd.underlying193
  a53 := Tryd.isAgg193
  z53 := Tryd.sizeOf193
  v53 := Tryd.zeroValue193
  t171 := Tryd.underlying228
  a171 := Tryd.isAgg228
  z171 := Tryd.sizeOf228
  v171 := Tryd.zeroValue228
  t173 := Tryd.underlying231
  a173 := Tryd.isAgg231
  z173 := Tryd.sizeOf231
  v173 := Tryd.zeroValue231
  t212 := Tryd.underlying241
  a212 := Tryd.isAgg241
  z212 := Tryd.sizeOf241
  v212 := Tryd.zeroValue241
  t213 := Tryd.underlying242
  a213 := Tryd.isAgg242
  z213 := Tryd.sizeOf242
  t232 := Tryd.underlying258
  a232 := Tryd.isAgg258
  z232 := Tryd.sizeOf258
  v232 := Tryd.zeroValue258
  t233 := Tryd.underlying259
  a233 := Tryd.isAgg259
  z233 := Tryd.sizeOf259
  v233 := Tryd.zeroValue259
  g17 := by kernel_rfl
  g18 := by kernel_rfl
  g19 := by kernel_rfl
  i0 := by kernel_rfl
  i2 := by kernel_rfl
  i3 := by kernel_rfl
  i4 := by kernel_rfl
  i5 := by kernel_rfl
  i9 := by kernel_rfl
  i20 := by kernel_rfl
  i37 := by kernel_rfl
  i46 := by kernel_rfl
  i51 := by kernel_rfl
  i53 := by kernel_rfl
  i171 := by kernel_rfl
  i173 := by kernel_rfl
  i212 := by kernel_rfl
  i232 := by kernel_rfl
  i233 := by kernel_rfl
  m17 := by kernel_rfl
  m18 := by kernel_rfl
  m19 := by kernel_rfl
theorem pow10_eq : Go.Lib.pow10Tab = U.pow10L := by kernel_rfl
theorem wk51 : SpecOK Tryd.prog E0 51 itoaS :=
  itoa_ok (ρ := laysRen) laysItoa (g := 5) (by rw [pow10_eq]; kernel_rfl) (by kernel_rfl) (Go.Proofs.enters_of laysItoa.f171 (by kernel_rfl) rfl) rfl
end Go.Proofs.YtdlbnlbajnafdaaDoor
end
section
set_option linter.unusedVariables false
namespace Go.Ev
open Go.RowKit Go.Sort Go.Shelf Go.Proofs
theorem grown_of_below {w w' : World} (h : Below w.heap.size w w') : w.grownBy w' none := ⟨h.os, h.tape, h.output, h.size, fun k hk _ => h.block k hk⟩
theorem lib_ok {P : Program} {E : Env} {f : FuncId} {ks : List Kd} {g : tup ks → SRes} (he : ∀ args w, (callFunc f args).run P w = .ok (.enter f args) w)
    (hu : ∀ x, (g x).upd = [] ∧ (g x).new = [])
    (h : ∀ (C : Ctx) (w : World) (K : KSet) (A : Asg) (x : tup ks) (vs : List Value), C.E = E → HR C w K A [] → All2 (AVR w K A []) (toAVs ks x) vs → (g x).c ≠ some false →
      Calls P f vs.toArray w fun e w' => ∃ v, e = .returned v ∧ w.grownBy w' none ∧ SlotR w' K A [] (g x).rs v) : SpecOK P E f (dspec ks g) := by
  intro F O args bs r hr hc w K A vs H hv
  unfold dspec at hr
  simp only [] at hr
  split at hr
  · split at hr
    · rename_i x hx
      cases hr
      have hv' := packAll_R H hx hv
      refine .inr ⟨he _ _, callsIn_open O ((h _ w K A x vs rfl H hv' hc).mono fun e w' h => ?_)⟩
      obtain ⟨v, rfl, hg, hs⟩ := h
      obtain ⟨H', X⟩ := H.grows hg
      refine ⟨v, rfl, K, A, ?_, ?_, ?_, ?_⟩
      · rw [(hu x).1, (hu x).2]; exact H'
      · rw [(hu x).1, (hu x).2]; exact X
      · rw [(hu x).1, (hu x).2]; exact hs
      · rw [(hu x).1]
    · cases hr
  · cases hr
theorem str1 {w : World} {K : KSet} {A : Asg} {h : Heap} {s : ByteArray} {vs : List Value} (H : All2 (AVR w K A h) (toAVs [.str] (s, ())) vs) : vs = [.string s] := by
  cases H with
  | cons h1 h2 =>
    cases h2
    rw [show _ = _ from h1]
theorem str2 {w : World} {K : KSet} {A : Asg} {h : Heap} {s t : ByteArray} {vs : List Value} (H : All2 (AVR w K A h) (toAVs [.str, .str] (s, t, ())) vs) : vs = [.string s, .string t] := by
  cases H with
  | cons h1 h2 =>
    cases h2 with
    | cons h3 h4 =>
      cases h4
      have e1 : [_] = [Value.string s] := h1
      have e2 : [_] = [Value.string t] := h3
      cases e1
      cases e2
      rfl
def b0 (s : ByteArray) : UInt8 := s.data.getD 0 0
theorem one_byte {s : ByteArray} (h : s.size = 1) : s = ⟨#[b0 s]⟩ := by
  obtain ⟨⟨l⟩⟩ := s
  have h : l.length = 1 := h
  match l, h with
  | [c], _ => rfl
abbrev containsS : FSpec := dspec [.str, .str] fun x => { c := some (decide (ByteArray.size x.2.1 = 1)), rs := .av (.one (.dat .bool (decide (0 ≤ Lib.indexByte x.1.data.toList (b0 x.2.1))))) }
theorem contains_ok {P : Program} {ρ : Go.Shelf.Ren} (L : Lays.n144 P ρ) {E : Env} {f : FuncId} (he : ∀ args w, (callFunc f args).run P w = .ok (.enter f args) w) (hf : ρ.f 144 = f) : SpecOK P E f containsS := by
  subst hf
  refine lib_ok he (fun x => ⟨rfl, rfl⟩) fun C w K A x vs _ H hv hc => ?_
  obtain ⟨s, t, u⟩ := x
  have h1 : t.size = 1 := by
    by_cases h : t.size = 1
    · exact h
    · exact absurd (by show some (decide (t.size = 1)) = some false; rw [decide_eq_false h]) hc
  rw [str2 hv, one_byte h1]
  refine (Any.strings_Contains_one L s (b0 t) w).mono fun e w' h => ?_
  obtain ⟨rfl, rfl⟩ := h
  exact ⟨_, rfl, grown_refl _, rfl⟩
abbrev trimLeftS : FSpec := dspec [.str, .str] fun x => { c := some (decide (ByteArray.size x.2.1 = 1 ∧ (b0 x.2.1).toNat < 128)), rs := .av (.one (.dat .str ⟨(Lib.trimLeftB x.1.data.toList (b0 x.2.1)).toArray⟩)) }
theorem trimLeft_ok {P : Program} {ρ : Go.Shelf.Ren} (L : Lays.n161 P ρ) {E : Env} {f : FuncId} (he : ∀ args w, (callFunc f args).run P w = .ok (.enter f args) w) (hf : ρ.f 161 = f) : SpecOK P E f trimLeftS := by
  subst hf
  refine lib_ok he (fun x => ⟨rfl, rfl⟩) fun C w K A x vs _ H hv hc => ?_
  obtain ⟨s, t, u⟩ := x
  have h1 : t.size = 1 ∧ (b0 t).toNat < 128 := by
    by_cases h : t.size = 1 ∧ (b0 t).toNat < 128
    · exact h
    · exact absurd (by show some (decide (t.size = 1 ∧ (b0 t).toNat < 128)) = some false; rw [decide_eq_false h]) hc
  rw [str2 hv]
  have := Any.strings_TrimLeft_one L s (b0 t) h1.2 w
  rw [← one_byte h1.1] at this
  refine this.mono fun e w' h => ?_
  obtain ⟨rfl, rfl⟩ := h
  exact ⟨_, rfl, grown_refl _, rfl⟩
abbrev indexS : FSpec := dspec [.str, .str] fun x => { c := some (decide (ByteArray.size x.2.1 = 1)), rs := .av (.one (.dat (.int .i64) (Lib.indexByte x.1.data.toList (b0 x.2.1)))) }
theorem index_ok {P : Program} {ρ : Go.Shelf.Ren} (L : Lays.n219 P ρ) {E : Env} {f : FuncId} (he : ∀ args w, (callFunc f args).run P w = .ok (.enter f args) w) (hf : ρ.f 219 = f) : SpecOK P E f indexS := by
  subst hf
  refine lib_ok he (fun x => ⟨rfl, rfl⟩) fun C w K A x vs _ H hv hc => ?_
  obtain ⟨s, t, u⟩ := x
  have h1 : t.size = 1 := by
    by_cases h : t.size = 1
    · exact h
    · exact absurd (by show some (decide (t.size = 1)) = some false; rw [decide_eq_false h]) hc
  rw [str2 hv]
  have := Any.stringslite_Index_one L s (b0 t) w
  rw [← one_byte h1] at this
  refine this.mono fun e w' h => ?_
  obtain ⟨rfl, rfl⟩ := h
  exact ⟨_, rfl, grown_refl _, rfl⟩
theorem ifc_glob {P : Program} {C : Ctx} {w : World} {K : KSet} {A : Asg} {h : Heap} (H : HR C w K A h) {g : Nat} (hg : C.E.glob g = some (.dat .ifc false)) : ∃ t x, w.cell? ⟨g, 0, none⟩ = some (.iface t x) := by
  obtain ⟨b, off, cs, t, fr, e, hk, hc, hR⟩ := H.glob g _ hg
  cases e
  obtain ⟨v, hv, h1⟩ := hR
  rcases h1 with ⟨h1, _⟩ | ⟨_, u, x, rfl⟩
  · cases h1
  · refine ⟨u, x, ?_⟩
    simp only [World.cell?, hc]
    have h2 : cellsAt cs 0 1 = [.iface u x] := hv
    unfold cellsAt at h2
    rw [List.drop_zero] at h2
    obtain ⟨l⟩ := cs
    cases l with
    | nil => simp at h2
    | cons a l =>
      simp at h2
      simp [h2]
def atoiV (s : ByteArray) : Int × Bool := match Lib.atoiAll s.data.toList with
  | .ok v => (v, true)
  | .range => (Lib.atoiSat s.data.toList, false)
  | _ => (0, false)
abbrev atoiS : FSpec := dspec [.str] fun x => { c := some (decide (ByteArray.size x.1 ≤ 1048576)), rs := .tup [.one (.dat (.int .i64) (atoiV x.1).1), .one (.dat .ifc (atoiV x.1).2)] }
theorem atoi_ok {P : Program} {ρ : Go.Shelf.Ren} (L : LaysC.n172 P ρ) {E : Env} {f : FuncId} (he : ∀ args w, (callFunc f args).run P w = .ok (.enter f args) w) (hf : ρ.f 172 = f)
    (hs : E.glob (ρ.g 15) = some (.dat .ifc false)) (hr : E.glob (ρ.g 16) = some (.dat .ifc false)) : SpecOK P E f atoiS := by
  subst hf
  refine lib_ok he (fun x => ⟨rfl, rfl⟩) fun C w K A x vs hE H hv hc => ?_
  obtain ⟨s, u⟩ := x
  have h1 : s.size ≤ 1048576 := by
    by_cases h : s.size ≤ 1048576
    · exact h
    · exact absurd (by show some (decide (s.size ≤ 1048576)) = some false; rw [decide_eq_false h]) hc
  rw [str1 hv]
  subst hE
  obtain ⟨t1, p1, g1⟩ := ifc_glob (P := P) H hs
  obtain ⟨t2, p2, g2⟩ := ifc_glob (P := P) H hr
  show Calls P (ρ.f 172) #[.string s] w fun e w' => ∃ v, e = .returned v ∧ w.grownBy w' none ∧ SlotR w' K A [] (.tup [.one (.dat (.int .i64) (atoiV s).1), .one (.dat .ifc (atoiV s).2)]) v
  unfold atoiV
  cases ha : Lib.atoiAll s.data.toList
  · rename_i v
    refine (Any.strconv_Atoi_ok L s (by omega) v ha w).mono fun e w' h => ?_
    obtain ⟨rfl, h⟩ := h
    refine ⟨_, rfl, ?_, [.int .i64 v, .nilIface], rfl, .cons rfl (.cons ⟨_, rfl, .inl ⟨rfl, rfl⟩⟩ .nil)⟩
    rcases h with rfl | ⟨t, rfl⟩
    · exact grown_refl _
    · exact ⟨rfl, rfl, rfl, by rw [Lib.bytesWorld_size]; exact Nat.le_succ _, fun k hk _ => Lib.bytesWorld_at_old w _ _ k hk⟩
  · refine (Any.strconv_Atoi_syntax L s (by omega) ha _ w g1 (.inr ⟨t1, p1, rfl⟩)).mono fun e w' h => ?_
    obtain ⟨N, rfl, _, _, h⟩ := h
    exact ⟨_, rfl, grown_of_below h, [_, _], rfl, .cons rfl (.cons ⟨_, rfl, .inr ⟨rfl, _, _, rfl⟩⟩ .nil)⟩
  · refine (Any.strconv_Atoi_range L s (by omega) ha _ w g2 (.inr ⟨t2, p2, rfl⟩)).mono fun e w' h => ?_
    obtain ⟨N, rfl, _, _, h⟩ := h
    exact ⟨_, rfl, grown_of_below h, [_, _], rfl, .cons rfl (.cons ⟨_, rfl, .inr ⟨rfl, _, _, rfl⟩⟩ .nil)⟩
abbrev validS : FSpec := dspec [.str] fun x => { c := some (decide (ByteArray.size x.1 ≤ 9223372036854775807)), rs := .av (.one (.dat .bool (Lib.validD x.1.data.toList))) }
theorem tabs_glob {P : Program} {C : Ctx} {w : World} {K : KSet} {A : Asg} {h : Heap} (H : HR C w K A h) {g1 g2 : Nat} {xs : List Int} {ys : List (Int × Int × Unit)} (h1 : C.E.glob g1 = some (.arr (.int .u8) xs)) (h2 : C.E.glob g2 = some (.arr (.pr (.int .u8) (.pr (.int .u8) .un)) ys))
    (e1 : xs = (List.range 256).map fun i => (Lib.firstT i : Int)) (e2 : ys = (List.range 16).map fun i => ((Lib.accLo i : Int), (Lib.accHi i : Int), ())) : Lib.Utf8Tabs g1 g2 w := by
  constructor
  · intro c hc
    obtain ⟨b, off, cs, t, fr, e, hk, hcc, hR, _⟩ := H.glob g1 _ h1
    cases e
    have hl : c < xs.length := by rw [e1]; simpa using hc
    have h3 : cellsAt cs (0 + c * 1) 1 = [.int .u8 (xs.getD c 0)] := hR c hl
    have e3 : xs.getD c 0 = Lib.firstT c := by rw [e1, List.getD_eq_getElem?_getD, List.getElem?_map, List.getElem?_range hc]; rfl
    rw [e3] at h3
    simp only [World.cell?, hcc]
    unfold cellsAt at h3
    rw [Nat.zero_add, Nat.mul_one] at h3
    have h4 := congrArg (·[0]?) h3
    simp only [List.getElem?_take_of_lt (Nat.zero_lt_one), List.getElem?_drop, Nat.add_zero, List.getElem?_cons_zero] at h4
    simpa using h4
  · intro i hi
    obtain ⟨b, off, cs, t, fr, e, hk, hcc, hR, _⟩ := H.glob g2 _ h2
    cases e
    have hl : i < ys.length := by rw [e2]; simpa using hi
    have h3 := hR i hl
    have e3 : ys.getD i (Kd.dflt (.pr (.int .u8) (.pr (.int .u8) .un))) = ((Lib.accLo i : Int), (Lib.accHi i : Int), ()) := by
      rw [e2, List.getD_eq_getElem?_getD, List.getElem?_map, List.getElem?_range hi]; rfl
    rw [e3] at h3
    obtain ⟨l1, l2, q1, q2, l3, l4, q3, q4, q5⟩ := h3
    have q2 : l1 = [.int .u8 (Lib.accLo i)] := q2
    have q4 : l3 = [.int .u8 (Lib.accHi i)] := q4
    have q5 : l4 = [] := q5
    subst q2; subst q4; subst q5
    rw [q3] at q1
    have q1 : (cs.toList.drop (0 + i * 2)).take 2 = [.int .u8 (Lib.accLo i), .int .u8 (Lib.accHi i)] := q1
    rw [Nat.zero_add] at q1
    have h4 := congrArg (·[0]?) q1
    have h5 := congrArg (·[1]?) q1
    simp only [List.getElem?_take_of_lt (show 0 < 2 by omega), List.getElem?_take_of_lt (show 1 < 2 by omega), List.getElem?_drop, Nat.add_zero] at h4 h5
    simp only [World.cell?, hcc]
    constructor
    · simpa [Nat.mul_comm] using h4
    · simpa [Nat.mul_comm] using h5
theorem valid_ok {P : Program} {ρ : Go.Shelf.Ren} (L : Lays.n196 P ρ) {E : Env} {f : FuncId} (he : ∀ args w, (callFunc f args).run P w = .ok (.enter f args) w) (hf : ρ.f 196 = f)
    {xs : List Int} {ys : List (Int × Int × Unit)} (h1 : E.glob (ρ.g 3) = some (.arr (.int .u8) xs)) (h2 : E.glob (ρ.g 4) = some (.arr (.pr (.int .u8) (.pr (.int .u8) .un)) ys))
    (e1 : xs = (List.range 256).map fun i => (Lib.firstT i : Int)) (e2 : ys = (List.range 16).map fun i => ((Lib.accLo i : Int), (Lib.accHi i : Int), ())) : SpecOK P E f validS := by
  subst hf
  refine lib_ok he (fun x => ⟨rfl, rfl⟩) fun C w K A x vs hE H hv hc => ?_
  obtain ⟨s, u⟩ := x
  have h9 : s.size ≤ 9223372036854775807 := by
    by_cases h : s.size ≤ 9223372036854775807
    · exact h
    · exact absurd (by show some (decide (s.size ≤ 9223372036854775807)) = some false; rw [decide_eq_false h]) hc
  rw [str1 hv]
  subst hE
  refine (Any.utf8_ValidString L s w h9 (tabs_glob (P := P) H h1 h2 e1 e2)).mono fun e w' h => ?_
  obtain ⟨rfl, h⟩ := h
  exact ⟨_, rfl, grown_of_below h, rfl⟩
end Go.Ev
end
section
set_option maxRecDepth 100000
namespace Go.Proofs.YtdlbnlbajnafdaaDoor
open Go.Ev
def laysContains_ren : Go.Shelf.Ren := ⟨fun | 144 => 81 | 143 => 139 | 219 => 161 | 217 => 190 | 225 => 191 | 224 => 192 | 267 => 193 | 266 => 206 | 314 => 207 | n => n, fun | 9 => 9 | 4 => 4 | 3 => 3 | 5 => 5 | 46 => 138 | 146 => 191 | 51 => 190 | n => n, fun | 1 => 4 | n => n⟩
theorem laysContains : Go.Proofs.Lays.n144 Tryd.prog laysContains_ren where
  mixed := by kernel_rfl
  f143 := Tryd.func139.trans (congrArg some (by kernel_rfl))
  f144 := Tryd.func81.trans (congrArg some (by kernel_rfl))
  f217 := Tryd.func190.trans (congrArg some (by kernel_rfl))
  f219 := Tryd.func161.trans (congrArg some (by kernel_rfl))
  f224 := Tryd.func192.trans (congrArg some (by kernel_rfl))
  f225 := Tryd.func191.trans (congrArg some (by kernel_rfl))
  f266 := Tryd.func206.trans (congrArg some (by kernel_rfl))
  f267 := Tryd.func193.trans (congrArg some (by kernel_rfl))
  f314 := Tryd.func207.trans (congrArg some (by kernel_rfl))
  t3 := Tryd.underlying3
  a3 := Tryd.isAgg3
  z3 := Tryd.sizeOf3
  v3 := Tryd.zeroValue3
  t4 := Tryd.underlying4
  a4 := Tryd.isAgg4
  z4 := Tryd.sizeOf4
  v4 := Tryd.zeroValue4
  t5 := Tryd.underlying5
  a5 := Tryd.isAgg5
  z5 := Tryd.sizeOf5
  v5 := Tryd.zeroValue5
  t9 := Tryd.underlying9
  a9 := Tryd.isAgg9
  z9 := Tryd.sizeOf9
  v9 := Tryd.zeroValue9
  t46 := Tryd.underlying138
  a46 := Tryd.isAgg138
  z46 := Tryd.sizeOf138
  v46 := Tryd.zeroValue138
  t51 := Tryd.underlying190
  a51 := Tryd.isAgg190
  z51 := Tryd.sizeOf190
  v51 := Tryd.zeroValue190
  t146 := Tryd.underlying191
  a146 := Tryd.isAgg191
  z146 := Tryd.sizeOf191
  v146 := Tryd.zeroValue191
  g1 := by kernel_rfl
def laysTrimLeft_ren : Go.Shelf.Ren := ⟨fun | 161 => 135 | 231 => 111 | 227 => 113 | 233 => 114 | 235 => 116 | 228 => 162 | 197 => 163 | 151 => 164 | 260 => 194 | 152 => 195 | 137 => 208 | 119 => 178 | 224 => 192 | 225 => 191 | 217 => 190 | 266 => 206 | n => n, fun | 9 => 9 | 4 => 4 | 3 => 3 | 5 => 5 | 117 => 165 | 116 => 164 | 0 => 0 | 124 => 168 | 105 => 207 | 21 => 21 | 119 => 212 | 46 => 138 | 139 => 215 | 138 => 214 | n => n, fun | 3 => 2 | 4 => 3 | n => n⟩
theorem laysTrimLeft : Go.Proofs.Lays.n161 Tryd.prog laysTrimLeft_ren where
  mixed := by kernel_rfl
  f119 := Tryd.func178.trans (congrArg some (by kernel_rfl))
  f137 := Tryd.func208.trans (congrArg some (by kernel_rfl))
  f151 := Tryd.func164.trans (congrArg some (by kernel_rfl))
  f152 := Tryd.func195.trans (congrArg some (by kernel_rfl))
  f161 := Tryd.func135.trans (congrArg some (by kernel_rfl))
  f197 := Tryd.func163.trans (congrArg some (by kernel_rfl))
  f217 := Tryd.func190.trans (congrArg some (by kernel_rfl))
  f224 := Tryd.func192.trans (congrArg some (by kernel_rfl))
  f225 := Tryd.func191.trans (congrArg some (by kernel_rfl))
  f227 := Tryd.func113.trans (congrArg some (by kernel_rfl))
  f228 := Tryd.func162.trans (congrArg some (by kernel_rfl))
  f231 := Tryd.func111.trans (congrArg some (by kernel_rfl))
  f233 := Tryd.func114.trans (congrArg some (by kernel_rfl))
  f235 := Tryd.func116.trans (congrArg some (by kernel_rfl))
  f260 := Tryd.func194.trans (congrArg some (by kernel_rfl))
  f266 := Tryd.func206.trans (congrArg some (by kernel_rfl))
  t0 := Tryd.underlying0
  a0 := Tryd.isAgg0
  z0 := Tryd.sizeOf0
  v0 := Tryd.zeroValue0
  t3 := Tryd.underlying3
  a3 := Tryd.isAgg3
  z3 := Tryd.sizeOf3
  v3 := Tryd.zeroValue3
  t4 := Tryd.underlying4
  a4 := Tryd.isAgg4
  z4 := Tryd.sizeOf4
  v4 := Tryd.zeroValue4
  t5 := Tryd.underlying5
  a5 := Tryd.isAgg5
  z5 := Tryd.sizeOf5
  v5 := Tryd.zeroValue5
  t9 := Tryd.underlying9
  a9 := Tryd.isAgg9
  z9 := Tryd.sizeOf9
  v9 := Tryd.zeroValue9
  t21 := Tryd.underlying21
  a21 := Tryd.isAgg21
  z21 := Tryd.sizeOf21
  v21 := Tryd.zeroValue21
  t46 := Tryd.underlying138
  a46 := Tryd.isAgg138
  z46 := Tryd.sizeOf138
  v46 := Tryd.zeroValue138
  t105 := Tryd.underlying207
  a105 := Tryd.isAgg207
  z105 := Tryd.sizeOf207
  v105 := Tryd.zeroValue207
  t116 := Tryd.underlying164
  a116 := Tryd.isAgg164
  z116 := Tryd.sizeOf164
  t117 := Tryd.underlying165
  a117 := Tryd.isAgg165
  z117 := Tryd.sizeOf165
  v117 := Tryd.zeroValue165
  t119 := Tryd.underlying212
  a119 := Tryd.isAgg212
  z119 := Tryd.sizeOf212
  t124 := Tryd.underlying168
  a124 := Tryd.isAgg168
  z124 := Tryd.sizeOf168
  v124 := Tryd.zeroValue168
  t138 := Tryd.underlying214
  a138 := Tryd.isAgg214
  z138 := Tryd.sizeOf214
  v138 := Tryd.zeroValue214
  t139 := Tryd.underlying215
  a139 := Tryd.isAgg215
  z139 := Tryd.sizeOf215
  v139 := Tryd.zeroValue215
  g3 := by kernel_rfl
  g4 := by kernel_rfl
def laysIndex_ren : Go.Shelf.Ren := ⟨fun | 219 => 161 | 217 => 190 | 225 => 191 | 224 => 192 | 267 => 193 | 266 => 206 | 314 => 207 | n => n, fun | 9 => 9 | 3 => 3 | 4 => 4 | 5 => 5 | 46 => 138 | 146 => 191 | 51 => 190 | n => n, fun | 1 => 4 | n => n⟩
theorem laysIndex : Go.Proofs.Lays.n219 Tryd.prog laysIndex_ren where
  mixed := by kernel_rfl
  f217 := Tryd.func190.trans (congrArg some (by kernel_rfl))
  f219 := Tryd.func161.trans (congrArg some (by kernel_rfl))
  f224 := Tryd.func192.trans (congrArg some (by kernel_rfl))
  f225 := Tryd.func191.trans (congrArg some (by kernel_rfl))
  f266 := Tryd.func206.trans (congrArg some (by kernel_rfl))
  f267 := Tryd.func193.trans (congrArg some (by kernel_rfl))
  f314 := Tryd.func207.trans (congrArg some (by kernel_rfl))
  t3 := Tryd.underlying3
  a3 := Tryd.isAgg3
  z3 := Tryd.sizeOf3
  v3 := Tryd.zeroValue3
  t4 := Tryd.underlying4
  a4 := Tryd.isAgg4
  z4 := Tryd.sizeOf4
  v4 := Tryd.zeroValue4
  t5 := Tryd.underlying5
  a5 := Tryd.isAgg5
  z5 := Tryd.sizeOf5
  v5 := Tryd.zeroValue5
  t9 := Tryd.underlying9
  a9 := Tryd.isAgg9
  z9 := Tryd.sizeOf9
  v9 := Tryd.zeroValue9
  t46 := Tryd.underlying138
  a46 := Tryd.isAgg138
  z46 := Tryd.sizeOf138
  v46 := Tryd.zeroValue138
  t51 := Tryd.underlying190
  a51 := Tryd.isAgg190
  z51 := Tryd.sizeOf190
  v51 := Tryd.zeroValue190
  t146 := Tryd.underlying191
  a146 := Tryd.isAgg191
  z146 := Tryd.sizeOf191
  v146 := Tryd.zeroValue191
  g1 := by kernel_rfl
def laysAtoi_ren : Go.Shelf.Ren := ⟨fun | 172 => 170 | 244 => 197 | 245 => 198 | 247 => 209 | 279 => 210 | 280 => 211 | 281 => 212 | 282 => 213 | 287 => 217 | 316 => 218 | 171 => 51 | 205 => 219 | 321 => 220 | 322 => 221 | 243 => 109 | 246 => 160 | 283 => 186 | 284 => 187 | 285 => 188 | 286 => 189 | 129 => 202 | 317 => 201 | 318 => 203 | 319 => 204 | 320 => 205 | 337 => 215 | 338 => 216 | n => n, fun | 9 => 9 | 3 => 3 | 75 => 146 | 76 => 147 | 4 => 4 | 5 => 5 | 167 => 245 | 37 => 96 | 0 => 0 | 85 => 246 | 2 => 2 | 168 => 248 | 53 => 193 | 175 => 253 | 46 => 138 | 210 => 256 | 127 => 196 | 145 => 263 | 143 => 261 | 21 => 21 | 171 => 228 | 173 => 231 | 212 => 241 | 51 => 190 | 20 => 20 | 213 => 242 | 232 => 258 | 233 => 259 | 80 => 150 | n => n, fun | 15 => 6 | 16 => 7 | 17 => 5 | 18 => 8 | 19 => 9 | n => n⟩
theorem laysAtoi : Go.Proofs.LaysC.n172 Tryd.prog laysAtoi_ren where
  mixed := by kernel_rfl
  f129 := Tryd.func202.trans (congrArg some (by kernel_rfl))
  f171 := Tryd.func51.trans (congrArg some (by kernel_rfl))
  f172 := Tryd.func170.trans (congrArg some (by kernel_rfl))
  f205 := Tryd.func219.trans (congrArg some (by kernel_rfl))
  f243 := Tryd.func109.trans (congrArg some (by kernel_rfl))
  f244 := Tryd.func197.trans (congrArg some (by kernel_rfl))
  f245 := Tryd.func198.trans (congrArg some (by kernel_rfl))
  f246 := Tryd.func160.trans (congrArg some (by kernel_rfl))
  f247 := Tryd.func209.trans (congrArg some (by kernel_rfl))
  f279 := Tryd.func210.trans (congrArg some (by kernel_rfl))
  f280 := Tryd.func211.trans (congrArg some (by kernel_rfl))
  f281 := Tryd.func212.trans (congrArg some (by kernel_rfl))
  f282 := Tryd.func213.trans (congrArg some (by kernel_rfl))
  f283 := Tryd.func186.trans (congrArg some (by kernel_rfl))
  f284 := Tryd.func187.trans (congrArg some (by kernel_rfl))
  f285 := Tryd.func188.trans (congrArg some (by kernel_rfl))
  f286 := Tryd.func189.trans (congrArg some (by kernel_rfl))
  f287 := Tryd.func217.trans (congrArg some (by kernel_rfl))
  f316 := Tryd.func218.trans (congrArg some (by kernel_rfl))
  f317 := Tryd.func201.trans (congrArg some (by kernel_rfl))
  f318 := Tryd.func203.trans (congrArg some (by kernel_rfl))
  f319 := Tryd.func204.trans (congrArg some (by kernel_rfl))
  f320 := Tryd.func205.trans (congrArg some (by kernel_rfl))
  f321 := Tryd.func220.trans (congrArg some (by kernel_rfl))
  f322 := Tryd.func221.trans (congrArg some (by kernel_rfl))
  f337 := Tryd.func215.trans (congrArg some (by kernel_rfl))
  f338 := Tryd.func216.trans (congrArg some (by kernel_rfl))
  t0 := Tryd.underlying0
  a0 := Tryd.isAgg0
  z0 := Tryd.sizeOf0
  v0 := Tryd.zeroValue0
  t2 := Tryd.underlying2
  a2 := Tryd.isAgg2
  z2 := Tryd.sizeOf2
  v2 := Tryd.zeroValue2
  t3 := Tryd.underlying3
  a3 := Tryd.isAgg3
  z3 := Tryd.sizeOf3
  v3 := Tryd.zeroValue3
  t4 := Tryd.underlying4
  a4 := Tryd.isAgg4
  z4 := Tryd.sizeOf4
  v4 := Tryd.zeroValue4
  t5 := Tryd.underlying5
  a5 := Tryd.isAgg5
  z5 := Tryd.sizeOf5
  v5 := Tryd.zeroValue5
  t9 := Tryd.underlying9
  a9 := Tryd.isAgg9
  z9 := Tryd.sizeOf9
  v9 := Tryd.zeroValue9
  t20 := Tryd.underlying20
  a20 := Tryd.isAgg20
  z20 := Tryd.sizeOf20
  v20 := Tryd.zeroValue20
  t21 := Tryd.underlying21
  a21 := Tryd.isAgg21
  z21 := Tryd.sizeOf21
  v21 := Tryd.zeroValue21
  t37 := Tryd.underlying96
  a37 := Tryd.isAgg96
  z37 := Tryd.sizeOf96
  v37 := Tryd.zeroValue96
  t46 := Tryd.underlying138
  a46 := Tryd.isAgg138
  z46 := Tryd.sizeOf138
  v46 := Tryd.zeroValue138
  t51 := Tryd.underlying190
  a51 := Tryd.isAgg190
  z51 := Tryd.sizeOf190
  v51 := Tryd.zeroValue190
  t53 := Tryd.underlying193
  a53 := Tryd.isAgg193
  z53 := Tryd.sizeOf193
  v53 := Tryd.zeroValue193
  t75 := Tryd.underlying146
  a75 := Tryd.isAgg146
  z75 := Tryd.sizeOf146
  v75 := Tryd.zeroValue146
  t76 := Tryd.underlying147
  a76 := Tryd.isAgg147
  z76 := Tryd.sizeOf147
  v76 := Tryd.zeroValue147
  t85 := Tryd.underlying246
  a85 := Tryd.isAgg246
  z85 := Tryd.sizeOf246
  v85 := Tryd.zeroValue246
  t127 := Tryd.underlying196
  a127 := Tryd.isAgg196
  z127 := Tryd.sizeOf196
  v127 := Tryd.zeroValue196
  t143 := Tryd.underlying261
  a143 := Tryd.isAgg261
  z143 := Tryd.sizeOf261
  v143 := Tryd.zeroValue261
  t145 := Tryd.underlying263
  a145 := Tryd.isAgg263
  z145 := Tryd.sizeOf263
  v145 := Tryd.zeroValue263
  t167 := Tryd.underlying245
  a167 := Tryd.isAgg245
  z167 := Tryd.sizeOf245
  v167 := Tryd.zeroValue245
  t168 := Tryd.underlying248
  a168 := Tryd.isAgg248
  z168 := Tryd.sizeOf248
  v168 := Tryd.zeroValue248
  t171 := Tryd.underlying228
  a171 := Tryd.isAgg228
  z171 := Tryd.sizeOf228
  v171 := Tryd.zeroValue228
  t173 := Tryd.underlying231
  a173 := Tryd.isAgg231
  z173 := Tryd.sizeOf231
  v173 := Tryd.zeroValue231
  t175 := Tryd.underlying253
  a175 := Tryd.isAgg253
  z175 := Tryd.sizeOf253
  v175 := Tryd.zeroValue253
  t210 := Tryd.underlying256
  a210 := Tryd.isAgg256
  z210 := Tryd.sizeOf256
  v210 := Tryd.zeroValue256
  t212 := Tryd.underlying241
  a212 := Tryd.isAgg241
  z212 := Tryd.sizeOf241
  v212 := Tryd.zeroValue241
  t213 := Tryd.underlying242
  a213 := Tryd.isAgg242
  z213 := Tryd.sizeOf242
  t232 := Tryd.underlying258
  a232 := Tryd.isAgg258
  z232 := Tryd.sizeOf258
  v232 := Tryd.zeroValue258
  t233 := Tryd.underlying259
  a233 := Tryd.isAgg259
  z233 := Tryd.sizeOf259
  v233 := Tryd.zeroValue259
  g15 := by kernel_rfl
  g16 := by kernel_rfl
  g17 := by kernel_rfl
  g18 := by kernel_rfl
  g19 := by kernel_rfl
  t80 := Tryd.underlying150
  a80 := Tryd.isAgg150
  z80 := Tryd.sizeOf150
  v80 := Tryd.zeroValue150
  i0 := by kernel_rfl
  i2 := by kernel_rfl
  i3 := by kernel_rfl
  i4 := by kernel_rfl
  i5 := by kernel_rfl
  i9 := by kernel_rfl
  i20 := by kernel_rfl
  i21 := by kernel_rfl
  i37 := by kernel_rfl
  i46 := by kernel_rfl
  i51 := by kernel_rfl
  i53 := by kernel_rfl
  i75 := by kernel_rfl
  i76 := by kernel_rfl
  i80 := by kernel_rfl
  i85 := by kernel_rfl
  i127 := by kernel_rfl
  i143 := by kernel_rfl
  i145 := by kernel_rfl
  i167 := by kernel_rfl
  i168 := by kernel_rfl
  i171 := by kernel_rfl
  i173 := by kernel_rfl
  i175 := by kernel_rfl
  i210 := by kernel_rfl
  i212 := by kernel_rfl
  i232 := by kernel_rfl
  i233 := by kernel_rfl
  m15 := by kernel_rfl
  m16 := by kernel_rfl
  m17 := by kernel_rfl
  m18 := by kernel_rfl
  m19 := by kernel_rfl
  c0 := by kernel_rfl
  c2 := by kernel_rfl
  c3 := by kernel_rfl
  c4 := by kernel_rfl
  c5 := by kernel_rfl
  c9 := by kernel_rfl
  c20 := by kernel_rfl
  c21 := by kernel_rfl
  c37 := by kernel_rfl
  c46 := by kernel_rfl
  c51 := by kernel_rfl
  c53 := by kernel_rfl
  c75 := by kernel_rfl
  c76 := by kernel_rfl
  c80 := by kernel_rfl
  c85 := by kernel_rfl
  c127 := by kernel_rfl
  c143 := by kernel_rfl
  c145 := by kernel_rfl
  c167 := by kernel_rfl
  c168 := by kernel_rfl
  c171 := by kernel_rfl
  c173 := by kernel_rfl
  c175 := by kernel_rfl
  c210 := by kernel_rfl
  c212 := by kernel_rfl
  c213 := by kernel_rfl
  c232 := by kernel_rfl
  c233 := by kernel_rfl
def laysValid_ren : Go.Shelf.Ren := ⟨fun | 196 => 138 | 259 => 171 | n => n, fun | 9 => 9 | 4 => 4 | 3 => 3 | 5 => 5 | 12 => 12 | 119 => 212 | 0 => 0 | 46 => 138 | 139 => 215 | 138 => 214 | 53 => 193 | n => n, fun | 3 => 2 | 4 => 3 | n => n⟩
theorem laysValid : Go.Proofs.Lays.n196 Tryd.prog laysValid_ren where
  mixed := by kernel_rfl
  f196 := Tryd.func138.trans (congrArg some (by kernel_rfl))
  f259 := Tryd.func171.trans (congrArg some (by kernel_rfl))
  t0 := Tryd.underlying0
  a0 := Tryd.isAgg0
  z0 := Tryd.sizeOf0
  v0 := Tryd.zeroValue0
  t3 := Tryd.underlying3
  a3 := Tryd.isAgg3
  z3 := Tryd.sizeOf3
  v3 := Tryd.zeroValue3
  t4 := Tryd.underlying4
  a4 := Tryd.isAgg4
  z4 := Tryd.sizeOf4
  v4 := Tryd.zeroValue4
  t5 := Tryd.underlying5
  a5 := Tryd.isAgg5
  z5 := Tryd.sizeOf5
  v5 := Tryd.zeroValue5
  t9 := Tryd.underlying9
  a9 := Tryd.isAgg9
  z9 := Tryd.sizeOf9
  v9 := Tryd.zeroValue9
  t12 := Tryd.underlying12
  a12 := Tryd.isAgg12
  z12 := Tryd.sizeOf12
  v12 := Tryd.zeroValue12
  t46 := Tryd.underlying138
  a46 := Tryd.isAgg138
  z46 := Tryd.sizeOf138
  v46 := Tryd.zeroValue138
  t53 := Tryd.underlying193
  a53 := Tryd.isAgg193
  z53 := Tryd.sizeOf193
  v53 := Tryd.zeroValue193
  t119 := Tryd.underlying212
  a119 := Tryd.isAgg212
  z119 := Tryd.sizeOf212
  t138 := Tryd.underlying214
  a138 := Tryd.isAgg214
  z138 := Tryd.sizeOf214
  v138 := Tryd.zeroValue214
  t139 := Tryd.underlying215
  a139 := Tryd.isAgg215
  z139 := Tryd.sizeOf215
  v139 := Tryd.zeroValue215
  g3 := by kernel_rfl
  g4 := by kernel_rfl
theorem wk81 : SpecOK Tryd.prog E0 81 containsS := contains_ok (ρ := laysContains_ren) laysContains (Go.Proofs.enters_of laysContains.f144 (by kernel_rfl) rfl) rfl
theorem wk135 : SpecOK Tryd.prog E0 135 trimLeftS := trimLeft_ok (ρ := laysTrimLeft_ren) laysTrimLeft (Go.Proofs.enters_of laysTrimLeft.f161 (by kernel_rfl) rfl) rfl
theorem wk161 : SpecOK Tryd.prog E0 161 indexS := index_ok (ρ := laysIndex_ren) laysIndex (Go.Proofs.enters_of laysIndex.f219 (by kernel_rfl) rfl) rfl
theorem wk138 : SpecOK Tryd.prog E0 138 validS := valid_ok (ρ := laysValid_ren) laysValid (Go.Proofs.enters_of laysValid.f196 (by kernel_rfl) rfl) rfl (xs := U.firstL) (ys := U.accL) (by kernel_rfl) (by kernel_rfl) rfl rfl
end Go.Proofs.YtdlbnlbajnafdaaDoor
end
section
set_option linter.unusedVariables false
namespace Go.Ev
open Go.RowKit
theorem SpecOK.lift {P : Program} {E E' : Env} {f : FuncId} {sp : FSpec} (h : SpecOK P E f sp) (hg : ∀ g p, E.glob g = some p → E'.glob g = some p) : SpecOK P E' f sp := fun F O args bs r hr hc w K A vs H hv =>
  (h F O args bs r hr hc w K A vs ⟨H.blk, H.inj, H.own, H.kset, H.k0, fun g p hp => H.glob g p (hg g p hp), H.os, H.tape, H.output, H.size, H.frame⟩ hv).mono
    fun v w' ⟨K', A', a, b, c⟩ => ⟨K', A', ⟨a.blk, a.inj, a.own, a.kset, a.k0, fun g p hp => b.leaf (H.glob g p hp), a.os, a.tape, a.output, a.size, a.frame⟩, b, c⟩
end Go.Ev
end
section
set_option maxRecDepth 100000
namespace Go.Proofs.YtdlbnlbajnafdaaDoor
open Go.Ev
theorem gl_of {g : Nat} {p : GV} (h : gl g = some p) : Nat.beq g 2 = true ∨ Nat.beq g 3 = true ∨ Nat.beq g 5 = true := by
  unfold gl at h
  cases h2 : Nat.beq g 2 with
  | true => exact .inl rfl
  | false =>
    cases h3 : Nat.beq g 3 with
    | true => exact .inr (.inl rfl)
    | false =>
      cases h5 : Nat.beq g 5 with
      | true => exact .inr (.inr rfl)
      | false => rw [h2, h3, h5] at h; cases h
namespace Cm
def gl (g : Nat) : Option GV := bif Nat.beq g 0 then some (.arr wordk U.wordsL) else bif Nat.beq g 6 then some (.dat .ifc false) else bif Nat.beq g 7 then some (.dat .ifc false) else Go.Proofs.YtdlbnlbajnafdaaDoor.gl g
def E0 : Env := { tt := tt, glob := gl }
theorem up : ∀ g p, Go.Proofs.YtdlbnlbajnafdaaDoor.E0.glob g = some p → E0.glob g = some p := fun g p h => by
  have h : Go.Proofs.YtdlbnlbajnafdaaDoor.gl g = some p := h
  show gl g = some p
  rcases gl_of h with e | e | e <;> rw [Nat.eq_of_beq_eq_true e] at h ⊢ <;> exact h
theorem wk135 : SpecOK Tryd.prog E0 135 trimLeftS := Go.Proofs.YtdlbnlbajnafdaaDoor.wk135.lift up
theorem wk138 : SpecOK Tryd.prog E0 138 validS := Go.Proofs.YtdlbnlbajnafdaaDoor.wk138.lift up
theorem wk161 : SpecOK Tryd.prog E0 161 indexS := Go.Proofs.YtdlbnlbajnafdaaDoor.wk161.lift up
theorem wk51 : SpecOK Tryd.prog E0 51 itoaS := Go.Proofs.YtdlbnlbajnafdaaDoor.wk51.lift up
theorem wk77 : SpecOK Tryd.prog E0 77 w77 := Go.Proofs.YtdlbnlbajnafdaaDoor.wk77.lift up
theorem wk81 : SpecOK Tryd.prog E0 81 containsS := Go.Proofs.YtdlbnlbajnafdaaDoor.wk81.lift up
theorem wk86 : SpecOK Tryd.prog E0 86 w86 := Go.Proofs.YtdlbnlbajnafdaaDoor.wk86.lift up
theorem wk87 : SpecOK Tryd.prog E0 87 w87 := Go.Proofs.YtdlbnlbajnafdaaDoor.wk87.lift up
theorem wk91 : SpecOK Tryd.prog E0 91 w91 := Go.Proofs.YtdlbnlbajnafdaaDoor.wk91.lift up
theorem wk137' : SpecOK Tryd.prog E0 137 Go.Proofs.YtdlbnlbajnafdaaDoor.w137 := Go.Proofs.YtdlbnlbajnafdaaDoor.wk137.lift up
theorem wk144' : SpecOK Tryd.prog E0 144 Go.Proofs.YtdlbnlbajnafdaaDoor.Z.w144 := Go.Proofs.YtdlbnlbajnafdaaDoor.Z.wk144.lift up
theorem wk170 : SpecOK Tryd.prog E0 170 atoiS := atoi_ok (ρ := laysAtoi_ren) laysAtoi (Go.Proofs.enters_of laysAtoi.f172 (by kernel_rfl) rfl) rfl (by kernel_rfl) (by kernel_rfl)
end Cm
end Go.Proofs.YtdlbnlbajnafdaaDoor
end
section
set_option linter.unusedVariables false
set_option linter.unusedSimpArgs false
set_option maxRecDepth 20000
set_option maxHeartbeats 4000000
open Go Go.Ev
namespace Go.Proofs.YtdlbnlbajnafdaaDoor
namespace Cm
def d78 (xa : Int) : Tr (Bool) :=
 Tr.ite (decide ((-1000 : Int) ≤ xa)) (Tr.ret (decide (xa ≤ (1000 : Int)))) (Tr.ret false)
def e78 (r : Bool) : FRes := { rs := Slot.av (AV.one (Leaf.dat Kd.bool r)), upd := [], new := [] }
@[reducible] def a78 : List AK := [AK.d (.int .i64)]
@[reducible] def b78 : List BK := []
theorem t78 (xa : Int) : evFn (E0) Tryd.f78 [PM.data Kd.bool] (akAV a78 (xa, ())) (bkBs b78 ()) = (d78 xa).map e78 := by kernel_rfl
def s78' (G : akT a78 → Bool) : FSpec := aspec0 a78 b78 e78 (fun x _ => G x)
theorem k78' {G : akT a78 → Bool} (hd : ∀ (xa : Int), (d78 xa).val = some (G (xa, ()))) (IO : ItOK Tryd.prog (E0) := by exact itOK_none rfl) (L : ∀ c, Tryd.f78.body = some c → LsOK (evI 2) ((E0).lend 0) c := by exact fun c _ => LsOK_none rfl c) : SpecOK Tryd.prog E0 78 (s78' G) :=
  aspec0_ok (ak := a78) (bl := b78) (e := e78) (g := fun x _ => G x) (E0 := E0) (E := E0) tab .nil rfl rfl hm Tryd.func78 (by kernel_rfl) [PM.data Kd.bool] (fun X Y => by obtain ⟨xa, _⟩ := X; exact val_of (t78 xa) (hd xa)) IO L
def d75 (xa : Bool) : Tr (ByteArray) :=
 Tr.ite xa (Tr.ret { data := #[OfNat.ofNat (111 : Nat), OfNat.ofNat (110 : Nat)] }) (Tr.ret { data := #[OfNat.ofNat (111 : Nat), OfNat.ofNat (102 : Nat), OfNat.ofNat (102 : Nat)] })
def e75 (r : ByteArray) : FRes := { rs := Slot.av (AV.one (Leaf.dat Kd.str r)), upd := [], new := [] }
@[reducible] def a75 : List AK := [AK.d Kd.bool]
@[reducible] def b75 : List BK := []
theorem t75 (xa : Bool) : evFn (E0) Tryd.f75 [PM.data Kd.str] (akAV a75 (xa, ())) (bkBs b75 ()) = (d75 xa).map e75 := by kernel_rfl
def s75' (G : akT a75 → ByteArray) : FSpec := aspec0 a75 b75 e75 (fun x _ => G x)
theorem k75' {G : akT a75 → ByteArray} (hd : ∀ (xa : Bool), (d75 xa).val = some (G (xa, ()))) (IO : ItOK Tryd.prog (E0) := by exact itOK_none rfl) (L : ∀ c, Tryd.f75.body = some c → LsOK (evI 2) ((E0).lend 0) c := by exact fun c _ => LsOK_none rfl c) : SpecOK Tryd.prog E0 75 (s75' G) :=
  aspec0_ok (ak := a75) (bl := b75) (e := e75) (g := fun x _ => G x) (E0 := E0) (E := E0) tab .nil rfl rfl hm Tryd.func75 (by kernel_rfl) [PM.data Kd.str] (fun X Y => by obtain ⟨xa, _⟩ := X; exact val_of (t75 xa) (hd xa)) IO L
def d79 (xa : ByteArray) : Tr (Bool) :=
 Tr.ite (decide (ByteArray.size xa ≤ (9223372036854775807 : Nat))) (Tr.ret (Lib.validD xa.data.toList)) Tr.fail
def e79 (r : Bool) : FRes := { rs := Slot.av (AV.one (Leaf.dat Kd.bool r)), upd := [], new := [] }
@[reducible] def a79 : List AK := [AK.d Kd.str]
@[reducible] def b79 : List BK := []
theorem t79 (xa : ByteArray) : evFn (Env.withFns E0 [((138 : Nat), validS)]) Tryd.f79 [PM.data Kd.bool] (akAV a79 (xa, ())) (bkBs b79 ()) = (d79 xa).map e79 := by kernel_rfl
def s79 (C : akT a79 → Bool) (G : akT a79 → Bool) : FSpec := aspec a79 b79 e79 (fun x _ => C x) (fun x _ => G x)
theorem k79 {C : akT a79 → Bool} {G : akT a79 → Bool} (hd : ∀ (xa : ByteArray), C (xa, ()) = true → (d79 xa).val = some (G (xa, ()))) (IO : ItOK Tryd.prog (Env.withFns E0 [((138 : Nat), validS)]) := by exact itOK_none rfl) (L : ∀ c, Tryd.f79.body = some c → LsOK (evI 2) ((Env.withFns E0 [((138 : Nat), validS)]).lend 0) c := by exact fun c _ => LsOK_none rfl c) : SpecOK Tryd.prog E0 79 (s79 C G) :=
  aspec_ok (ak := a79) (bl := b79) (e := e79) (c := fun x _ => C x) (g := fun x _ => G x) (E0 := E0) (E := Env.withFns E0 [((138 : Nat), validS)]) tab (.cons wk138 .nil) rfl rfl hm Tryd.func79 (by kernel_rfl) [PM.data Kd.bool] (fun X Y H => by obtain ⟨xa, _⟩ := X; exact val_of (t79 xa) (hd xa H)) IO L
def d136 (xa1 : ByteArray) (xa2 : Bool) : Tr (Int × Bool) :=
 let v1 : ByteArray := (itoaB (atoiV xa1).fst)
 Tr.ite (decide (ByteArray.size xa1 ≤ (1048576 : Nat))) (Tr.ite (atoiV xa1).snd (Tr.ite (!xa2) (Tr.ite (decide ((-9223372036854775808 : Int) ≤ (atoiV xa1).fst ∧ (atoiV xa1).fst ≤ (9223372036854775807 : Int))) (Tr.ret ((atoiV xa1).fst, decide (v1 = xa1))) Tr.fail) (Tr.ret ((atoiV xa1).fst, false))) (Tr.ret ((atoiV xa1).fst, false))) Tr.fail
def e136 (r : Int × Bool) : FRes := { rs := Slot.tup [AV.one (Leaf.dat (.int .i64) r.fst), AV.one (Leaf.dat Kd.bool r.snd)], upd := [], new := [] }
@[reducible] def a136 : List AK := [AK.d (Kd.pr Kd.str (Kd.pr Kd.bool Kd.un))]
@[reducible] def b136 : List BK := []
theorem t136 (xa1 : ByteArray) (xa2 : Bool) : evFn (Env.withFns E0 [((170 : Nat), atoiS), ((51 : Nat), itoaS)]) Tryd.f136 [PM.data (.int .i64), PM.data Kd.bool] (akAV a136 ((xa1, xa2, ()), ())) (bkBs b136 ()) = (d136 xa1 xa2).map e136 := by kernel_rfl
def s136 (C : akT a136 → Bool) (G : akT a136 → Int × Bool) : FSpec := aspec a136 b136 e136 (fun x _ => C x) (fun x _ => G x)
theorem k136 {C : akT a136 → Bool} {G : akT a136 → Int × Bool} (hd : ∀ (xa1 : ByteArray) (xa2 : Bool), C ((xa1, xa2, ()), ()) = true → (d136 xa1 xa2).val = some (G ((xa1, xa2, ()), ()))) (IO : ItOK Tryd.prog (Env.withFns E0 [((170 : Nat), atoiS), ((51 : Nat), itoaS)]) := by exact itOK_none rfl) (L : ∀ c, Tryd.f136.body = some c → LsOK (evI 2) ((Env.withFns E0 [((170 : Nat), atoiS), ((51 : Nat), itoaS)]).lend 0) c := by exact fun c _ => LsOK_none rfl c) : SpecOK Tryd.prog E0 136 (s136 C G) :=
  aspec_ok (ak := a136) (bl := b136) (e := e136) (c := fun x _ => C x) (g := fun x _ => G x) (E0 := E0) (E := Env.withFns E0 [((170 : Nat), atoiS), ((51 : Nat), itoaS)]) tab (.cons wk170 (.cons wk51 .nil)) rfl rfl hm Tryd.func136 (by kernel_rfl) [PM.data (.int .i64), PM.data Kd.bool] (fun X Y H => by obtain ⟨⟨xa1, ⟨xa2, _⟩⟩, _⟩ := X; exact val_of (t136 xa1 xa2) (hd xa1 xa2 H)) IO L
def d30 (xa1 : Int) (xa2 : Int) (xa3 : Int) (xa4 : Bool) (xa5 : ByteArray) : Tr (Int × Int × Int × Bool × ByteArray) :=
 let v1 : Int := (minI (↑(ByteArray.size xa5) : Int) (70 : Int))
 Tr.ite (decide ((0 : Int) ≤ v1 ∧ v1 ≤ (↑(ByteArray.size xa5) : Int))) (Tr.ret (xa1, xa2, xa3, xa4, ByteArray.extract xa5 (0 : Nat) (Int.toNat v1))) Tr.fail
def e30 (r : Int × Int × Int × Bool × ByteArray) : FRes := { rs := Slot.av (AV.agg [Leaf.dat (.int .i64) r.fst, Leaf.dat (.int .i64) r.snd.fst, Leaf.dat (.int .i64) r.snd.snd.fst, Leaf.dat Kd.bool r.snd.snd.snd.fst, Leaf.dat Kd.str r.snd.snd.snd.snd]), upd := [], new := [] }
@[reducible] def a30 : List AK := [AK.d cmdk]
@[reducible] def b30 : List BK := []
theorem t30 (xa1 : Int) (xa2 : Int) (xa3 : Int) (xa4 : Bool) (xa5 : ByteArray) : evFn (E0) Tryd.f30 [PM.data cmdk] (akAV a30 ((xa1, xa2, xa3, xa4, xa5, ()), ())) (bkBs b30 ()) = (d30 xa1 xa2 xa3 xa4 xa5).map e30 := by kernel_rfl
def s30' (G : akT a30 → Int × Int × Int × Bool × ByteArray) : FSpec := aspec0 a30 b30 e30 (fun x _ => G x)
theorem k30' {G : akT a30 → Int × Int × Int × Bool × ByteArray} (hd : ∀ (xa1 : Int) (xa2 : Int) (xa3 : Int) (xa4 : Bool) (xa5 : ByteArray), (d30 xa1 xa2 xa3 xa4 xa5).val = some (G ((xa1, xa2, xa3, xa4, xa5, ()), ()))) (IO : ItOK Tryd.prog (E0) := by exact itOK_none rfl) (L : ∀ c, Tryd.f30.body = some c → LsOK (evI 2) ((E0).lend 0) c := by exact fun c _ => LsOK_none rfl c) : SpecOK Tryd.prog E0 30 (s30' G) :=
  aspec0_ok (ak := a30) (bl := b30) (e := e30) (g := fun x _ => G x) (E0 := E0) (E := E0) tab .nil rfl rfl hm Tryd.func30 (by kernel_rfl) [PM.data cmdk] (fun X Y => by obtain ⟨⟨xa1, ⟨xa2, ⟨xa3, ⟨xa4, ⟨xa5, _⟩⟩⟩⟩⟩, _⟩ := X; exact val_of (t30 xa1 xa2 xa3 xa4 xa5) (hd xa1 xa2 xa3 xa4 xa5)) IO L
def d110 (xa : ByteArray) (xb : ByteArray) : Tr (ByteArray × ByteArray × Bool) :=
 let v1 : Int := (Lib.indexByte xa.data.toList (b0 xb))
 let v2 : Int := (IntKind.wrap IntKind.i64 (v1 + (↑(ByteArray.size xb) : Int)))
 Tr.ite (decide (ByteArray.size xb = (1 : Nat))) (Tr.ite (decide ((0 : Int) ≤ v1)) (Tr.ite (decide ((0 : Int) ≤ v1 ∧ v1 ≤ (↑(ByteArray.size xa) : Int))) (Tr.ite (decide ((0 : Int) ≤ v2 ∧ v2 ≤ (↑(ByteArray.size xa) : Int))) (Tr.ret (ByteArray.extract xa (0 : Nat) (Int.toNat v1), ByteArray.extract xa (Int.toNat v2) (ByteArray.size xa), true)) Tr.fail) Tr.fail) (Tr.ret (xa, { data := #[] }, false))) Tr.fail
def e110 (r : ByteArray × ByteArray × Bool) : FRes := { rs := Slot.tup [AV.one (Leaf.dat Kd.str r.fst), AV.one (Leaf.dat Kd.str r.snd.fst), AV.one (Leaf.dat Kd.bool r.snd.snd)], upd := [], new := [] }
@[reducible] def a110 : List AK := [AK.d Kd.str, AK.d Kd.str]
@[reducible] def b110 : List BK := []
theorem t110 (xa : ByteArray) (xb : ByteArray) : evFn (Env.withFns E0 [((161 : Nat), indexS)]) Tryd.f110 [PM.data Kd.str, PM.data Kd.str, PM.data Kd.bool] (akAV a110 (xa, xb, ())) (bkBs b110 ()) = (d110 xa xb).map e110 := by kernel_rfl
def s110 (C : akT a110 → Bool) (G : akT a110 → ByteArray × ByteArray × Bool) : FSpec := aspec a110 b110 e110 (fun x _ => C x) (fun x _ => G x)
theorem k110 {C : akT a110 → Bool} {G : akT a110 → ByteArray × ByteArray × Bool} (hd : ∀ (xa : ByteArray) (xb : ByteArray), C (xa, xb, ()) = true → (d110 xa xb).val = some (G (xa, xb, ()))) (IO : ItOK Tryd.prog (Env.withFns E0 [((161 : Nat), indexS)]) := by exact itOK_none rfl) (L : ∀ c, Tryd.f110.body = some c → LsOK (evI 2) ((Env.withFns E0 [((161 : Nat), indexS)]).lend 0) c := by exact fun c _ => LsOK_none rfl c) : SpecOK Tryd.prog E0 110 (s110 C G) :=
  aspec_ok (ak := a110) (bl := b110) (e := e110) (c := fun x _ => C x) (g := fun x _ => G x) (E0 := E0) (E := Env.withFns E0 [((161 : Nat), indexS)]) tab (.cons wk161 .nil) rfl rfl hm Tryd.func110 (by kernel_rfl) [PM.data Kd.str, PM.data Kd.str, PM.data Kd.bool] (fun X Y H => by obtain ⟨xa, ⟨xb, _⟩⟩ := X; exact val_of (t110 xa xb) (hd xa xb H)) IO L
def near (n : Int) : Bool := decide ((-1000 : Int) ≤ n) && decide (n ≤ (1000 : Int))
abbrev w78 : FSpec := s78' fun x => near x.1
theorem wk78 : SpecOK Tryd.prog E0 78 w78 := k78' fun a => by
  show _ = some (near a)
  unfold near
  simp only [d78, Tr.val]
  cases decide ((-1000 : Int) ≤ a) <;> rfl
def truth (b : Bool) : ByteArray := bif b then ⟨#[111, 110]⟩ else ⟨#[111, 102, 102]⟩
abbrev w75 : FSpec := s75' fun x => truth x.1
theorem wk75 : SpecOK Tryd.prog E0 75 w75 := k75' fun a => by cases a <;> rfl
abbrev w79 : FSpec := s79 (fun x => decide (ByteArray.size x.1 ≤ 1048576)) fun x => Lib.validD x.1.data.toList
theorem wk79 : SpecOK Tryd.prog E0 79 w79 := k79 fun s H => by
  have h : s.size ≤ 1048576 := of_decide_eq_true H
  show _ = some (Lib.validD s.data.toList)
  simp only [d79, Tr.val, show s.size ≤ 9223372036854775807 by omega, decide_true, cond_true]
def d80 (xa : ByteArray) (h0_0 : Int) (h0_1 : Int) (h0_2 : Int) (h0_3 : Bool) (h0_4 : ByteArray) : Tr (Bool × Int × Int × Int × Bool × ByteArray) :=
 let v1 : Int := (Lib.indexByte (rget wordk U.wordsL h0_0).snd.fst.data.toList (b0 xa))
 Tr.ite (inB h0_0 (22 : Nat)) (Tr.ite (decide (ByteArray.size xa = (1 : Nat))) (Tr.ret (!decide ((0 : Int) ≤ v1), h0_0, h0_1, h0_2, h0_3, h0_4)) Tr.fail) Tr.fail
def e80 (r : Bool × Int × Int × Int × Bool × ByteArray) : FRes := { rs := Slot.av (AV.one (Leaf.dat Kd.bool r.fst)), upd := [Blk.box [Leaf.dat (.int .i64) r.snd.fst, Leaf.dat (.int .i64) r.snd.snd.fst, Leaf.dat (.int .i64) r.snd.snd.snd.fst, Leaf.dat Kd.bool r.snd.snd.snd.snd.fst, Leaf.dat Kd.str r.snd.snd.snd.snd.snd]], new := [] }
@[reducible] def a80 : List AK := [AK.d Kd.str, AK.c (Leaf.ptr (0 : Nat) (0 : Nat))]
@[reducible] def b80 : List BK := [BK.box [SK.d (.int .i64), SK.d (.int .i64), SK.d (.int .i64), SK.d Kd.bool, SK.d Kd.str]]
theorem t80 (xa : ByteArray) (h0_0 : Int) (h0_1 : Int) (h0_2 : Int) (h0_3 : Bool) (h0_4 : ByteArray) : evFn (Env.withFns E0 [((81 : Nat), containsS)]) Tryd.f80 [PM.data Kd.bool] (akAV a80 (xa, ())) (bkBs b80 ((h0_0, h0_1, h0_2, h0_3, h0_4, ()), ())) = (d80 xa h0_0 h0_1 h0_2 h0_3 h0_4).map e80 := by kernel_rfl
def s80 (C : akT a80 → bksT b80 → Bool) (G : akT a80 → bksT b80 → Bool × Int × Int × Int × Bool × ByteArray) : FSpec := aspec a80 b80 e80 (C) (G)
theorem k80 {C : akT a80 → bksT b80 → Bool} {G : akT a80 → bksT b80 → Bool × Int × Int × Int × Bool × ByteArray} (hd : ∀ (xa : ByteArray) (h0_0 : Int) (h0_1 : Int) (h0_2 : Int) (h0_3 : Bool) (h0_4 : ByteArray), C (xa, ()) ((h0_0, h0_1, h0_2, h0_3, h0_4, ()), ()) = true → (d80 xa h0_0 h0_1 h0_2 h0_3 h0_4).val = some (G (xa, ()) ((h0_0, h0_1, h0_2, h0_3, h0_4, ()), ()))) (IO : ItOK Tryd.prog (Env.withFns E0 [((81 : Nat), containsS)]) := by exact itOK_none rfl) (L : ∀ c, Tryd.f80.body = some c → LsOK (evI 2) ((Env.withFns E0 [((81 : Nat), containsS)]).lend 1) c := by exact fun c _ => LsOK_none rfl c) : SpecOK Tryd.prog E0 80 (s80 C G) :=
  aspec_ok (ak := a80) (bl := b80) (e := e80) (c := C) (g := G) (E0 := E0) (E := Env.withFns E0 [((81 : Nat), containsS)]) tab (.cons wk81 .nil) rfl rfl hm Tryd.func80 (by kernel_rfl) [PM.data Kd.bool] (fun X Y H => by obtain ⟨xa, _⟩ := X; obtain ⟨⟨h0_0, ⟨h0_1, ⟨h0_2, ⟨h0_3, ⟨h0_4, _⟩⟩⟩⟩⟩, _⟩ := Y; exact val_of (t80 xa h0_0 h0_1 h0_2 h0_3 h0_4) (hd xa h0_0 h0_1 h0_2 h0_3 h0_4 H)) IO L
abbrev C5 := Int × Int × Int × Bool × ByteArray
def hasL : List Int := [0, 1, 1, 0, 1, 1, 0, 3, 2, 1, 3, 4, 1, 1, 1, 1, 1, 0, 4, 0, 0, 0]
def hasB (s : ByteArray) (c : UInt8) : Bool := (bl s).contains c
theorem index_mem : ∀ (l : List UInt8) (c : UInt8), Lib.indexByte l c = if l.contains c then ((l.takeWhile (· != c)).length : Int) else -1
  | [], c => rfl
  | b :: l, c => by
    have ih := index_mem l c
    unfold Lib.indexByte
    cases h : b == c with
    | true =>
      have h2 : b = c := eq_of_beq h
      subst h2
      simp
    | false =>
      have h3 : (c == b) = false := by
        cases h4 : c == b with
        | false => rfl
        | true => rw [eq_of_beq h4] at h; simp at h
      have h5 : (b != c) = true := by unfold bne; rw [h]; rfl
      rw [List.takeWhile_cons, h5, List.contains_cons, h3, Bool.false_or, ih]
      simp only [if_true, Bool.false_eq_true, if_false]
      cases hc : l.contains c with
      | true =>
        have : ((((l.takeWhile (· != c)).length : Nat) : Int) == -1) = false := by
          rw [beq_eq_false_iff_ne]; omega
        simp only [if_true, this, Bool.false_eq_true, if_false, List.length_cons]
        omega
      | false => rfl
theorem index_ge (s : ByteArray) (c : UInt8) : decide (0 ≤ Lib.indexByte s.data.toList c) = hasB s c := by
  rw [index_mem]
  unfold hasB bl
  cases s.data.toList.contains c with
  | true => simp
  | false => rfl
abbrev w80 : FSpec := s80 (fun x y => inB (y.1.1 : Int) 22 && decide (ByteArray.size x.1 = 1)) fun x y => (!hasB (rget wordk U.wordsL y.1.1).2.1 (b0 x.1), y.1.1, y.1.2.1, y.1.2.2.1, y.1.2.2.2.1, y.1.2.2.2.2.1)
theorem wk80 : SpecOK Tryd.prog E0 80 w80 := k80 fun s a b c d e H => by
  have H : (inB (a : Int) 22 && decide (s.size = 1)) = true := H
  rw [Bool.and_eq_true] at H
  simp only [d80, Tr.val, H.1, H.2, cond_true, index_ge]
def cutB (s : ByteArray) (c : UInt8) : ByteArray := ⟨((bl s).takeWhile (· != c)).toArray⟩
def cutA (s : ByteArray) (c : UInt8) : ByteArray := ⟨(((bl s).dropWhile (· != c)).drop 1).toArray⟩
theorem takeWhile_len {α : Type} (p : α → Bool) : ∀ l : List α, l.take (l.takeWhile p).length = l.takeWhile p
  | [] => rfl
  | a :: l => by
    rw [List.takeWhile_cons]
    split
    · rw [List.length_cons, List.take_succ_cons, takeWhile_len p l]
    · rfl
theorem dropWhile_len {α : Type} (p : α → Bool) : ∀ l : List α, l.drop (l.takeWhile p).length = l.dropWhile p
  | [] => rfl
  | a :: l => by
    rw [List.takeWhile_cons, List.dropWhile_cons]
    split
    · rw [List.length_cons, List.drop_succ_cons, dropWhile_len p l]
    · rfl
theorem takeWhile_lt (c : UInt8) : ∀ l : List UInt8, l.contains c = true → (l.takeWhile (· != c)).length < l.length
  | [], h => by cases h
  | b :: l, h => by
    rw [List.takeWhile_cons]
    split
    · rename_i hb
      rw [List.contains_cons] at h
      have : (c == b) = false := by
        cases h4 : c == b with
        | false => rfl
        | true => rw [eq_of_beq h4] at hb; simp at hb
      rw [this, Bool.false_or] at h
      have := takeWhile_lt c l h
      rw [List.length_cons, List.length_cons]; omega
    · simp
theorem takeWhile_all (c : UInt8) (l : List UInt8) (h : l.contains c = false) : l.takeWhile (· != c) = l ∧ l.dropWhile (· != c) = [] := by
  induction l with
  | nil => exact ⟨rfl, rfl⟩
  | cons b l ih =>
    rw [List.contains_cons, Bool.or_eq_false_iff] at h
    have hb : (b != c) = true := by
      unfold bne
      cases h4 : b == c with
      | false => rfl
      | true => rw [eq_of_beq h4] at h; simp at h
    rw [List.takeWhile_cons, List.dropWhile_cons, hb]
    simp [ih h.2]
abbrev w110 : FSpec := s110 (fun x => decide (ByteArray.size x.2.1 = 1 ∧ ByteArray.size x.1 ≤ 1048576)) fun x => (cutB x.1 (b0 x.2.1), cutA x.1 (b0 x.2.1), hasB x.1 (b0 x.2.1))
theorem wk110 : SpecOK Tryd.prog E0 110 w110 := k110 fun s t H => by
  obtain ⟨h1, h2⟩ : t.size = 1 ∧ s.size ≤ 1048576 := of_decide_eq_true H
  show _ = some (cutB s (b0 t), cutA s (b0 t), hasB s (b0 t))
  have e := index_mem s.data.toList (b0 t)
  have eb : bl s = s.data.toList := rfl
  cases hc : s.data.toList.contains (b0 t) with
  | true =>
    rw [hc, if_pos rfl] at e
    have hl : (s.data.toList.takeWhile (· != b0 t)).length < s.size := by rw [← bl_len]; exact takeWhile_lt _ _ hc
    have w : IntKind.wrap IntKind.i64 (((s.data.toList.takeWhile (· != b0 t)).length : Int) + ((1 : Nat) : Int)) = (((s.data.toList.takeWhile (· != b0 t)).length + 1 : Nat) : Int) := by rw [Go.Ev.w64 (by omega) (by omega)]; omega
    simp only [d110, Tr.val, e, h1, w, show (0 : Int) ≤ ((s.data.toList.takeWhile (· != b0 t)).length : Int) by omega, show (0 : Int) ≤ (((s.data.toList.takeWhile (· != b0 t)).length + 1 : Nat) : Int) by omega,
      show (((s.data.toList.takeWhile (· != b0 t)).length : Int) ≤ (s.size : Int)) by omega, show (((s.data.toList.takeWhile (· != b0 t)).length + 1 : Nat) : Int) ≤ (s.size : Int) by omega, and_self, decide_true, cond_true, Int.toNat_natCast]
    congr 1
    have ha : s.extract 0 (s.data.toList.takeWhile (· != b0 t)).length = cutB s (b0 t) := bl_inj (by
      rw [bl_ext, List.drop_zero]
      show _ = (bl s).takeWhile (· != b0 t)
      rw [eb, takeWhile_len])
    have hb : s.extract ((s.data.toList.takeWhile (· != b0 t)).length + 1) s.size = cutA s (b0 t) := bl_inj (by
      rw [bl_ext, ← bl_len, List.take_length]
      show _ = ((bl s).dropWhile (· != b0 t)).drop 1
      rw [← dropWhile_len, List.drop_drop]
      rfl)
    rw [ha, hb]
    unfold hasB
    rw [eb, hc]
  | false =>
    rw [hc, if_neg (by decide)] at e
    obtain ⟨g1, g2⟩ := takeWhile_all (b0 t) s.data.toList hc
    simp only [d110, Tr.val, e, h1, show ¬ ((0 : Int) ≤ -1) by omega, decide_true, decide_false, cond_true, cond_false]
    congr 1
    have ha : s = cutB s (b0 t) := bl_inj (by
      show _ = (bl s).takeWhile (· != b0 t)
      rw [eb, g1])
    have hb : (⟨#[]⟩ : ByteArray) = cutA s (b0 t) := bl_inj (by
      show _ = ((bl s).dropWhile (· != b0 t)).drop 1
      rw [eb, g2]
      rfl)
    rw [← ha, ← hb]
    unfold hasB
    rw [eb, hc]
def d52 (xa : ByteArray) (xb : ByteArray) : Tr (ByteArray × ByteArray × Bool) :=
 Tr.ite (decide (ByteArray.size xb = (1 : Nat) ∧ ByteArray.size xa ≤ (1048576 : Nat))) (Tr.ret (cutB xa (b0 xb), cutA xa (b0 xb), hasB xa (b0 xb))) Tr.fail
def e52 (r : ByteArray × ByteArray × Bool) : FRes := { rs := Slot.tup [AV.one (Leaf.dat Kd.str r.fst), AV.one (Leaf.dat Kd.str r.snd.fst), AV.one (Leaf.dat Kd.bool r.snd.snd)], upd := [], new := [] }
@[reducible] def a52 : List AK := [AK.d Kd.str, AK.d Kd.str]
@[reducible] def b52 : List BK := []
theorem t52 (xa : ByteArray) (xb : ByteArray) : evFn (Env.withFns E0 [((110 : Nat), w110)]) Tryd.f52 [PM.data Kd.str, PM.data Kd.str, PM.data Kd.bool] (akAV a52 (xa, xb, ())) (bkBs b52 ()) = (d52 xa xb).map e52 := by kernel_rfl
def s52 (C : akT a52 → Bool) (G : akT a52 → ByteArray × ByteArray × Bool) : FSpec := aspec a52 b52 e52 (fun x _ => C x) (fun x _ => G x)
theorem k52 {C : akT a52 → Bool} {G : akT a52 → ByteArray × ByteArray × Bool} (hd : ∀ (xa : ByteArray) (xb : ByteArray), C (xa, xb, ()) = true → (d52 xa xb).val = some (G (xa, xb, ()))) (IO : ItOK Tryd.prog (Env.withFns E0 [((110 : Nat), w110)]) := by exact itOK_none rfl) (L : ∀ c, Tryd.f52.body = some c → LsOK (evI 2) ((Env.withFns E0 [((110 : Nat), w110)]).lend 0) c := by exact fun c _ => LsOK_none rfl c) : SpecOK Tryd.prog E0 52 (s52 C G) :=
  aspec_ok (ak := a52) (bl := b52) (e := e52) (c := fun x _ => C x) (g := fun x _ => G x) (E0 := E0) (E := Env.withFns E0 [((110 : Nat), w110)]) tab (.cons wk110 .nil) rfl rfl hm Tryd.func52 (by kernel_rfl) [PM.data Kd.str, PM.data Kd.str, PM.data Kd.bool] (fun X Y H => by obtain ⟨xa, ⟨xb, _⟩⟩ := X; exact val_of (t52 xa xb) (hd xa xb H)) IO L
abbrev w52 : FSpec := s52 (fun x => decide (ByteArray.size x.2.1 = 1 ∧ ByteArray.size x.1 ≤ 1048576)) fun x => (cutB x.1 (b0 x.2.1), cutA x.1 (b0 x.2.1), hasB x.1 (b0 x.2.1))
theorem wk52 : SpecOK Tryd.prog E0 52 w52 := k52 fun s t H => by
  have H : decide (t.size = 1 ∧ s.size ≤ 1048576) = true := H
  simp only [d52, Tr.val, H, cond_true]
abbrev w30 : FSpec := s30' fun x => (x.1.1, x.1.2.1, x.1.2.2.1, x.1.2.2.2.1, ByteArray.extract x.1.2.2.2.2.1 0 70)
theorem wk30 : SpecOK Tryd.prog E0 30 w30 := k30' fun a b c d s => by
  have e3 : minI (s.size : Int) 70 = ((min s.size 70 : Nat) : Int) := by unfold minI; split <;> omega
  have e4 : s.extract 0 (min s.size 70) = s.extract 0 70 := bl_inj (by
    rw [bl_ext, bl_ext, List.drop_zero, List.drop_zero, ← bl_len]
    rcases Nat.le_total (bl s).length 70 with h | h
    · rw [Nat.min_eq_left h, List.take_length, List.take_of_length_le h]
    · rw [Nat.min_eq_right h])
  show _ = some (a, b, c, d, s.extract 0 70)
  simp only [d30, Tr.val, e3, Int.toNat_natCast, e4, show ((0 : Int) ≤ ((min s.size 70 : Nat) : Int) ∧ ((min s.size 70 : Nat) : Int) ≤ (s.size : Int)) by omega, and_self, decide_true, cond_true]
theorem atoi_rng (s : ByteArray) : (-9223372036854775808 : Int) ≤ (atoiV s).1 ∧ (atoiV s).1 ≤ (9223372036854775807 : Int) := by
  unfold atoiV
  cases h : Lib.atoiAll s.data.toList
  · rename_i v
    dsimp only
    unfold Lib.atoiAll at h
    split at h
    · cases h
    · dsimp only at h
      split at h
      · cases h
      · cases h
      · rename_i u hu
        have := Lib.parseMag_lt hu
        split at h
        · cases h
        · split at h
          · cases h
          · cases h
            split <;> omega
  · dsimp only
    exact ⟨by decide, by decide⟩
  · unfold Lib.atoiSat
    dsimp only
    split <;> exact ⟨by decide, by decide⟩
def numV (s : ByteArray) (q : Bool) : Int × Bool := ((atoiV s).1, (atoiV s).2 && (!q && decide (itoaB (atoiV s).1 = s)))
abbrev w136 : FSpec := s136 (fun x => decide (ByteArray.size x.1.1 ≤ 1048576)) fun x => numV x.1.1 x.1.2.1
theorem wk136 : SpecOK Tryd.prog E0 136 w136 := k136 fun s q H => by
  have H : decide (s.size ≤ 1048576) = true := H
  show _ = some (numV s q)
  unfold numV
  simp only [d136, Tr.val, H, decide_eq_true (atoi_rng s), cond_true]
  cases (atoiV s).2 <;> cases q <;> rfl
end Cm
end Go.Proofs.YtdlbnlbajnafdaaDoor
end
section
set_option linter.unusedVariables false
set_option linter.unusedSimpArgs false
set_option maxRecDepth 20000
set_option maxHeartbeats 4000000
open Go Go.Ev
namespace Go.Proofs.YtdlbnlbajnafdaaDoor
namespace Cm
def esc1 (c : Int) : List Int := bif decide (c = 34) || decide (c = 92) then [92, c] else [c]
def escL (l : List Int) : List Int := l.flatMap esc1
def quoI (l : List Int) : List Int := (34 :: escL l) ++ [34]
def quoB (s : ByteArray) : ByteArray := strOf (quoI (bytesL s))
theorem fold_flat {α β : Type} (f : α → List β) : ∀ (l : List α) (o : List β), l.foldl (fun o c => o ++ f c) o = o ++ l.flatMap f
  | [], o => by simp
  | a :: l, o => by rw [List.foldl_cons, fold_flat f l, List.flatMap_cons, List.append_assoc]
theorem esc_len (c : Int) : (esc1 c).length ≤ 2 := by unfold esc1; cases decide (c = 34) || decide (c = 92) <;> simp
theorem byte_at {s : ByteArray} {i : Nat} (h : i < (bytesL s).length) : (bytesL s)[i] = bt s (i : Int) := by
  rw [← U.bytesL_at (by rw [← bytesL_size]; exact h), getD_el h]
theorem escL_len : ∀ l : List Int, (escL l).length ≤ 2 * l.length
  | [] => Nat.le_refl 0
  | c :: l => by
    have := escL_len l
    have := esc_len c
    unfold escL at *
    rw [List.flatMap_cons, List.length_append, List.length_cons]; omega
def orS (a b : FSpec) : FSpec := { ps := a.ps, g := fun x y => match a.g x y with | some r => some r | none => b.g x y }
theorem or_ok {P : Program} {E : Env} {f : FuncId} {a b : FSpec} (h1 : SpecOK P E f a) (h2 : SpecOK P E f b) : SpecOK P E f (orS a b) := by
  intro F O args bs r hr
  unfold orS at hr
  dsimp only at hr
  split at hr
  · rename_i q h; cases hr; exact h1 F O args bs r h
  · exact h2 F O args bs r hr
namespace Z
def live137 (key : Nat) : Lv :=
  bif Nat.beq key 9996 then { ls := [14] } else
  { ls := [] }
def d137 (xb : Int) (h0_u : Bool) : Tr (Bool × List Int) :=
 Tr.ite true (Tr.ret (true, [xb])) Tr.fail
def e137 (r : Bool × List Int) : FRes := { rs := Slot.av (AV.one Leaf.nili), upd := [Blk.tb ( 143) r.fst [Leaf.srow ( 1)]], new := [Blk.row ( 5) (Kd.int IntKind.u8) r.snd] }
@[reducible] def a137 : List AK := [AK.c (Leaf.ptr (0 : Nat) (0 : Nat)), AK.d (Kd.int IntKind.u8)]
@[reducible] def b137 : List BK := [BK.tb (143 : TypeId) [SK.c Leaf.nils]]
theorem t137 (xb : Int) (h0_u : Bool) : evFn (Env.loops (Env.withFns E0 [((144 : Nat), Z.w144)]) live137 fun (x : Nat) (x_1 : VS) => none) Tryd.f137 [PM.raw] (akAV a137 (xb, ())) (bkBs b137 ((h0_u, ()), ())) = (d137 xb h0_u).map e137 := by kernel_rfl
def s137' (G : akT a137 → bksT b137 → Bool × List Int) : FSpec := aspec0 a137 b137 e137 (G)
theorem k137' {G : akT a137 → bksT b137 → Bool × List Int} (hd : ∀ (xb : Int) (h0_u : Bool), (d137 xb h0_u).val = some (G (xb, ()) ((h0_u, ()), ()))) (IO : ItOK Tryd.prog (Env.loops (Env.withFns E0 [((144 : Nat), Z.w144)]) live137 fun (x : Nat) (x_1 : VS) => none) := by exact itOK_none rfl) (L : ∀ c, Tryd.f137.body = some c → LsOK (evI 2) ((Env.loops (Env.withFns E0 [((144 : Nat), Z.w144)]) live137 fun (x : Nat) (x_1 : VS) => none).lend 1) c := by exact fun c _ => LsOK_none rfl c) : SpecOK Tryd.prog E0 137 (s137' G) :=
  aspec0_ok (ak := a137) (bl := b137) (e := e137) (g := G) (E0 := E0) (E := Env.loops (Env.withFns E0 [((144 : Nat), Z.w144)]) live137 fun (x : Nat) (x_1 : VS) => none) tab (.cons wk144' .nil) rfl rfl hm Tryd.func137 (by kernel_rfl) [PM.raw] (fun X Y => by obtain ⟨xb, _⟩ := X; obtain ⟨⟨h0_u, _⟩, _⟩ := Y; exact val_of (t137 xb h0_u) (hd xb h0_u)) IO L
end Z
abbrev w137 : FSpec := orS Go.Proofs.YtdlbnlbajnafdaaDoor.w137 (Z.s137' fun x _ => (true, [x.1]))
theorem wk137 : SpecOK Tryd.prog E0 137 w137 := or_ok wk137' (Z.k137' fun b u => rfl)
def live76 (key : Nat) : Lv :=
  bif Nat.beq key 20020 then { ls := [9999, 0, 3, 4, 7, 8] } else bif Nat.beq key 40020 then { ls := [21] } else
  bif Nat.beq key 25006 then { ls := [9999, 0, 3, 4, 7, 8, 20] } else bif Nat.beq key 45006 then { ls := [11, 12, 13, 14, 15, 16, 17, 18, 19, 20] } else
  bif Nat.beq key 20009 then { ls := [9999, 0, 3, 7, 8] } else bif Nat.beq key 40009 then { ls := [] } else
  bif Nat.beq key 4 then { ls := [0, 3, 7, 8] } else bif Nat.beq key 1004 then { ls := [3] } else
  bif Nat.beq key 9997 then { ls := [143] } else
  { ls := [] }
abbrev M76 (ls : Nat → VS → Option (Tr (Ex × VS))) : Env := (E0.withFns [(91, w91), (137, w137)]).loops live76 ls
@[reducible] def p76_0 : LP := { n := 29, sl := [.d (Kd.str), .c (Leaf.ptr ( 0) ( 0)), .d (.int .i64), .d (.int .i64)], bl := [(0, .tb 143 [.c (Leaf.srow ( 1))]), (1, .row 5 (Kd.int IntKind.u8))] }
def B76_0 (x0 : ByteArray) (x2 : Int) (x3 : Int) (h0_u : Bool) (h1 : List Int) : Tr (p76_0.T ⊕ (Bool × List Int)) :=
 let v1 : List Int := (List.append h1 [(92 : Int)])
 let v2 : Bool := (decide (List.length h1 + (1 : Nat) ≤ (140737488355328 : Nat)))
 Tr.ite (decide (x3 < x2)) (Tr.ite (inB x3 (ByteArray.size x0)) (Tr.ite (decide (bt x0 x3 = (34 : Int))) (Tr.ite v2 (Tr.ite (inB x3 (ByteArray.size x0)) (Tr.ite (decide (List.length v1 + (1 : Nat) ≤ (140737488355328 : Nat))) (Tr.ret (Sum.inl ((x0, x2, IntKind.wrap IntKind.i64 (x3 + (1 : Int)), ()), (true, ()), List.append v1 [bt x0 x3], ()))) Tr.fail) Tr.fail) Tr.fail) (Tr.ite (inB x3 (ByteArray.size x0)) (Tr.ite (decide (bt x0 x3 = (92 : Int))) (Tr.ite v2 (Tr.ite (inB x3 (ByteArray.size x0)) (Tr.ite (decide (List.length v1 + (1 : Nat) ≤ (140737488355328 : Nat))) (Tr.ret (Sum.inl ((x0, x2, IntKind.wrap IntKind.i64 (x3 + (1 : Int)), ()), (true, ()), List.append v1 [bt x0 x3], ()))) Tr.fail) Tr.fail) Tr.fail) (Tr.ite (inB x3 (ByteArray.size x0)) (Tr.ite v2 (Tr.ret (Sum.inl ((x0, x2, IntKind.wrap IntKind.i64 (x3 + (1 : Int)), ()), (true, ()), List.append h1 [bt x0 x3], ()))) Tr.fail) Tr.fail)) Tr.fail)) Tr.fail) (Tr.ret (Sum.inr (h0_u, h1)))
def X76_0 (r : (Bool × List Int)) : Ex × VS := Prod.mk (Ex.exit ( 0)) { n := 29, v := [Slot.av (AV.one (Leaf.ptr ( 0) ( 0)))], h := [( 0, Blk.tb ( 143) r.fst [Leaf.srow ( 1)]), ( 1, Blk.row ( 5) (Kd.int IntKind.u8) r.snd)] }
def b76_0 : p76_0.T → Tr (p76_0.T ⊕ (Bool × List Int)) := fun ⟨⟨x0, ⟨x2, ⟨x3, _⟩⟩⟩, ⟨⟨h0_u, _⟩, ⟨h1, _⟩⟩⟩ => B76_0 x0 x2 x3 h0_u h1
theorem h76_0 (ls : Nat → VS → Option (Tr (Ex × VS))) (x : p76_0.T) : (evC (evI 2) (lc Tryd.f76 0) (Env.lend (M76 ls) 0) (unV (live76 4) (p76_0.V x))).map (decL 0 (live76 4) (live76 1004)) = (b76_0 x).map (encR p76_0.V X76_0) := by
  obtain ⟨⟨x0, ⟨x2, ⟨x3, _⟩⟩⟩, ⟨⟨h0_u, _⟩, ⟨h1, _⟩⟩⟩ := x; kernel_rfl
theorem c76_0 (x : p76_0.T) : canV 0 (live76 4) (unV (live76 4) (p76_0.V x)) = p76_0.V x := by
  obtain ⟨⟨x0, ⟨x2, ⟨x3, _⟩⟩⟩, ⟨⟨h0_u, _⟩, ⟨h1, _⟩⟩⟩ := x; kernel_rfl
theorem l76_0 {T : p76_0.T → Tr (Bool × List Int)} {ls : Nat → VS → Option (Tr (Ex × VS))} (hls : ∀ x, (Env.lend (M76 ls) 0).ls 4 x = p76_0.ls (fun a => (T a).map X76_0) x) (hS : ∀ x r, (T x).val = some r → Rounds b76_0 x r) : LoopOK (evI 2) (Env.lend (M76 ls) 0) (lc Tryd.f76 0) :=
  loopA 4 (live76 4) (live76 1004) p76_0 b76_0 X76_0 T (by kernel_rfl) rfl rfl hls (h76_0 ls) c76_0 hS
def T76 (x : p76_0.T) : Tr (Bool × List Int) :=
  match x with
  | ⟨⟨s, n, i, _⟩, ⟨u, _⟩, o, _⟩ => .ite (u && decide ((i : Int) = 0 ∧ (n : Int) = (ByteArray.size s : Int) ∧ ByteArray.size s ≤ 1048576 ∧ List.length (α := Int) o ≤ 1)) (.ret (true, List.append (α := Int) o (escL (bytesL s)))) .fail
abbrev E76 : Env := M76 fun key x => bif Nat.beq key 4 then p76_0.ls (fun a => (T76 a).map X76_0) x else none
theorem L76 : LoopOK (evI 2) (E76.lend 0) (lc Tryd.f76 0) := by
  refine l76_0 (T := T76) (fun x => rfl) ?_
  rintro ⟨⟨s, n, i, z⟩, ⟨u, z3⟩, o, z2⟩ r h
  obtain ⟨g1, g2⟩ := pre_val h
  rw [Bool.and_eq_true] at g1
  obtain ⟨g0, g1⟩ := g1
  have g0 : u = true := g0
  subst g0
  obtain ⟨e1, e0, e2, e3⟩ : (i : Int) = 0 ∧ (n : Int) = (s.size : Int) ∧ s.size ≤ 1048576 ∧ o.length ≤ 1 := of_decide_eq_true g1
  subst e1; subst e0
  cases g2
  have hl := bytesL_size s
  have := Rounds.fold0 (B := b76_0) (bytesL s) (fun i o => ((s, (s.size : Int), ((i : Nat) : Int), ()), (true, ()), o, ())) (fun o c => o ++ esc1 c) (fun o => (true, o)) (fun i o => o.length ≤ 2 * i + 1) o (by omega) (fun i o hi hv => ?_) (fun o hv => ?_)
  · rw [fold_flat] at this
    exact this
  · have hi2 : i < s.size := by omega
    have ec := esc_len (bytesL s)[i]
    refine ⟨?_, by rw [List.length_append]; omega⟩
    rw [byte_at hi]
    unfold esc1
    have c1 : o.length + 1 ≤ 140737488355328 := by omega
    have c2 : (o ++ [(92 : Int)]).length + 1 ≤ 140737488355328 := by rw [List.length_append]; show o.length + 1 + 1 ≤ _; omega
    simp only [b76_0, B76_0, Tr.val, inB_nat hi2, c1, c2, List.append_eq, show ((i : Int) < (s.size : Int)) by omega, decide_true, cond_true, wrap64_nat (show i ≤ 1048576 by omega)]
    cases decide (bt s (i : Int) = 34) <;> cases decide (bt s (i : Int) = 92) <;> simp only [Bool.or_true, Bool.or_false, Bool.true_or, cond_true, cond_false, List.append_assoc] <;> rfl
  · simp only [b76_0, B76_0, Tr.val, hl, show ¬ ((s.size : Int) < (s.size : Int)) by omega, decide_false, cond_false]
def d76 (xa : ByteArray) : Tr (ByteArray) :=
 let v1 : List Int := (List.append [(34 : Int)] (escL (bytesL xa)))
 Tr.ite (true && decide ((0 : Int) = (0 : Int) ∧ (↑(ByteArray.size xa) : Int) = (↑(ByteArray.size xa) : Int) ∧ ByteArray.size xa ≤ (1048576 : Nat) ∧ (1 : Nat) ≤ (1 : Nat))) (Tr.ite (decide (List.length v1 + (1 : Nat) ≤ (140737488355328 : Nat))) (Tr.ret (strOf (List.append v1 [(34 : Int)]))) Tr.fail) Tr.fail
def e76 (r : ByteArray) : FRes := { rs := Slot.av (AV.one (Leaf.dat Kd.str r)), upd := [], new := [] }
@[reducible] def a76 : List AK := [AK.d Kd.str]
@[reducible] def b76 : List BK := []
theorem t76 (xa : ByteArray) : evFn (E76) Tryd.f76 [PM.data Kd.str] (akAV a76 (xa, ())) (bkBs b76 ()) = (d76 xa).map e76 := by kernel_rfl
def s76 (C : akT a76 → Bool) (G : akT a76 → ByteArray) : FSpec := aspec a76 b76 e76 (fun x _ => C x) (fun x _ => G x)
theorem k76 {C : akT a76 → Bool} {G : akT a76 → ByteArray} (hd : ∀ (xa : ByteArray), C (xa, ()) = true → (d76 xa).val = some (G (xa, ()))) (IO : ItOK Tryd.prog (E76) := by exact itOK_none rfl) (L : ∀ c, Tryd.f76.body = some c → LsOK (evI 2) ((E76).lend 0) c := by exact fun c _ => LsOK_none rfl c) : SpecOK Tryd.prog E0 76 (s76 C G) :=
  aspec_ok (ak := a76) (bl := b76) (e := e76) (c := fun x _ => C x) (g := fun x _ => G x) (E0 := E0) (E := E76) tab (.cons wk91 (.cons wk137 .nil)) rfl rfl hm Tryd.func76 (by kernel_rfl) [PM.data Kd.str] (fun X Y H => by obtain ⟨xa, _⟩ := X; exact val_of (t76 xa) (hd xa H)) IO L
abbrev w76 : FSpec := s76 (fun x => decide (ByteArray.size x.1 ≤ 1048576)) fun x => quoB x.1
theorem wk76 : SpecOK Tryd.prog E0 76 w76 := by
  refine k76 (fun s H => ?_) (L := ls_ok (lcs := [lc Tryd.f76 0]) (rgs := []) (by kernel_rfl) (by kernel_rfl) L76 trivial)
  have H : s.size ≤ 1048576 := of_decide_eq_true H
  have h1 := escL_len (bytesL s)
  have h2 := bytesL_size s
  show _ = some (quoB s)
  have c1 : ([(34 : Int)] ++ escL (bytesL s)).length + 1 ≤ 140737488355328 := by rw [List.length_append]; show 1 + (escL (bytesL s)).length + 1 ≤ _; omega
  simp only [d76, Tr.val, H, show List.length [(34 : Int)] ≤ 1 by decide, and_self, decide_true, cond_true, List.append_eq, Bool.and_self, c1]
  rfl
@[reducible] def partk : Kd := .pr .str (.pr .bool .un)
def digS : List Int → Int → Bool × Int
  | [], n => (true, n)
  | c :: r, n => bif decide (c < 48) || decide (57 < c) then (false, n) else digS r (10 * n + (c - 48))
def numT (s : ByteArray) (less : Bool) : Int :=
  bif decide (s.size = 0) then 5000 else bif decide (4 < s.size) then 5000 else bif decide (1 < s.size) && decide (bt s 0 = 48) then 5000 else bif less && decide (s = ⟨#[48]⟩) then 5000 else
  bif !(digS (bytesL s) 0).1 then 5000 else bif decide (1000 < (digS (bytesL s) 0).2) then 5000 else bif less then 0 - (digS (bytesL s) 0).2 else (digS (bytesL s) 0).2
def numR (s : ByteArray) (q : Bool) : Int := bif q then 5000 else bif decide (0 < s.size) && decide (bt s 0 = 45) then numT (s.extract 1 s.size) true else numT s false
end Cm
end Go.Proofs.YtdlbnlbajnafdaaDoor
end
section
set_option linter.unusedVariables false
set_option linter.unusedSimpArgs false
set_option maxRecDepth 20000
set_option maxHeartbeats 4000000
open Go Go.Ev
namespace Go.Proofs.YtdlbnlbajnafdaaDoor
namespace Cm
abbrev boxC : BK := .box [.d (.int .i64), .d (.int .i64), .d (.int .i64), .d .bool, .d .str]
def d33 (xa1 : Int) (xa2 : Int) (xa3 : Int) (xa4 : Bool) (xa5 : ByteArray) : Tr (Bool) :=
 let v1 : Bool := (inB xa1 (22 : Nat) && true)
 Tr.ite (decide (xa1 < (1 : Int))) (Tr.ret false) (Tr.ite (decide ((22 : Int) ≤ xa1)) (Tr.ret false) (Tr.ite (!near xa2) (Tr.ret false) (Tr.ite (!near xa3) (Tr.ret false) (Tr.ite (decide ((64 : Int) < (↑(ByteArray.size xa5) : Int))) (Tr.ret false) (Tr.ite (decide (ByteArray.size xa5 ≤ (1048576 : Nat))) (Tr.ite (!Lib.validD xa5.data.toList) (Tr.ret false) (Tr.ite v1 (Tr.ite (!hasB (rget wordk U.wordsL xa1).snd.fst (b0 { data := #[OfNat.ofNat (65 : Nat)] })) (Tr.ite (!decide (xa2 = (0 : Int))) (Tr.ret false) (Tr.ite v1 (Tr.ite (!hasB (rget wordk U.wordsL xa1).snd.fst (b0 { data := #[OfNat.ofNat (66 : Nat)] })) (Tr.ite (!decide (xa3 = (0 : Int))) (Tr.ret false) (Tr.ite v1 (Tr.ite (!hasB (rget wordk U.wordsL xa1).snd.fst (b0 { data := #[OfNat.ofNat (111 : Nat)] })) (Tr.ite xa4 (Tr.ret false) (Tr.ite v1 (Tr.ite (!hasB (rget wordk U.wordsL xa1).snd.fst (b0 { data := #[OfNat.ofNat (116 : Nat)] })) (Tr.ret !!decide (xa5 = { data := #[] })) (Tr.ret true)) Tr.fail)) (Tr.ite v1 (Tr.ite (!hasB (rget wordk U.wordsL xa1).snd.fst (b0 { data := #[OfNat.ofNat (116 : Nat)] })) (Tr.ret !!decide (xa5 = { data := #[] })) (Tr.ret true)) Tr.fail)) Tr.fail)) (Tr.ite v1 (Tr.ite (!hasB (rget wordk U.wordsL xa1).snd.fst (b0 { data := #[OfNat.ofNat (111 : Nat)] })) (Tr.ite xa4 (Tr.ret false) (Tr.ite v1 (Tr.ite (!hasB (rget wordk U.wordsL xa1).snd.fst (b0 { data := #[OfNat.ofNat (116 : Nat)] })) (Tr.ret !!decide (xa5 = { data := #[] })) (Tr.ret true)) Tr.fail)) (Tr.ite v1 (Tr.ite (!hasB (rget wordk U.wordsL xa1).snd.fst (b0 { data := #[OfNat.ofNat (116 : Nat)] })) (Tr.ret !!decide (xa5 = { data := #[] })) (Tr.ret true)) Tr.fail)) Tr.fail)) Tr.fail)) (Tr.ite v1 (Tr.ite (!hasB (rget wordk U.wordsL xa1).snd.fst (b0 { data := #[OfNat.ofNat (66 : Nat)] })) (Tr.ite (!decide (xa3 = (0 : Int))) (Tr.ret false) (Tr.ite v1 (Tr.ite (!hasB (rget wordk U.wordsL xa1).snd.fst (b0 { data := #[OfNat.ofNat (111 : Nat)] })) (Tr.ite xa4 (Tr.ret false) (Tr.ite v1 (Tr.ite (!hasB (rget wordk U.wordsL xa1).snd.fst (b0 { data := #[OfNat.ofNat (116 : Nat)] })) (Tr.ret !!decide (xa5 = { data := #[] })) (Tr.ret true)) Tr.fail)) (Tr.ite v1 (Tr.ite (!hasB (rget wordk U.wordsL xa1).snd.fst (b0 { data := #[OfNat.ofNat (116 : Nat)] })) (Tr.ret !!decide (xa5 = { data := #[] })) (Tr.ret true)) Tr.fail)) Tr.fail)) (Tr.ite v1 (Tr.ite (!hasB (rget wordk U.wordsL xa1).snd.fst (b0 { data := #[OfNat.ofNat (111 : Nat)] })) (Tr.ite xa4 (Tr.ret false) (Tr.ite v1 (Tr.ite (!hasB (rget wordk U.wordsL xa1).snd.fst (b0 { data := #[OfNat.ofNat (116 : Nat)] })) (Tr.ret !!decide (xa5 = { data := #[] })) (Tr.ret true)) Tr.fail)) (Tr.ite v1 (Tr.ite (!hasB (rget wordk U.wordsL xa1).snd.fst (b0 { data := #[OfNat.ofNat (116 : Nat)] })) (Tr.ret !!decide (xa5 = { data := #[] })) (Tr.ret true)) Tr.fail)) Tr.fail)) Tr.fail)) Tr.fail)) Tr.fail)))))
def e33 (r : Bool) : FRes := { rs := Slot.av (AV.one (Leaf.dat Kd.bool r)), upd := [], new := [] }
@[reducible] def a33 : List AK := [AK.d cmdk]
@[reducible] def b33 : List BK := []
theorem t33 (xa1 : Int) (xa2 : Int) (xa3 : Int) (xa4 : Bool) (xa5 : ByteArray) : evFn (Env.withFns E0 [((78 : Nat), w78), ((79 : Nat), w79), ((80 : Nat), w80)]) Tryd.f33 [PM.data Kd.bool] (akAV a33 ((xa1, xa2, xa3, xa4, xa5, ()), ())) (bkBs b33 ()) = (d33 xa1 xa2 xa3 xa4 xa5).map e33 := by kernel_rfl
def s33 (C : akT a33 → Bool) (G : akT a33 → Bool) : FSpec := aspec a33 b33 e33 (fun x _ => C x) (fun x _ => G x)
theorem k33 {C : akT a33 → Bool} {G : akT a33 → Bool} (hd : ∀ (xa1 : Int) (xa2 : Int) (xa3 : Int) (xa4 : Bool) (xa5 : ByteArray), C ((xa1, xa2, xa3, xa4, xa5, ()), ()) = true → (d33 xa1 xa2 xa3 xa4 xa5).val = some (G ((xa1, xa2, xa3, xa4, xa5, ()), ()))) (IO : ItOK Tryd.prog (Env.withFns E0 [((78 : Nat), w78), ((79 : Nat), w79), ((80 : Nat), w80)]) := by exact itOK_none rfl) (L : ∀ c, Tryd.f33.body = some c → LsOK (evI 2) ((Env.withFns E0 [((78 : Nat), w78), ((79 : Nat), w79), ((80 : Nat), w80)]).lend 0) c := by exact fun c _ => LsOK_none rfl c) : SpecOK Tryd.prog E0 33 (s33 C G) :=
  aspec_ok (ak := a33) (bl := b33) (e := e33) (c := fun x _ => C x) (g := fun x _ => G x) (E0 := E0) (E := Env.withFns E0 [((78 : Nat), w78), ((79 : Nat), w79), ((80 : Nat), w80)]) tab (.cons wk78 (.cons wk79 (.cons wk80 .nil))) rfl rfl hm Tryd.func33 (by kernel_rfl) [PM.data Kd.bool] (fun X Y H => by obtain ⟨⟨xa1, ⟨xa2, ⟨xa3, ⟨xa4, ⟨xa5, _⟩⟩⟩⟩⟩, _⟩ := X; exact val_of (t33 xa1 xa2 xa3 xa4 xa5) (hd xa1 xa2 xa3 xa4 xa5 H)) IO L
def hOf (op : Int) : Int := hasL.getD (Int.toNat op) 0
def rightV (op a b : Int) (on : Bool) (t : ByteArray) : Bool :=
  !decide (op < 1) && (!decide (22 ≤ op) && (near a && (near b && (!decide ((64 : Int) < (t.size : Int)) && (Lib.validD (bl t) &&
    ((decide (hOf op = 1) || (decide (hOf op = 2) || decide (a = 0))) && ((decide (hOf op = 2) || decide (b = 0)) && ((decide (hOf op = 3) || !on) && (decide (hOf op = 4) || decide (t = ⟨#[]⟩))))))))))
theorem has_ops : ∀ n : Fin 22, hasB (rget wordk U.wordsL (n.val : Int)).2.1 (b0 ⟨#[65]⟩) = (decide (hOf n.val = 1) || decide (hOf n.val = 2)) ∧ hasB (rget wordk U.wordsL (n.val : Int)).2.1 (b0 ⟨#[66]⟩) = decide (hOf n.val = 2) ∧
    hasB (rget wordk U.wordsL (n.val : Int)).2.1 (b0 ⟨#[111]⟩) = decide (hOf n.val = 3) ∧ hasB (rget wordk U.wordsL (n.val : Int)).2.1 (b0 ⟨#[116]⟩) = decide (hOf n.val = 4) := by decide +kernel
theorem has_op {op : Int} (h : inB op 22 = true) : hasB (rget wordk U.wordsL op).2.1 (b0 ⟨#[65]⟩) = (decide (hOf op = 1) || decide (hOf op = 2)) ∧ hasB (rget wordk U.wordsL op).2.1 (b0 ⟨#[66]⟩) = decide (hOf op = 2) ∧
    hasB (rget wordk U.wordsL op).2.1 (b0 ⟨#[111]⟩) = decide (hOf op = 3) ∧ hasB (rget wordk U.wordsL op).2.1 (b0 ⟨#[116]⟩) = decide (hOf op = 4) := by
  obtain ⟨n, rfl⟩ := Int.eq_ofNat_of_zero_le (inB_iff.1 h).1
  have hn : n < 22 := Int.ofNat_lt.1 (inB_iff.1 h).2
  exact has_ops ⟨n, hn⟩
abbrev w33 : FSpec := s33 (fun x => decide (ByteArray.size x.1.2.2.2.2.1 ≤ 1048576)) fun x => rightV x.1.1 x.1.2.1 x.1.2.2.1 x.1.2.2.2.1 x.1.2.2.2.2.1
theorem wk33 : SpecOK Tryd.prog E0 33 w33 := k33 fun op a b on t H => by
  have H : t.size ≤ 1048576 := of_decide_eq_true H
  show _ = some (rightV op a b on t)
  unfold rightV
  by_cases c1 : op < 1
  · simp only [d33, Tr.val, c1, decide_true, cond_true, Bool.not_true, Bool.false_and]
  by_cases c2 : 22 ≤ op
  · simp only [d33, Tr.val, c1, c2, decide_true, decide_false, cond_true, cond_false, Bool.not_true, Bool.not_false, Bool.false_and, Bool.true_and]
  have hi : inB op 22 = true := inB_iff.2 ⟨by omega, by omega⟩
  obtain ⟨h1, h2, h3, h4⟩ := has_op hi
  have h1 : hasB (rget wordk U.wordsL op).2.1 (b0 { data := #[OfNat.ofNat (65 : Nat)] }) = _ := h1
  have h2 : hasB (rget wordk U.wordsL op).2.1 (b0 { data := #[OfNat.ofNat (66 : Nat)] }) = _ := h2
  have h3 : hasB (rget wordk U.wordsL op).2.1 (b0 { data := #[OfNat.ofNat (111 : Nat)] }) = _ := h3
  have h4 : hasB (rget wordk U.wordsL op).2.1 (b0 { data := #[OfNat.ofNat (116 : Nat)] }) = _ := h4
  simp only [d33, Tr.val, c1, c2, hi, H, h1, h2, h3, h4, decide_true, decide_false, cond_true, cond_false, Bool.not_true, Bool.not_false, Bool.false_and, Bool.true_and, Bool.not_not]
  show _ = some (near a && (near b && (!decide ((64 : Int) < (t.size : Int)) && (Lib.validD t.data.toList && _))))
  cases near a <;> cases near b <;> cases decide ((64 : Int) < (t.size : Int)) <;> cases Lib.validD t.data.toList <;> cases decide (hOf op = 1) <;> cases decide (hOf op = 2) <;> cases decide (a = 0) <;> cases decide (b = 0) <;> first | rfl |
    (cases decide (hOf op = 3) <;> cases on <;> cases decide (hOf op = 4) <;> cases decide (t = ⟨#[]⟩) <;> rfl)
def wordOf (op : Int) : ByteArray := (U.wordsL.getD (Int.toNat op) (⟨#[]⟩, ⟨#[]⟩, ())).1
def sp : ByteArray := ⟨#[32]⟩
def textV (op a b : Int) (on : Bool) (t : ByteArray) : ByteArray :=
  bif decide (hOf op = 1) then wordOf op ++ sp ++ itoaB a else bif decide (hOf op = 2) then wordOf op ++ sp ++ itoaB a ++ sp ++ itoaB b else bif decide (hOf op = 3) then wordOf op ++ sp ++ truth on else
  bif decide (hOf op = 4) then wordOf op ++ sp ++ quoB t else wordOf op
theorem word_le : ∀ n : Fin 22, (wordOf (n.val : Int)).size ≤ 6 := by decide +kernel
theorem word_len {op : Int} (h : inB op 22 = true) : (wordOf op).size ≤ 6 := by
  obtain ⟨n, rfl⟩ := Int.eq_ofNat_of_zero_le (inB_iff.1 h).1
  exact word_le ⟨n, Int.ofNat_lt.1 (inB_iff.1 h).2⟩
theorem near_iff {n : Int} : near n = true ↔ -1000 ≤ n ∧ n ≤ 1000 := by unfold near; rw [Bool.and_eq_true, decide_eq_true_eq, decide_eq_true_eq]
theorem itoa_near : ∀ n : Fin 2001, (itoaB ((n.val : Int) - 1000)).size ≤ 5 := by decide +kernel
theorem itoa_le {n : Int} (h : near n = true) : (itoaB n).size ≤ 5 := by
  obtain ⟨h1, h2⟩ := near_iff.1 h
  have := itoa_near ⟨(n + 1000).toNat, by omega⟩
  rw [show (((n + 1000).toNat : Nat) : Int) - 1000 = n by omega] at this
  exact this
theorem quo_le (t : ByteArray) : (quoB t).size ≤ 2 * t.size + 2 := by
  have h1 := escL_len (bytesL t)
  have h2 := bytesL_size t
  have : (quoB t).size = (quoI (bytesL t)).length := by
    unfold quoB strOf
    show (List.map _ _).toArray.size = _
    simp
  rw [this]
  unfold quoI
  simp
  omega
def partV (a b : Int) (on : Bool) (t : ByteArray) (k : Int) : List ByteArray :=
  bif decide (k = 65) then [itoaB a] else bif decide (k = 66) then [itoaB b] else bif decide (k = 111) then [truth on] else bif decide (k = 116) then [quoB t] else []
def partsV (a b : Int) (on : Bool) (t : ByteArray) (s : ByteArray) : List ByteArray := (bytesL s).flatMap (partV a b on t)
def isHas (s : ByteArray) : Bool := decide (s = ⟨#[]⟩) || (decide (s = ⟨#[65]⟩) || (decide (s = ⟨#[65, 66]⟩) || (decide (s = ⟨#[111]⟩) || decide (s = ⟨#[116]⟩))))
theorem isHas_ops : ∀ n : Fin 22, isHas (rget wordk U.wordsL (n.val : Int)).2.1 = true := by decide +kernel
abbrev G31 : List (Nat × FSpec) := [(33, w33), (51, itoaS), (75, w75), (76, w76), (77, w77)]
theorem AG31 : AllFn Tryd.prog E0 G31 := .cons wk33 (.cons wk51 (.cons wk75 (.cons wk76 (.cons wk77 .nil))))
def live31 (key : Nat) : Lv :=
  bif Nat.beq key 6 then { ls := [1, 5, 20] } else bif Nat.beq key 1006 then { ls := [5] } else
  { ls := [] }
abbrev M31 (ls : Nat → VS → Option (Tr (Ex × VS))) : Env := (E0.withFns G31).loops live31 ls
@[reducible] def p31_0 : LP := { n := 59, sl := [.c (Leaf.ptr ( 0) ( 0)), .c (Leaf.row ( 1)), .c (Leaf.ptr ( 2) ( 0))], bl := [(0, .box [.d (.int .i64), .d (.int .i64), .d (.int .i64), .d (Kd.bool), .d (Kd.str)]), (1, .row 9 (Kd.str)), (2, .sit)] }
def B31_0 (h0_0 : Int) (h0_1 : Int) (h0_2 : Int) (h0_3 : Bool) (h0_4 : ByteArray) (h1 : List ByteArray) (h2_s : ByteArray) (h2_p : Int) : Tr (p31_0.T ⊕ (List ByteArray)) :=
 let v1 : Bool := (decide (h2_p < (↑(ByteArray.size h2_s) : Int)))
 let v2 : Bool := (decide ((List.length h1 + (1 : Nat)) * (16 : Nat) ≤ (140737488355328 : Nat)))
 Tr.ite v1 (Tr.ite v1 (Tr.ite (decide (rnAt h2_s h2_p = (65 : Int))) (Tr.ite (decide ((-9223372036854775808 : Int) ≤ h0_1 ∧ h0_1 ≤ (9223372036854775807 : Int))) (Tr.ite v2 (Tr.ret (Sum.inl ((), (h0_0, h0_1, h0_2, h0_3, h0_4, ()), h1 ++ [itoaB h0_1], (h2_s, nxtP h2_s h2_p, ()), ()))) Tr.fail) Tr.fail) (Tr.ite (decide (rnAt h2_s h2_p = (66 : Int))) (Tr.ite (decide ((-9223372036854775808 : Int) ≤ h0_2 ∧ h0_2 ≤ (9223372036854775807 : Int))) (Tr.ite v2 (Tr.ret (Sum.inl ((), (h0_0, h0_1, h0_2, h0_3, h0_4, ()), h1 ++ [itoaB h0_2], (h2_s, nxtP h2_s h2_p, ()), ()))) Tr.fail) Tr.fail) (Tr.ite (decide (rnAt h2_s h2_p = (111 : Int))) (Tr.ite v2 (Tr.ret (Sum.inl ((), (h0_0, h0_1, h0_2, h0_3, h0_4, ()), h1 ++ [truth h0_3], (h2_s, nxtP h2_s h2_p, ()), ()))) Tr.fail) (Tr.ite (decide (rnAt h2_s h2_p = (116 : Int))) (Tr.ite (decide (ByteArray.size h0_4 ≤ (1048576 : Nat))) (Tr.ite v2 (Tr.ret (Sum.inl ((), (h0_0, h0_1, h0_2, h0_3, h0_4, ()), h1 ++ [quoB h0_4], (h2_s, nxtP h2_s h2_p, ()), ()))) Tr.fail) Tr.fail) (Tr.ret (Sum.inl ((), (h0_0, h0_1, h0_2, h0_3, h0_4, ()), h1, (h2_s, nxtP h2_s h2_p, ()), ()))))))) Tr.fail) (Tr.ret (Sum.inr h1))
def X31_0 (r : (List ByteArray)) : Ex × VS := Prod.mk (Ex.exit ( 0)) { n := 59, v := [Slot.av (AV.one (Leaf.row ( 0)))], h := [( 0, Blk.row ( 9) Kd.str r)] }
def b31_0 : p31_0.T → Tr (p31_0.T ⊕ (List ByteArray)) := fun ⟨_, ⟨⟨h0_0, ⟨h0_1, ⟨h0_2, ⟨h0_3, ⟨h0_4, _⟩⟩⟩⟩⟩, ⟨h1, ⟨⟨h2_s, ⟨h2_p, _⟩⟩, _⟩⟩⟩⟩ => B31_0 h0_0 h0_1 h0_2 h0_3 h0_4 h1 h2_s h2_p
theorem h31_0 (ls : Nat → VS → Option (Tr (Ex × VS))) (x : p31_0.T) : (evC (evI 2) (lc Tryd.f31 0) (Env.lend (M31 ls) 0) (unV (live31 6) (p31_0.V x))).map (decL 0 (live31 6) (live31 1006)) = (b31_0 x).map (encR p31_0.V X31_0) := by
  obtain ⟨_, ⟨⟨h0_0, ⟨h0_1, ⟨h0_2, ⟨h0_3, ⟨h0_4, _⟩⟩⟩⟩⟩, ⟨h1, ⟨⟨h2_s, ⟨h2_p, _⟩⟩, _⟩⟩⟩⟩ := x; kernel_rfl
theorem c31_0 (x : p31_0.T) : canV 0 (live31 6) (unV (live31 6) (p31_0.V x)) = p31_0.V x := by
  obtain ⟨_, ⟨⟨h0_0, ⟨h0_1, ⟨h0_2, ⟨h0_3, ⟨h0_4, _⟩⟩⟩⟩⟩, ⟨h1, ⟨⟨h2_s, ⟨h2_p, _⟩⟩, _⟩⟩⟩⟩ := x; kernel_rfl
theorem l31_0 {T : p31_0.T → Tr (List ByteArray)} {ls : Nat → VS → Option (Tr (Ex × VS))} (hls : ∀ x, (Env.lend (M31 ls) 0).ls 6 x = p31_0.ls (fun a => (T a).map X31_0) x) (hS : ∀ x r, (T x).val = some r → Rounds b31_0 x r) : LoopOK (evI 2) (Env.lend (M31 ls) 0) (lc Tryd.f31 0) :=
  loopA 6 (live31 6) (live31 1006) p31_0 b31_0 X31_0 T (by kernel_rfl) rfl rfl hls (h31_0 ls) c31_0 hS
def T31 (x : p31_0.T) : Tr (List ByteArray) :=
  match x with
  | ⟨_, ⟨op, a, b, on, t, _⟩, out, ⟨s, p, _⟩, _⟩ => .ite (decide ((p : Int) = 0) && (isHas s && (near a && (near b && decide (ByteArray.size t ≤ 1048576 ∧ List.length (α := ByteArray) out ≤ 1)))))
    (.ret (List.append (α := ByteArray) out (partsV a b on t s))) .fail
abbrev E31 : Env := M31 fun key x => bif Nat.beq key 6 then p31_0.ls (fun a => (T31 a).map X31_0) x else none
theorem L31 : LoopOK (evI 2) (E31.lend 0) (lc Tryd.f31 0) := by
  refine l31_0 (T := T31) (fun x => rfl) ?_
  rintro ⟨z0, ⟨op, a, b, on, t, z1⟩, out, ⟨s, p, z2⟩, z3⟩ r h
  obtain ⟨g1, g2⟩ := pre_val h
  simp only [Bool.and_eq_true, decide_eq_true_eq] at g1
  obtain ⟨e1, e2, ha, hb, ht, ho⟩ := g1
  have rng : ∀ x : Int, near x = true → decide (-9223372036854775808 ≤ x ∧ x ≤ 9223372036854775807) = true := fun x h => decide_eq_true (by have := near_iff.1 h; omega)
  subst e1
  cases g2
  have r1 := rng a ha
  have r2 := rng b hb
  have q1 : decide ((out.length + 1) * 16 ≤ 140737488355328) = true := decide_eq_true (by omega)
  have q2 : decide (((out ++ [itoaB a]).length + 1) * 16 ≤ 140737488355328) = true := decide_eq_true (by rw [List.length_append]; show (out.length + 1 + 1) * 16 ≤ _; omega)
  unfold isHas at e2
  simp only [Bool.or_eq_true, decide_eq_true_eq] at e2
  rcases e2 with rfl | rfl | rfl | rfl | rfl
  · refine .exit ?_
    show some _ = some (Sum.inr (out ++ []))
    rw [List.append_nil]
  · refine .step (y := (z0, (op, a, b, on, t, ()), out ++ [itoaB a], (⟨#[65]⟩, 1, ()), ())) ?_ (.exit rfl)
    have k1 : rnAt ⟨#[65]⟩ 0 = 65 := by decide +kernel
    have k2 : nxtP ⟨#[65]⟩ 0 = 1 := by decide +kernel
    have k3 : decide ((0 : Int) < ((⟨#[65]⟩ : ByteArray).size : Int)) = true := rfl
    simp only [b31_0, B31_0, Tr.val, k1, k2, k3, r1, q1, decide_true, cond_true]
  · refine .step (y := (z0, (op, a, b, on, t, ()), out ++ [itoaB a], (⟨#[65, 66]⟩, 1, ()), ())) ?_ (.step (y := (z0, (op, a, b, on, t, ()), out ++ [itoaB a] ++ [itoaB b], (⟨#[65, 66]⟩, 2, ()), ())) ?_ (.exit ?_))
    · have k1 : rnAt ⟨#[65, 66]⟩ 0 = 65 := by decide +kernel
      have k2 : nxtP ⟨#[65, 66]⟩ 0 = 1 := by decide +kernel
      have k3 : decide ((0 : Int) < ((⟨#[65, 66]⟩ : ByteArray).size : Int)) = true := rfl
      simp only [b31_0, B31_0, Tr.val, k1, k2, k3, r1, q1, decide_true, cond_true]
    · have k1 : rnAt ⟨#[65, 66]⟩ 1 = 66 := by decide +kernel
      have k2 : nxtP ⟨#[65, 66]⟩ 1 = 2 := by decide +kernel
      have k3 : decide ((1 : Int) < ((⟨#[65, 66]⟩ : ByteArray).size : Int)) = true := rfl
      simp only [b31_0, B31_0, Tr.val, k1, k2, k3, r2, q2, show ¬ ((66 : Int) = 65) by decide, decide_true, decide_false, cond_true, cond_false]
    · show some (Sum.inr _) = some (Sum.inr (out ++ ([itoaB a] ++ [itoaB b])))
      rw [← List.append_assoc]
  · refine .step (y := (z0, (op, a, b, on, t, ()), out ++ [truth on], (⟨#[111]⟩, 1, ()), ())) ?_ (.exit rfl)
    have k1 : rnAt ⟨#[111]⟩ 0 = 111 := by decide +kernel
    have k2 : nxtP ⟨#[111]⟩ 0 = 1 := by decide +kernel
    have k3 : decide ((0 : Int) < ((⟨#[111]⟩ : ByteArray).size : Int)) = true := rfl
    simp only [b31_0, B31_0, Tr.val, k1, k2, k3, q1, show ¬ ((111 : Int) = 65) by decide, show ¬ ((111 : Int) = 66) by decide, decide_true, decide_false, cond_true, cond_false]
  · refine .step (y := (z0, (op, a, b, on, t, ()), out ++ [quoB t], (⟨#[116]⟩, 1, ()), ())) ?_ (.exit rfl)
    have k1 : rnAt ⟨#[116]⟩ 0 = 116 := by decide +kernel
    have k2 : nxtP ⟨#[116]⟩ 0 = 1 := by decide +kernel
    have k3 : decide ((0 : Int) < ((⟨#[116]⟩ : ByteArray).size : Int)) = true := rfl
    simp only [b31_0, B31_0, Tr.val, k1, k2, k3, q1, ht, show ¬ ((116 : Int) = 65) by decide, show ¬ ((116 : Int) = 66) by decide, show ¬ ((116 : Int) = 111) by decide, decide_true, decide_false, cond_true, cond_false]
def d31 (xa1 : Int) (xa2 : Int) (xa3 : Int) (xa4 : Bool) (xa5 : ByteArray) : Tr (ByteArray × Int) :=
 let v1 : List ByteArray := (List.append [(rget wordk U.wordsL xa1).fst] (partsV xa2 xa3 xa4 xa5 (rget wordk U.wordsL xa1).snd.fst))
 Tr.ite (decide (ByteArray.size xa5 ≤ (1048576 : Nat))) (Tr.ite (!rightV xa1 xa2 xa3 xa4 xa5) (Tr.ret ({ data := #[] }, (1 : Int))) (Tr.ite (inB xa1 (22 : Nat)) (Tr.ite (true && (isHas (rget wordk U.wordsL xa1).snd.fst && (near xa2 && (near xa3 && decide (ByteArray.size xa5 ≤ (1048576 : Nat) ∧ (1 : Nat) ≤ (1 : Nat)))))) (Tr.ite (decide ((1 : Nat) ≤ (1 : Nat) ∧ (1 : Nat) ≤ (1048576 : Nat) ∧ List.length v1 ≤ (1048576 : Nat) ∧ U.sumS v1 + List.length v1 * (1 : Nat) ≤ (140737488355328 : Nat))) (Tr.ret (strOf (U.joinI { data := #[OfNat.ofNat (32 : Nat)] } v1), (0 : Int))) Tr.fail) Tr.fail) Tr.fail)) Tr.fail
def e31 (r : ByteArray × Int) : FRes := { rs := Slot.tup [AV.one (Leaf.dat Kd.str r.fst), AV.one (Leaf.dat (.int .i64) r.snd)], upd := [], new := [] }
@[reducible] def a31 : List AK := [AK.d cmdk]
@[reducible] def b31 : List BK := []
theorem t31 (xa1 : Int) (xa2 : Int) (xa3 : Int) (xa4 : Bool) (xa5 : ByteArray) : evFn (E31) Tryd.f31 [PM.data Kd.str, PM.data (.int .i64)] (akAV a31 ((xa1, xa2, xa3, xa4, xa5, ()), ())) (bkBs b31 ()) = (d31 xa1 xa2 xa3 xa4 xa5).map e31 := by kernel_rfl
def s31 (C : akT a31 → Bool) (G : akT a31 → ByteArray × Int) : FSpec := aspec a31 b31 e31 (fun x _ => C x) (fun x _ => G x)
theorem k31 {C : akT a31 → Bool} {G : akT a31 → ByteArray × Int} (hd : ∀ (xa1 : Int) (xa2 : Int) (xa3 : Int) (xa4 : Bool) (xa5 : ByteArray), C ((xa1, xa2, xa3, xa4, xa5, ()), ()) = true → (d31 xa1 xa2 xa3 xa4 xa5).val = some (G ((xa1, xa2, xa3, xa4, xa5, ()), ()))) (IO : ItOK Tryd.prog (E31) := by exact itOK_none rfl) (L : ∀ c, Tryd.f31.body = some c → LsOK (evI 2) ((E31).lend 0) c := by exact fun c _ => LsOK_none rfl c) : SpecOK Tryd.prog E0 31 (s31 C G) :=
  aspec_ok (ak := a31) (bl := b31) (e := e31) (c := fun x _ => C x) (g := fun x _ => G x) (E0 := E0) (E := E31) tab AG31 rfl rfl hm Tryd.func31 (by kernel_rfl) [PM.data Kd.str, PM.data (.int .i64)] (fun X Y H => by obtain ⟨⟨xa1, ⟨xa2, ⟨xa3, ⟨xa4, ⟨xa5, _⟩⟩⟩⟩⟩, _⟩ := X; exact val_of (t31 xa1 xa2 xa3 xa4 xa5) (hd xa1 xa2 xa3 xa4 xa5 H)) IO L
theorem right_iff {op a b : Int} {on : Bool} {t : ByteArray} (h : rightV op a b on t = true) : inB op 22 = true ∧ 1 ≤ op ∧ near a = true ∧ near b = true ∧ t.size ≤ 64 ∧ Lib.validD (bl t) = true := by
  unfold rightV at h
  rw [Bool.and_eq_true, Bool.and_eq_true, Bool.and_eq_true, Bool.and_eq_true, Bool.and_eq_true, Bool.and_eq_true] at h
  obtain ⟨h1, h2, h3, h4, h5, h6, _⟩ := h
  rw [Bool.not_eq_true', decide_eq_false_iff_not] at h1 h2 h5
  exact ⟨inB_iff.2 ⟨by omega, by omega⟩, by omega, h3, h4, by omega, h6⟩
def hasS (h : Int) : ByteArray := bif decide (h = 1) then ⟨#[65]⟩ else bif decide (h = 2) then ⟨#[65, 66]⟩ else bif decide (h = 3) then ⟨#[111]⟩ else bif decide (h = 4) then ⟨#[116]⟩ else ⟨#[]⟩
theorem has_strs : ∀ n : Fin 22, (rget wordk U.wordsL (n.val : Int)).2.1 = hasS (hOf n.val) ∧ (rget wordk U.wordsL (n.val : Int)).1 = wordOf n.val ∧ (hOf n.val = 0 ∨ hOf n.val = 1 ∨ hOf n.val = 2 ∨ hOf n.val = 3 ∨ hOf n.val = 4) := by decide +kernel
theorem has_str {op : Int} (h : inB op 22 = true) : (rget wordk U.wordsL op).2.1 = hasS (hOf op) ∧ (rget wordk U.wordsL op).1 = wordOf op ∧ (hOf op = 0 ∨ hOf op = 1 ∨ hOf op = 2 ∨ hOf op = 3 ∨ hOf op = 4) := by
  obtain ⟨n, rfl⟩ := Int.eq_ofNat_of_zero_le (inB_iff.1 h).1
  exact has_strs ⟨n, Int.ofNat_lt.1 (inB_iff.1 h).2⟩
theorem join_text {op a b : Int} {on : Bool} {t : ByteArray} (h : inB op 22 = true) : strOf (U.joinI sp (wordOf op :: partsV a b on t (hasS (hOf op)))) = textV op a b on t := by
  obtain ⟨_, _, h3⟩ := has_str h
  unfold textV
  rcases h3 with e | e | e | e | e <;> rw [e]
  · show strOf (bytesL (wordOf op) ++ []) = wordOf op
    rw [List.append_nil, U.strOf_bytes]
  · show strOf (bytesL (wordOf op) ++ ((bytesL sp ++ bytesL (itoaB a)) ++ [])) = wordOf op ++ sp ++ itoaB a
    rw [List.append_nil, U.strOf_app, U.strOf_app, U.strOf_bytes, U.strOf_bytes, U.strOf_bytes, ByteArray.append_assoc]
  · show strOf (bytesL (wordOf op) ++ ((bytesL sp ++ bytesL (itoaB a)) ++ ((bytesL sp ++ bytesL (itoaB b)) ++ []))) = wordOf op ++ sp ++ itoaB a ++ sp ++ itoaB b
    rw [List.append_nil, U.strOf_app, U.strOf_app, U.strOf_app, U.strOf_app, U.strOf_bytes, U.strOf_bytes, U.strOf_bytes, U.strOf_bytes]
    simp only [ByteArray.append_assoc]
  · show strOf (bytesL (wordOf op) ++ ((bytesL sp ++ bytesL (truth on)) ++ [])) = wordOf op ++ sp ++ truth on
    rw [List.append_nil, U.strOf_app, U.strOf_app, U.strOf_bytes, U.strOf_bytes, U.strOf_bytes, ByteArray.append_assoc]
  · show strOf (bytesL (wordOf op) ++ ((bytesL sp ++ bytesL (quoB t)) ++ [])) = wordOf op ++ sp ++ quoB t
    rw [List.append_nil, U.strOf_app, U.strOf_app, U.strOf_bytes, U.strOf_bytes, U.strOf_bytes, ByteArray.append_assoc]
theorem parts_le {op a b : Int} {on : Bool} {t : ByteArray} (h : inB op 22 = true) (ha : near a = true) (hb : near b = true) (ht : t.size ≤ 64) :
    (wordOf op :: partsV a b on t (hasS (hOf op))).length ≤ 3 ∧ U.sumS (wordOf op :: partsV a b on t (hasS (hOf op))) ≤ 1000 := by
  obtain ⟨_, _, h3⟩ := has_str h
  have l0 := word_len h
  have l1 := itoa_le ha
  have l2 := itoa_le hb
  have l3 := quo_le t
  have l4 : (truth on).size ≤ 3 := by cases on <;> decide
  unfold U.sumS
  rcases h3 with e | e | e | e | e <;> rw [e]
  · exact ⟨show 1 ≤ 3 by omega, show (wordOf op).size + 0 ≤ 1000 by omega⟩
  · exact ⟨show 2 ≤ 3 by omega, show (wordOf op).size + ((itoaB a).size + 0) ≤ 1000 by omega⟩
  · exact ⟨show 3 ≤ 3 by omega, show (wordOf op).size + ((itoaB a).size + ((itoaB b).size + 0)) ≤ 1000 by omega⟩
  · exact ⟨show 2 ≤ 3 by omega, show (wordOf op).size + ((truth on).size + 0) ≤ 1000 by omega⟩
  · exact ⟨show 2 ≤ 3 by omega, show (wordOf op).size + ((quoB t).size + 0) ≤ 1000 by omega⟩
def printV (op a b : Int) (on : Bool) (t : ByteArray) : ByteArray × Int := bif rightV op a b on t then (textV op a b on t, 0) else (⟨#[]⟩, 1)
abbrev w31 : FSpec := s31 (fun x => decide (ByteArray.size x.1.2.2.2.2.1 ≤ 1048576)) fun x => printV x.1.1 x.1.2.1 x.1.2.2.1 x.1.2.2.2.1 x.1.2.2.2.2.1
theorem wk31 : SpecOK Tryd.prog E0 31 w31 := by
  refine k31 (fun op a b on t H => ?_) (L := ls_ok (lcs := [lc Tryd.f31 0]) (rgs := []) (by kernel_rfl) (by kernel_rfl) L31 trivial)
  have H : t.size ≤ 1048576 := of_decide_eq_true H
  show _ = some (printV op a b on t)
  unfold printV
  cases hr : rightV op a b on t with
  | false => simp only [d31, Tr.val, H, hr, decide_true, cond_true, cond_false, Bool.not_false]
  | true =>
    obtain ⟨hi, h1, ha, hb, ht, hv⟩ := right_iff hr
    obtain ⟨e1, e2, _⟩ := has_str hi
    obtain ⟨p1, p2⟩ := parts_le (on := on) hi ha hb ht
    have hh : isHas (hasS (hOf op)) = true := by
      obtain ⟨_, _, h3⟩ := has_str hi
      rcases h3 with e | e | e | e | e <;> rw [e] <;> rfl
    have q1 : decide ((wordOf op :: partsV a b on t (hasS (hOf op))).length ≤ 1048576) = true := decide_eq_true (by omega)
    have hs : ({ data := #[OfNat.ofNat (32 : Nat)] } : ByteArray) = sp := rfl
    have hc : (1 : Nat) ≤ 1 ∧ (1 : Nat) ≤ 1048576 ∧ (wordOf op :: partsV a b on t (hasS (hOf op))).length ≤ 1048576 ∧ U.sumS (wordOf op :: partsV a b on t (hasS (hOf op))) + (wordOf op :: partsV a b on t (hasS (hOf op))).length * 1 ≤ 140737488355328 := ⟨by omega, by omega, by omega, by omega⟩
    have hl : List.append [wordOf op] (partsV a b on t (hasS (hOf op))) = wordOf op :: partsV a b on t (hasS (hOf op)) := rfl
    simp only [d31, Tr.val, H, hr, hi, e1, e2, hh, ha, hb, hl, decide_eq_true hc, hs, Nat.le_refl, and_self, decide_true, cond_true, cond_false, Bool.not_true, Bool.and_self]
    rw [join_text hi]
    have fin : ∀ (p : Prop) [Decidable p], p → ∀ x : Option (ByteArray × Int), (bif decide p then x else none) = x := fun p _ hp x => by rw [decide_eq_true hp]; rfl
    exact fin _ ⟨trivial, hc.2⟩ _
end Cm
end Go.Proofs.YtdlbnlbajnafdaaDoor
end
section
set_option linter.unusedVariables false
set_option linter.unusedSimpArgs false
set_option maxRecDepth 20000
set_option maxHeartbeats 4000000
open Go Go.Ev
namespace Go.Proofs.YtdlbnlbajnafdaaDoor
namespace Cm
def quoN : List Int → Option (List Int × List Int)
  | [] => none
  | [c] => bif decide (c = 34) then some ([], []) else none
  | c :: d :: r => bif decide (c = 92) then (quoN r).map (fun x => (d :: x.1, x.2)) else bif decide (c = 34) then some ([], d :: r) else (quoN (d :: r)).map fun x => (c :: x.1, x.2)
def badR (l : List Int) : Bool := match l with | [] => false | c :: _ => !decide (c = 32)
abbrev Part := ByteArray × Bool × Unit
def notB (c : Int) : Bool := !decide (c = 32)
def cutN : Nat → List Int → List Part × Bool
  | 0, _ => ([], true)
  | _ + 1, [] => ([], true)
  | n + 1, c :: r => bif decide (c = 32) then cutN n r else bif decide (c = 34) then
      (match quoN r with | none => ([], false) | some x => bif badR x.2 then ([], false) else ((strOf x.1, true, ()) :: (cutN n x.2).1, (cutN n x.2).2))
    else ((strOf (c :: r.takeWhile notB), false, ()) :: (cutN n (r.dropWhile notB)).1, (cutN n (r.dropWhile notB)).2)
theorem quoN_len : ∀ (n : Nat) (l : List Int) (x : List Int × List Int), l.length ≤ n → quoN l = some x → x.1.length + x.2.length + 1 ≤ l.length
  | 0, [], x, _, h => by cases h
  | 0, _ :: _, _, h, _ => by cases h
  | n + 1, [], x, _, h => by cases h
  | n + 1, [c], x, _, h => by
    unfold quoN at h
    cases hc : decide (c = 34) <;> rw [hc] at h <;> cases h
    exact Nat.le_refl 1
  | n + 1, c :: d :: r, x, hl, h => by
    unfold quoN at h
    simp only [List.length_cons] at hl
    cases h1 : decide (c = 92) with
    | true =>
      rw [h1, cond_true, Option.map_eq_some_iff] at h
      obtain ⟨y, hy, rfl⟩ := h
      have := quoN_len n r y (by omega) hy
      simp only [List.length_cons]; omega
    | false =>
      rw [h1, cond_false] at h
      cases h2 : decide (c = 34) with
      | true =>
        rw [h2, cond_true] at h
        cases h
        simp only [List.length_cons, List.length_nil]; omega
      | false =>
        rw [h2, cond_false, Option.map_eq_some_iff] at h
        obtain ⟨y, hy, rfl⟩ := h
        have := quoN_len n (d :: r) y (by simp only [List.length_cons]; omega) hy
        simp only [List.length_cons] at this ⊢; omega
theorem quoN_suf : ∀ (n : Nat) (l : List Int) (x : List Int × List Int), l.length ≤ n → quoN l = some x → ∃ k, x.2 = l.drop k
  | 0, [], x, _, h => by cases h
  | 0, _ :: _, _, h, _ => by cases h
  | n + 1, [], x, _, h => by cases h
  | n + 1, [c], x, _, h => by
    unfold quoN at h
    cases hc : decide (c = 34) <;> rw [hc] at h <;> cases h
    exact ⟨1, rfl⟩
  | n + 1, c :: d :: r, x, hl, h => by
    unfold quoN at h
    simp only [List.length_cons] at hl
    cases h1 : decide (c = 92) with
    | true =>
      rw [h1, cond_true, Option.map_eq_some_iff] at h
      obtain ⟨y, hy, rfl⟩ := h
      obtain ⟨k, hk⟩ := quoN_suf n r y (by omega) hy
      exact ⟨k + 2, hk⟩
    | false =>
      rw [h1, cond_false] at h
      cases h2 : decide (c = 34) with
      | true =>
        rw [h2, cond_true] at h
        cases h
        exact ⟨1, rfl⟩
      | false =>
        rw [h2, cond_false, Option.map_eq_some_iff] at h
        obtain ⟨y, hy, rfl⟩ := h
        obtain ⟨k, hk⟩ := quoN_suf n (d :: r) y (by simp only [List.length_cons]; omega) hy
        exact ⟨k + 1, hk⟩
theorem dropW_len {α : Type} (p : α → Bool) : ∀ l : List α, (l.dropWhile p).length ≤ l.length
  | [] => Nat.le_refl _
  | a :: l => by
    rw [List.dropWhile_cons]
    split
    · have := dropW_len p l; rw [List.length_cons]; omega
    · exact Nat.le_refl _
theorem cutN_fuel : ∀ (n m : Nat) (l : List Int), l.length ≤ n → l.length ≤ m → cutN n l = cutN m l
  | 0, 0, [], _, _ => rfl
  | 0, _ + 1, [], _, _ => rfl
  | _ + 1, 0, [], _, _ => rfl
  | _ + 1, _ + 1, [], _, _ => rfl
  | n + 1, m + 1, c :: r, hn, hm => by
    simp only [List.length_cons] at hn hm
    unfold cutN
    cases decide (c = 32) with
    | true => exact cutN_fuel n m r (by omega) (by omega)
    | false =>
      cases decide (c = 34) with
      | true =>
        simp only [cond_true, cond_false]
        cases hq : quoN r with
        | none => rfl
        | some x =>
          have := quoN_len _ _ _ (Nat.le_refl _) hq
          simp only []
          rw [cutN_fuel n m x.2 (by omega) (by omega)]
      | false =>
        simp only [cond_false]
        have := dropW_len notB r
        rw [cutN_fuel n m (r.dropWhile notB) (by omega) (by omega)]
def cutV (l : List Int) : List Part × Bool := cutN l.length l
theorem cutV_32 (r : List Int) : cutV (32 :: r) = cutV r := rfl
theorem cutV_q (r : List Int) : cutV (34 :: r) = match quoN r with | none => ([], false) | some x => bif badR x.2 then ([], false) else ((strOf x.1, true, ()) :: (cutV x.2).1, (cutV x.2).2) := by
  show (match quoN r with | none => ([], false) | some x => bif badR x.2 then ([], false) else ((strOf x.1, true, ()) :: (cutN r.length x.2).1, (cutN r.length x.2).2)) = _
  cases hq : quoN r with
  | none => rfl
  | some x =>
    have := quoN_len _ _ _ (Nat.le_refl _) hq
    simp only []
    rw [cutN_fuel r.length x.2.length x.2 (by omega) (Nat.le_refl _)]
    rfl
theorem cutV_p {c : Int} (r : List Int) (h1 : c ≠ 32) (h2 : c ≠ 34) : cutV (c :: r) = ((strOf (c :: r.takeWhile notB), false, ()) :: (cutV (r.dropWhile notB)).1, (cutV (r.dropWhile notB)).2) := by
  show cutN (r.length + 1) (c :: r) = _
  unfold cutN
  rw [decide_eq_false h1, decide_eq_false h2, cond_false, cond_false]
  have := dropW_len notB r
  rw [cutN_fuel r.length (r.dropWhile notB).length (r.dropWhile notB) (by omega) (Nat.le_refl _)]
  rfl
def trimI (l : List Int) : List Int := l.dropWhile fun c => decide (c = 32)
theorem cutV_trim : ∀ l : List Int, cutV (trimI l) = cutV l
  | [] => rfl
  | c :: r => by
    unfold trimI
    rw [List.dropWhile_cons]
    by_cases h : c = 32
    · subst h
      rw [if_pos (by decide), cutV_32]
      exact cutV_trim r
    · rw [if_neg (by rw [decide_eq_false h]; decide)]
theorem strOf_drop (s : ByteArray) (k : Nat) : strOf ((bytesL s).drop k) = s.extract k s.size := by
  refine bl_inj ?_
  rw [bl_ext, ← bl_len, List.take_length]
  unfold strOf bytesL
  show List.map _ _ = _
  rw [← List.map_drop, List.map_map]
  show List.map _ ((bl s).drop k) = _
  conv => rhs; rw [← List.map_id ((bl s).drop k)]
  refine List.map_congr_left fun b _ => ?_
  show UInt8.ofNat ((b.toNat : Int)).toNat = b
  simp
theorem bytes_drop (s : ByteArray) (k : Nat) : bytesL (s.extract k s.size) = (bytesL s).drop k := by
  unfold bytesL
  show List.map _ (bl (s.extract k s.size)) = _
  rw [bl_ext, ← bl_len, List.take_length, List.map_drop]
  rfl
abbrev G67 : List (Nat × FSpec) := [(135, trimLeftS), (52, w52)]
theorem AG67 : AllFn Tryd.prog E0 G67 := .cons wk135 (.cons wk52 .nil)
def live67 (key : Nat) : Lv :=
  bif Nat.beq key 10 then { ls := [0, 4, 8, 9], wd := [⟨8, none, .row 5 (.int .u8)⟩] } else bif Nat.beq key 1010 then { ls := [0, 2, 3, 4] } else
  bif Nat.beq key 3 then { ls := [0, 4], wd := [⟨4, none, .row 113 partk⟩] } else bif Nat.beq key 1003 then { ls := [2, 3, 4] } else
  { ls := [] }
abbrev M67 (ls : Nat → VS → Option (Tr (Ex × VS))) : Env := (E0.withFns G67).loops live67 ls
@[reducible] def p67_0 : LP := { n := 86, sl := [.d (Kd.str), .c (Leaf.row ( 0))], bl := [(0, .row 113 (Kd.pr Kd.str (Kd.pr Kd.bool Kd.un)))] }
@[reducible] def p67_1 : LP := { n := 86, sl := [.d (Kd.str), .c (Leaf.row ( 0)), .c (Leaf.row ( 1)), .d (.int .i64)], bl := [(0, .row 113 (Kd.pr Kd.str (Kd.pr Kd.bool Kd.un))), (1, .row 5 (Kd.int IntKind.u8))] }
def B67_1 (x0 : ByteArray) (x3 : Int) (h0 : List (ByteArray × Bool × Unit)) (h1 : List Int) : Tr (p67_1.T ⊕ (ByteArray × List (ByteArray × Bool × Unit) ⊕ ByteArray × List (ByteArray × Bool × Unit) ⊕ ByteArray × List (ByteArray × Bool × Unit))) :=
 let v1 : Int := (IntKind.wrap IntKind.i64 (x3 + (1 : Int)))
 let v2 : ByteArray := (ByteArray.extract x0 (Int.toNat v1) (ByteArray.size x0))
 let v3 : Int := (bt v2 (0 : Int))
 let v4 : Bool := (decide ((List.length h1 + (1 : Nat)) * (1 : Nat) ≤ (140737488355328 : Nat)))
 Tr.ite (decide (x3 < (↑(ByteArray.size x0) : Int))) (Tr.ite (inB x3 (ByteArray.size x0)) (Tr.ite (decide (bt x0 x3 = (92 : Int))) (Tr.ite (decide (v1 < (↑(ByteArray.size x0) : Int))) (Tr.ite (inB v1 (ByteArray.size x0)) (Tr.ite v4 (Tr.ret (Sum.inl ((x0, IntKind.wrap IntKind.i64 (v1 + (1 : Int)), ()), h0, h1 ++ [bt x0 v1], ()))) Tr.fail) Tr.fail) (Tr.ite (inB x3 (ByteArray.size x0)) (Tr.ite (decide (bt x0 x3 = (34 : Int))) (Tr.ite (decide ((0 : Int) ≤ v1 ∧ v1 ≤ (↑(ByteArray.size x0) : Int))) (Tr.ite (!decide (v2 = { data := #[] })) (Tr.ite (inB (0 : Int) (ByteArray.size v2)) (Tr.ite (!decide (v3 = (32 : Int))) (Tr.ret (Sum.inr (Sum.inl (v2, h0)))) (Tr.ite (decide ((List.length h0 + (1 : Nat)) * (24 : Nat) ≤ (140737488355328 : Nat))) (Tr.ret (Sum.inr (Sum.inr (Sum.inl (v2, h0 ++ [(strOf h1, true, ())]))))) Tr.fail)) Tr.fail) (Tr.ite (decide ((List.length h0 + (1 : Nat)) * (24 : Nat) ≤ (140737488355328 : Nat))) (Tr.ret (Sum.inr (Sum.inr (Sum.inl (v2, h0 ++ [(strOf h1, true, ())]))))) Tr.fail)) Tr.fail) (Tr.ite (inB x3 (ByteArray.size x0)) (Tr.ite v4 (Tr.ret (Sum.inl ((x0, v1, ()), h0, h1 ++ [bt x0 x3], ()))) Tr.fail) Tr.fail)) Tr.fail)) (Tr.ite (inB x3 (ByteArray.size x0)) (Tr.ite (decide (bt x0 x3 = (34 : Int))) (Tr.ite (decide ((0 : Int) ≤ v1 ∧ v1 ≤ (↑(ByteArray.size x0) : Int))) (Tr.ite (!decide (v2 = { data := #[] })) (Tr.ite (inB (0 : Int) (ByteArray.size v2)) (Tr.ite (!decide (v3 = (32 : Int))) (Tr.ret (Sum.inr (Sum.inl (v2, h0)))) (Tr.ite (decide ((List.length h0 + (1 : Nat)) * (24 : Nat) ≤ (140737488355328 : Nat))) (Tr.ret (Sum.inr (Sum.inr (Sum.inl (v2, h0 ++ [(strOf h1, true, ())]))))) Tr.fail)) Tr.fail) (Tr.ite (decide ((List.length h0 + (1 : Nat)) * (24 : Nat) ≤ (140737488355328 : Nat))) (Tr.ret (Sum.inr (Sum.inr (Sum.inl (v2, h0 ++ [(strOf h1, true, ())]))))) Tr.fail)) Tr.fail) (Tr.ite (inB x3 (ByteArray.size x0)) (Tr.ite v4 (Tr.ret (Sum.inl ((x0, v1, ()), h0, h1 ++ [bt x0 x3], ()))) Tr.fail) Tr.fail)) Tr.fail)) Tr.fail) (Tr.ret (Sum.inr (Sum.inr (Sum.inr (x0, h0)))))
def X67_1 : (ByteArray × List (ByteArray × Bool × Unit) ⊕ ByteArray × List (ByteArray × Bool × Unit) ⊕ ByteArray × List (ByteArray × Bool × Unit)) → Ex × VS
  | (.inl r) => Prod.mk Ex.ret { n := 86, v := [Slot.av (AV.one (Leaf.dat Kd.str r.fst)), Slot.av (AV.one Leaf.nils), Slot.av (AV.one (Leaf.kb false)), Slot.av (AV.one (Leaf.row ( 0)))], h := [( 0, Blk.row ( 113) (Kd.pr Kd.str (Kd.pr Kd.bool Kd.un)) r.snd)] }
  | (.inr (.inl r)) => Prod.mk (Ex.exit ( 1)) { n := 86, v := [Slot.av (AV.one (Leaf.dat Kd.str r.fst)), Slot.av (AV.one Leaf.undef), Slot.av (AV.one Leaf.undef), Slot.av (AV.one (Leaf.row ( 0)))], h := [( 0, Blk.row ( 113) (Kd.pr Kd.str (Kd.pr Kd.bool Kd.un)) r.snd)] }
  | (.inr (.inr r)) => Prod.mk (Ex.exit ( 2)) { n := 86, v := [Slot.av (AV.one (Leaf.dat Kd.str r.fst)), Slot.av (AV.one Leaf.undef), Slot.av (AV.one Leaf.undef), Slot.av (AV.one (Leaf.row ( 0)))], h := [( 0, Blk.row ( 113) (Kd.pr Kd.str (Kd.pr Kd.bool Kd.un)) r.snd)] }
def b67_1 : p67_1.T → Tr (p67_1.T ⊕ (ByteArray × List (ByteArray × Bool × Unit) ⊕ ByteArray × List (ByteArray × Bool × Unit) ⊕ ByteArray × List (ByteArray × Bool × Unit))) := fun ⟨⟨x0, ⟨x3, _⟩⟩, ⟨h0, ⟨h1, _⟩⟩⟩ => B67_1 x0 x3 h0 h1
theorem h67_1 (ls : Nat → VS → Option (Tr (Ex × VS))) (x : p67_1.T) : (evC (evI 2) (lc Tryd.f67 1) (Env.lend (M67 ls) 0) (unV (live67 10) (p67_1.V x))).map (decL 0 (live67 10) (live67 1010)) = (b67_1 x).map (encR p67_1.V X67_1) := by
  obtain ⟨⟨x0, ⟨x3, _⟩⟩, ⟨h0, ⟨h1, _⟩⟩⟩ := x; kernel_rfl
theorem c67_1 (x : p67_1.T) : canV 0 (live67 10) (unV (live67 10) (p67_1.V x)) = p67_1.V x := by
  obtain ⟨⟨x0, ⟨x3, _⟩⟩, ⟨h0, ⟨h1, _⟩⟩⟩ := x; kernel_rfl
theorem l67_1 {T : p67_1.T → Tr (ByteArray × List (ByteArray × Bool × Unit) ⊕ ByteArray × List (ByteArray × Bool × Unit) ⊕ ByteArray × List (ByteArray × Bool × Unit))} {ls : Nat → VS → Option (Tr (Ex × VS))} (hls : ∀ x, (Env.lend (M67 ls) 0).ls 10 x = p67_1.ls (fun a => (T a).map X67_1) x) (hS : ∀ x r, (T x).val = some r → Rounds b67_1 x r) : LoopOK (evI 2) (Env.lend (M67 ls) 0) (lc Tryd.f67 1) :=
  loopA 10 (live67 10) (live67 1010) p67_1 b67_1 X67_1 T (by kernel_rfl) rfl rfl hls (h67_1 ls) c67_1 hS
def T67_1 (x : p67_1.T) : Tr (ByteArray × List Part ⊕ ByteArray × List Part ⊕ ByteArray × List Part) :=
  match x with
  | ⟨⟨s, i, _⟩, out, now, _⟩ => .ite (decide ((i : Int) = 1 ∧ List.length (α := Int) now = 0 ∧ ByteArray.size s ≤ 1048576 ∧ List.length (α := Part) out ≤ 1048576))
    (.ite (quoN ((bytesL s).drop 1)).isNone (.ret (.inr (.inr (s, out)))) (.ite (badR ((quoN ((bytesL s).drop 1)).getD ([], [])).2) (.ret (.inl (strOf ((quoN ((bytesL s).drop 1)).getD ([], [])).2, out)))
      (.ret (.inr (.inl (strOf ((quoN ((bytesL s).drop 1)).getD ([], [])).2, List.append (α := Part) out [(strOf ((quoN ((bytesL s).drop 1)).getD ([], [])).1, true, ())]))))))
    .fail
def resQ (s : ByteArray) (out : List Part) (now : List Int) : Option (List Int × List Int) → ByteArray × List Part ⊕ ByteArray × List Part ⊕ ByteArray × List Part
  | none => .inr (.inr (s, out))
  | some x => bif badR x.2 then .inl (strOf x.2, out) else .inr (.inl (strOf x.2, out ++ [(strOf (now ++ x.1), true, ())]))
theorem resQ_some (s : ByteArray) (out : List Part) (now : List Int) (x : List Int × List Int) : resQ s out now (some x) = bif badR x.2 then .inl (strOf x.2, out) else .inr (.inl (strOf x.2, out ++ [(strOf (now ++ x.1), true, ())])) := rfl
theorem resQ_map (s : ByteArray) (out : List Part) (now : List Int) (c : Int) (o : Option (List Int × List Int)) : resQ s out now (o.map fun x => (c :: x.1, x.2)) = resQ s out (now ++ [c]) o := by
  cases o with
  | none => rfl
  | some x => simp only [Option.map_some, resQ, List.append_assoc]; rfl
theorem drop_two {l : List Int} {i : Nat} (h : i + 1 < l.length) : l.drop i = l[i] :: l[i + 1] :: l.drop (i + 2) := by
  rw [List.drop_eq_getElem_cons (by omega), List.drop_eq_getElem_cons h]
theorem R67_1 (s : ByteArray) (hs : s.size ≤ 1048576) (out : List Part) (ho : out.length ≤ 1048576) : ∀ (k i : Nat) (now : List Int), i ≤ s.size → s.size ≤ i + k → now.length ≤ i →
    Rounds b67_1 ((s, (i : Int), ()), out, now, ()) (resQ s out now (quoN ((bytesL s).drop i)))
  | k, i, now, hi, hk, hn => by
    have hl := bytesL_size s
    by_cases h0 : i < s.size
    · obtain ⟨k, rfl⟩ : ∃ m, k = m + 1 := ⟨k - 1, by omega⟩
      have lt : decide ((i : Int) < (s.size : Int)) = true := decide_eq_true (by omega)
      have w : IntKind.wrap IntKind.i64 ((i : Int) + 1) = ((i + 1 : Nat) : Int) := wrap64_nat (by omega)
      have q1 : decide ((now.length + 1) * 1 ≤ 140737488355328) = true := decide_eq_true (by omega)
      have q2 : decide ((out.length + 1) * 24 ≤ 140737488355328) = true := decide_eq_true (by omega)
      have b1 : decide ((0 : Int) ≤ ((i + 1 : Nat) : Int) ∧ ((i + 1 : Nat) : Int) ≤ (s.size : Int)) = true := decide_eq_true (by omega)
      have hi1 : i < (bytesL s).length := by omega
      have quote : ∀ rest : List Int, rest = (bytesL s).drop (i + 1) → (bif !decide (s.extract (i + 1) s.size = ({ data := #[] } : ByteArray)) then bif inB (0 : Int) (s.extract (i + 1) s.size).size then bif !decide (bt (s.extract (i + 1) s.size) 0 = 32) then
            some (Sum.inr (Sum.inl (s.extract (i + 1) s.size, out)) : p67_1.T ⊕ (ByteArray × List Part ⊕ ByteArray × List Part ⊕ ByteArray × List Part))
            else some (Sum.inr (Sum.inr (Sum.inl (s.extract (i + 1) s.size, out ++ [(strOf now, true, ())])))) else none
          else some (Sum.inr (Sum.inr (Sum.inl (s.extract (i + 1) s.size, out ++ [(strOf now, true, ())]))))) = some (Sum.inr (resQ s out now (some ([], rest)))) := by
        intro rest hr
        have e1 : s.extract (i + 1) s.size = strOf rest := by rw [hr, strOf_drop]
        have e2 : bytesL (s.extract (i + 1) s.size) = rest := by rw [bytes_drop, hr]
        rw [resQ_some, List.append_nil, ← e1]
        cases hr0 : rest with
        | nil =>
          have z : (s.extract (i + 1) s.size).size = 0 := by rw [← bytesL_size, e2, hr0]; rfl
          rw [decide_eq_true (ba_nil z)]
          rfl
        | cons c r =>
          have z : (s.extract (i + 1) s.size).size = r.length + 1 := by rw [← bytesL_size, e2, hr0]; rfl
          have b0 : bt (s.extract (i + 1) s.size) 0 = c := by
            have := byte_at (s := s.extract (i + 1) s.size) (i := 0) (by rw [e2, hr0]; simp)
            rw [show ((0 : Nat) : Int) = 0 from rfl] at this
            rw [← this]
            simp only [e2, hr0, List.getElem_cons_zero]
          rw [decide_eq_false (ba_ne (by omega)), show inB (0 : Int) (s.extract (i + 1) s.size).size = true by rw [inB_iff]; omega, b0]
          rw [show badR (([], c :: r) : List Int × List Int).2 = !decide (c = 32) from rfl]
          cases decide (c = 32) <;> rfl
      by_cases h1 : i + 1 < s.size
      · have e := drop_two (l := bytesL s) (i := i) (by omega)
        have lt1 : decide (((i + 1 : Nat) : Int) < (s.size : Int)) = true := decide_eq_true (by omega)
        have w1 : IntKind.wrap IntKind.i64 (((i + 1 : Nat) : Int) + 1) = ((i + 2 : Nat) : Int) := wrap64_nat (by omega)
        rw [e]
        unfold quoN
        rw [byte_at hi1, byte_at (show i + 1 < (bytesL s).length by omega)]
        by_cases c1 : bt s i = 92
        · rw [decide_eq_true c1, cond_true, resQ_map]
          refine .step ?_ (R67_1 s hs out ho k (i + 2) (now ++ [bt s ((i + 1 : Nat) : Int)]) (by omega) (by omega) (by rw [List.length_append]; show now.length + 1 ≤ _; omega))
          simp only [b67_1, B67_1, Tr.val, lt, lt1, w, w1, q1, c1, inB_nat h0, inB_nat h1, decide_true, cond_true]
        · rw [decide_eq_false c1, cond_false]
          by_cases c2 : bt s i = 34
          · rw [decide_eq_true c2, cond_true]
            refine .exit ?_
            have d1 : (bytesL s).drop (i + 1) = bt s ((i + 1 : Nat) : Int) :: (bytesL s).drop (i + 2) := by
              rw [List.drop_eq_getElem_cons (by omega), byte_at (show i + 1 < (bytesL s).length by omega)]
            rw [← d1, ← quote _ rfl]
            simp only [b67_1, B67_1, Tr.val, lt, w, b1, q2, c1, c2, inB_nat h0, Int.toNat_natCast, show ¬ ((34 : Int) = 92) by decide, decide_true, decide_false, cond_true, cond_false]
          · rw [decide_eq_false c2, cond_false, resQ_map]
            have d1 : bt s ((i + 1 : Nat) : Int) :: (bytesL s).drop (i + 2) = (bytesL s).drop (i + 1) := by
              rw [List.drop_eq_getElem_cons (show i + 1 < (bytesL s).length by omega), byte_at (show i + 1 < (bytesL s).length by omega)]
            rw [d1]
            refine .step ?_ (R67_1 s hs out ho k (i + 1) (now ++ [bt s (i : Int)]) (by omega) (by omega) (by rw [List.length_append]; show now.length + 1 ≤ _; omega))
            simp only [b67_1, B67_1, Tr.val, lt, w, q1, c1, c2, inB_nat h0, decide_true, decide_false, cond_true, cond_false]
      · have e : (bytesL s).drop i = [bt s (i : Int)] := by
          rw [List.drop_eq_getElem_cons hi1, byte_at hi1, List.drop_of_length_le (by omega)]
        have lt1 : decide (((i + 1 : Nat) : Int) < (s.size : Int)) = false := decide_eq_false (by omega)
        rw [e]
        unfold quoN
        by_cases c2 : bt s i = 34
        · rw [decide_eq_true c2, cond_true]
          refine .exit ?_
          have d1 : [] = (bytesL s).drop (i + 1) := by rw [List.drop_of_length_le (by omega)]
          rw [← quote _ d1]
          simp only [b67_1, B67_1, Tr.val, lt, w, b1, q2, c2, inB_nat h0, Int.toNat_natCast, show ¬ ((34 : Int) = 92) by decide, decide_true, decide_false, cond_true, cond_false]
        · rw [decide_eq_false c2, cond_false]
          refine .step (y := ((s, ((i + 1 : Nat) : Int), ()), out, now ++ [bt s (i : Int)], ())) ?_ ?_
          · by_cases c1 : bt s i = 92
            · simp only [b67_1, B67_1, Tr.val, lt, lt1, w, q1, c1, inB_nat h0, show ¬ ((92 : Int) = 34) by decide, decide_true, decide_false, cond_true, cond_false]
            · simp only [b67_1, B67_1, Tr.val, lt, w, q1, c1, c2, inB_nat h0, decide_true, decide_false, cond_true, cond_false]
          · have := R67_1 s hs out ho k (i + 1) (now ++ [bt s (i : Int)]) (by omega) (by omega) (by rw [List.length_append]; show now.length + 1 ≤ _; omega)
            rw [List.drop_of_length_le (show (bytesL s).length ≤ i + 1 by omega)] at this
            exact this
    · have e : i = s.size := by omega
      subst e
      rw [List.drop_of_length_le (by omega)]
      refine .exit ?_
      simp only [b67_1, B67_1, Tr.val, show ¬ ((s.size : Int) < (s.size : Int)) by omega, decide_false, cond_false]
      rfl
theorem L67_1 {ls : Nat → VS → Option (Tr (Ex × VS))} (hls : ∀ x, (Env.lend (M67 ls) 0).ls 10 x = p67_1.ls (fun a => (T67_1 a).map X67_1) x) : LoopOK (evI 2) ((M67 ls).lend 0) (lc Tryd.f67 1) := by
  refine l67_1 (T := T67_1) hls ?_
  rintro ⟨⟨s, i, z⟩, out, now, z2⟩ r h
  obtain ⟨g1, g2⟩ := pre_val h
  obtain ⟨e1, e2, e3, e4⟩ : (i : Int) = 1 ∧ now.length = 0 ∧ s.size ≤ 1048576 ∧ out.length ≤ 1048576 := of_decide_eq_true g1
  subst e1
  have e2 : now = [] := List.eq_nil_of_length_eq_zero e2
  subst e2
  by_cases h0 : s.size = 0
  · have e : s = ⟨#[]⟩ := ba_nil h0
    subst e
    cases g2
    refine .exit ?_
    rfl
  · have := R67_1 s e3 out e4 s.size 1 [] (by omega) (by omega) (by simp)
    cases hq : quoN ((bytesL s).drop 1) with
    | none => rw [hq] at g2 this; cases g2; exact this
    | some x =>
      rw [hq] at g2 this
      simp only [Option.isNone_some, Option.getD_some, Tr.val, cond_false] at g2
      rw [resQ_some] at this
      cases hb : badR x.2 <;> rw [hb] at g2 this <;> cases g2 <;> exact this
def B67_0 (x0 : ByteArray) (h0 : List (ByteArray × Bool × Unit)) : Tr (p67_0.T ⊕ (List (ByteArray × Bool × Unit) ⊕ List (ByteArray × Bool × Unit))) :=
 let v1 : Int := (bt x0 (0 : Int))
 let v2 : List Int × List Int := (Option.getD (quoN (List.drop (1 : Nat) (bytesL x0))) ([], []))
 let v3 : List Int := (v2.snd)
 Tr.ite (!decide (x0 = { data := #[] })) (Tr.ite (inB (0 : Int) (ByteArray.size x0)) (Tr.ite (!decide (v1 = (34 : Int))) (Tr.ite (decide ((1 : Nat) = (1 : Nat) ∧ ByteArray.size x0 ≤ (1048576 : Nat))) (Tr.ite (decide ((List.length h0 + (1 : Nat)) * (24 : Nat) ≤ (140737488355328 : Nat))) (Tr.ite true (Tr.ret (Sum.inl (({ data := List.toArray (Lib.trimLeftB (cutA x0 (b0 { data := #[OfNat.ofNat (32 : Nat)] })).data.toList (b0 { data := #[OfNat.ofNat (32 : Nat)] })) }, ()), h0 ++ [(cutB x0 (b0 { data := #[OfNat.ofNat (32 : Nat)] }), false, ())], ()))) Tr.fail) Tr.fail) Tr.fail) (Tr.ite (decide ((1 : Int) = (1 : Int) ∧ (0 : Nat) = (0 : Nat) ∧ ByteArray.size x0 ≤ (1048576 : Nat) ∧ List.length h0 ≤ (1048576 : Nat))) (Tr.ite (Option.isNone (quoN (List.drop (1 : Nat) (bytesL x0)))) (Tr.ret (Sum.inr (Sum.inl h0))) (Tr.ite (badR v3) (Tr.ret (Sum.inr (Sum.inl h0))) (Tr.ite true (Tr.ret (Sum.inl (({ data := List.toArray (Lib.trimLeftB (strOf v3).data.toList (b0 { data := #[OfNat.ofNat (32 : Nat)] })) }, ()), List.append h0 [(strOf v2.fst, true, ())], ()))) Tr.fail))) Tr.fail)) Tr.fail) (Tr.ret (Sum.inr (Sum.inr h0)))
def X67_0 : (List (ByteArray × Bool × Unit) ⊕ List (ByteArray × Bool × Unit)) → Ex × VS
  | (.inl r) => Prod.mk Ex.ret { n := 86, v := [Slot.av (AV.one Leaf.nils), Slot.av (AV.one (Leaf.kb false)), Slot.av (AV.one (Leaf.row ( 0)))], h := [( 0, Blk.row ( 113) (Kd.pr Kd.str (Kd.pr Kd.bool Kd.un)) r)] }
  | (.inr r) => Prod.mk (Ex.exit ( 0)) { n := 86, v := [Slot.av (AV.one Leaf.undef), Slot.av (AV.one Leaf.undef), Slot.av (AV.one (Leaf.row ( 0)))], h := [( 0, Blk.row ( 113) (Kd.pr Kd.str (Kd.pr Kd.bool Kd.un)) r)] }
def b67_0 : p67_0.T → Tr (p67_0.T ⊕ (List (ByteArray × Bool × Unit) ⊕ List (ByteArray × Bool × Unit))) := fun ⟨⟨x0, _⟩, ⟨h0, _⟩⟩ => B67_0 x0 h0
theorem h67_0 (ls : Nat → VS → Option (Tr (Ex × VS))) (x : p67_0.T) : (evC (evI 2) (lc Tryd.f67 0) (Env.lend ((fun L => M67 fun key x => bif Nat.beq key 10 then p67_1.ls (fun a => (T67_1 a).map X67_1) x else L key x) ls) 0) (unV (live67 3) (p67_0.V x))).map (decL 0 (live67 3) (live67 1003)) = (b67_0 x).map (encR p67_0.V X67_0) := by
  obtain ⟨⟨x0, _⟩, ⟨h0, _⟩⟩ := x; kernel_rfl
theorem c67_0 (x : p67_0.T) : canV 0 (live67 3) (unV (live67 3) (p67_0.V x)) = p67_0.V x := by
  obtain ⟨⟨x0, _⟩, ⟨h0, _⟩⟩ := x; kernel_rfl
theorem l67_0 {T : p67_0.T → Tr (List (ByteArray × Bool × Unit) ⊕ List (ByteArray × Bool × Unit))} {ls : Nat → VS → Option (Tr (Ex × VS))} (hls : ∀ x, (Env.lend ((fun L => M67 fun key x => bif Nat.beq key 10 then p67_1.ls (fun a => (T67_1 a).map X67_1) x else L key x) ls) 0).ls 3 x = p67_0.ls (fun a => (T a).map X67_0) x) (hS : ∀ x r, (T x).val = some r → Rounds b67_0 x r) : LoopOK (evI 2) (Env.lend ((fun L => M67 fun key x => bif Nat.beq key 10 then p67_1.ls (fun a => (T67_1 a).map X67_1) x else L key x) ls) 0) (lc Tryd.f67 0) :=
  loopA 3 (live67 3) (live67 1003) p67_0 b67_0 X67_0 T (by kernel_rfl) rfl rfl hls (h67_0 ls) c67_0 hS
theorem drop_map {α β : Type} (f : α → β) (p : β → Bool) : ∀ l : List α, (l.map f).dropWhile p = (l.dropWhile fun a => p (f a)).map f
  | [] => rfl
  | a :: l => by
    rw [List.map_cons, List.dropWhile_cons, List.dropWhile_cons]
    cases p (f a) with
    | true => rw [if_pos rfl, if_pos rfl]; exact drop_map f p l
    | false => rw [if_neg (by decide), if_neg (by decide)]; rfl
theorem take_map {α β : Type} (f : α → β) (p : β → Bool) : ∀ l : List α, (l.map f).takeWhile p = (l.takeWhile fun a => p (f a)).map f
  | [] => rfl
  | a :: l => by
    rw [List.map_cons, List.takeWhile_cons, List.takeWhile_cons]
    cases p (f a) with
    | true => rw [if_pos rfl, if_pos rfl, List.map_cons, take_map f p l]
    | false => rw [if_neg (by decide), if_neg (by decide)]; rfl
theorem byte32 (b : UInt8) : decide (((b.toNat : Nat) : Int) = 32) = (b == 32) := by
  by_cases h : b = 32
  · subst h; rfl
  · have : ¬ ((b.toNat : Int) = 32) := fun e => h (by
      have e2 : b.toNat = 32 := by omega
      exact UInt8.toNat_inj.1 e2)
    rw [decide_eq_false this]
    exact (beq_eq_false_iff_ne.2 h).symm
theorem trim_B (s : ByteArray) : bytesL ⟨(Lib.trimLeftB s.data.toList (b0 { data := #[OfNat.ofNat (32 : Nat)] })).toArray⟩ = trimI (bytesL s) := by
  unfold bytesL trimI Lib.trimLeftB
  rw [drop_map]
  show List.map _ (List.dropWhile _ _) = _
  congr 1
  refine congrArg (fun p => List.dropWhile p s.data.toList) (funext fun b => ?_)
  exact (byte32 b).symm
theorem notB_eq (b : UInt8) : notB (b.toNat : Int) = (b != 32) := by
  unfold notB
  rw [byte32]
  rfl
theorem cutB_L (s : ByteArray) : cutB s (b0 { data := #[OfNat.ofNat (32 : Nat)] }) = strOf ((bytesL s).takeWhile notB) := by
  refine Eq.trans ?_ (congrArg strOf (?_ : bytesL (cutB s 32) = _))
  · rw [U.strOf_bytes]; rfl
  · unfold bytesL
    rw [take_map]
    show List.map _ (List.takeWhile _ _) = _
    congr 1
    exact congrArg (fun p => List.takeWhile p s.data.toList) (funext fun b => (notB_eq b).symm)
theorem cutA_L (s : ByteArray) : bytesL (cutA s (b0 { data := #[OfNat.ofNat (32 : Nat)] })) = ((bytesL s).dropWhile notB).drop 1 := by
  unfold bytesL
  rw [drop_map, ← List.map_drop]
  show List.map _ (List.drop 1 (List.dropWhile _ _)) = _
  congr 2
  exact congrArg (fun p => List.dropWhile p s.data.toList) (funext fun b => (notB_eq b).symm)
theorem dropN_head : ∀ l : List Int, cutV (trimI ((l.dropWhile notB).drop 1)) = cutV (l.dropWhile notB)
  | [] => rfl
  | c :: r => by
    rw [List.dropWhile_cons]
    by_cases h : c = 32
    · subst h
      rw [if_neg (by decide), List.drop_succ_cons, List.drop_zero, cutV_trim, cutV_32]
    · rw [if_pos (by unfold notB; rw [decide_eq_false h]; rfl)]
      exact dropN_head r
theorem trim_trim : ∀ l : List Int, trimI (trimI l) = trimI l
  | [] => rfl
  | c :: r => by
    unfold trimI
    rw [List.dropWhile_cons]
    by_cases h : c = 32
    · subst h
      rw [if_pos (by decide)]
      exact trim_trim r
    · have hd : ¬ ((decide (c = 32)) = true) := by rw [decide_eq_false h]; decide
      rw [if_neg hd, List.dropWhile_cons, if_neg hd]
def T67_0 (x : p67_0.T) : Tr (List Part ⊕ List Part) :=
  match x with
  | ⟨⟨s, _⟩, out, _⟩ => .ite (decide (ByteArray.size s ≤ 1048576 ∧ List.length (α := Part) out = 0) && decide (trimI (bytesL s) = bytesL s))
    (.ite (cutV (bytesL s)).2 (.ret (.inr (cutV (bytesL s)).1)) (.ret (.inl (cutV (bytesL s)).1))) .fail
abbrev E67 : Env := M67 fun key x => bif Nat.beq key 10 then p67_1.ls (fun a => (T67_1 a).map X67_1) x else bif Nat.beq key 3 then p67_0.ls (fun a => (T67_0 a).map X67_0) x else none
theorem R67_0 : ∀ (n : Nat) (s : ByteArray) (out : List Part), s.size ≤ n → out.length + s.size ≤ 1048576 → trimI (bytesL s) = bytesL s →
    Rounds b67_0 ((s, ()), out, ()) (bif (cutV (bytesL s)).2 then .inr (out ++ (cutV (bytesL s)).1) else .inl (out ++ (cutV (bytesL s)).1))
  | n, s, out, hn, hb, ht => by
    have hl := bytesL_size s
    by_cases h0 : s.size = 0
    · have e : s = ⟨#[]⟩ := ba_nil h0
      subst e
      refine .exit ?_
      show _ = some (Sum.inr (Sum.inr (out ++ [])))
      rw [List.append_nil]
      rfl
    · obtain ⟨n, rfl⟩ : ∃ m, n = m + 1 := ⟨n - 1, by omega⟩
      obtain ⟨c, r, hc⟩ : ∃ c r, bytesL s = c :: r := by
        cases h : bytesL s with
        | nil => rw [h] at hl; simp at hl; omega
        | cons c r => exact ⟨c, r, rfl⟩
      have hr : r.length + 1 = s.size := by rw [← hl, hc]; rfl
      have b0' : bt s 0 = c := by
        have := byte_at (s := s) (i := 0) (by omega)
        rw [show ((0 : Nat) : Int) = 0 from rfl] at this
        rw [← this]
        simp only [hc, List.getElem_cons_zero]
      have i0 : inB (0 : Int) s.size = true := by rw [inB_iff]; omega
      have c32 : c ≠ 32 := by
        intro e
        subst e
        rw [hc] at ht
        have h1 := dropW_len (fun c : Int => decide (c = 32)) r
        have := congrArg List.length ht
        unfold trimI at this
        rw [List.dropWhile_cons, if_pos (by decide), List.length_cons] at this
        omega
      have hd1 : (bytesL s).drop 1 = r := by rw [hc]; rfl
      have q2 : decide ((out.length + 1) * 24 ≤ 140737488355328) = true := decide_eq_true (by omega)
      have q3 : decide (out.length ≤ 1048576) = true := decide_eq_true (by omega)
      have hsz : s.size ≤ 1048576 := by omega
      have hol : out.length ≤ 1048576 := by omega
      by_cases c34 : c = 34
      · subst c34
        rw [hc, cutV_q]
        have hx : (b67_0 ((s, ()), out, ())).val = (bif (quoN r).isNone then some (.inr (.inl out)) else bif badR ((quoN r).getD ([], [])).2 then some (.inr (.inl out)) else
            some (.inl ((⟨(Lib.trimLeftB (strOf ((quoN r).getD ([], [])).2).data.toList (b0 { data := #[OfNat.ofNat (32 : Nat)] })).toArray⟩, ()), out ++ [(strOf ((quoN r).getD ([], [])).1, true, ())], ()))) := by
          simp only [b67_0, B67_0, Tr.val, ba_ne h0, i0, b0', hd1, hsz, hol, and_self, decide_true, decide_false, cond_true, cond_false, Bool.not_true, Bool.not_false]
          rfl
        cases hq : quoN r with
        | none =>
          rw [hq] at hx
          refine .exit ?_
          rw [hx]
          show some (Sum.inr (Sum.inl out)) = some (Sum.inr (Sum.inl (out ++ [])))
          rw [List.append_nil]
        | some x =>
          have hxl := quoN_len _ _ _ (Nat.le_refl _) hq
          rw [hq] at hx
          simp only [Option.isNone_some, Option.getD_some, cond_false] at hx
          simp only []
          cases hbad : badR x.2 with
          | true =>
            rw [hbad] at hx
            refine .exit ?_
            rw [hx]
            show some (Sum.inr (Sum.inl out)) = some (Sum.inr (Sum.inl (out ++ [])))
            rw [List.append_nil]
          | false =>
            rw [hbad] at hx
            refine .step hx ?_
            have hby : ∃ k, x.2 = (bytesL s).drop k := by
              obtain ⟨k, hk⟩ := quoN_suf _ _ _ (Nat.le_refl _) hq
              exact ⟨k + 1, by rw [hk, hc, List.drop_succ_cons]⟩
            obtain ⟨k, hk⟩ := hby
            have e1 : bytesL (strOf x.2) = x.2 := by rw [hk, strOf_drop, bytes_drop]
            have e2 := trim_B (strOf x.2)
            rw [e1] at e2
            have e3 := bytesL_size (⟨(Lib.trimLeftB (strOf x.2).data.toList (b0 { data := #[OfNat.ofNat (32 : Nat)] })).toArray⟩ : ByteArray)
            rw [e2] at e3
            have e4 := dropW_len (fun c : Int => decide (c = 32)) x.2
            have e3 : (x.2.dropWhile fun c => decide (c = 32)).length = _ := e3
            have ih := R67_0 n _ (out ++ [(strOf x.1, true, ())]) (by rw [← e3]; omega) (by rw [List.length_append, ← e3]; show out.length + 1 + _ ≤ _; omega) (by rw [e2, trim_trim])
            rw [e2, cutV_trim] at ih
            simp only [List.append_assoc, List.singleton_append] at ih
            exact ih
      · have hcut : strOf ((bytesL s).takeWhile notB) = strOf (c :: r.takeWhile notB) := by
          rw [hc, List.takeWhile_cons, if_pos (by unfold notB; rw [decide_eq_false c32]; rfl)]
        have hdr : (bytesL s).dropWhile notB = r.dropWhile notB := by
          rw [hc, List.dropWhile_cons, if_pos (by unfold notB; rw [decide_eq_false c32]; rfl)]
        have e2 := trim_B (cutA s (b0 { data := #[OfNat.ofNat (32 : Nat)] }))
        rw [cutA_L, hdr] at e2
        have e3 := bytesL_size (⟨(Lib.trimLeftB (cutA s (b0 { data := #[OfNat.ofNat (32 : Nat)] })).data.toList (b0 { data := #[OfNat.ofNat (32 : Nat)] })).toArray⟩ : ByteArray)
        rw [e2] at e3
        have e4 := dropW_len (fun c : Int => decide (c = 32)) ((r.dropWhile notB).drop 1)
        have e5 := dropW_len notB r
        have e6 : ((r.dropWhile notB).drop 1).length ≤ (r.dropWhile notB).length := by rw [List.length_drop]; omega
        have e3 : (((r.dropWhile notB).drop 1).dropWhile fun c => decide (c = 32)).length = _ := e3
        have ih := R67_0 n _ (out ++ [(strOf (c :: r.takeWhile notB), false, ())]) (by rw [← e3]; omega) (by rw [List.length_append, ← e3]; show out.length + 1 + _ ≤ _; omega) (by rw [e2, trim_trim])
        rw [e2, dropN_head] at ih
        rw [hc, cutV_p r c32 c34]
        simp only [List.append_assoc, List.singleton_append] at ih
        refine .step ?_ ih
        simp only [b67_0, B67_0, Tr.val, ba_ne h0, i0, b0', c34, hsz, q2, cutB_L, hcut, and_self, decide_true, decide_false, cond_true, cond_false, Bool.not_true, Bool.not_false]
theorem L67_0 : LoopOK (evI 2) (E67.lend 0) (lc Tryd.f67 0) := by
  refine l67_0 (T := T67_0) (ls := fun key x => bif Nat.beq key 3 then p67_0.ls (fun a => (T67_0 a).map X67_0) x else none) (fun x => rfl) ?_
  rintro ⟨⟨s, z⟩, out, z2⟩ r h
  obtain ⟨g1, g2⟩ := pre_val h
  rw [Bool.and_eq_true] at g1
  obtain ⟨e1, e2⟩ : s.size ≤ 1048576 ∧ out.length = 0 := of_decide_eq_true g1.1
  have e3 : trimI (bytesL s) = bytesL s := of_decide_eq_true g1.2
  have e2 : out = [] := List.eq_nil_of_length_eq_zero e2
  subst e2
  have := R67_0 s.size s [] (Nat.le_refl _) (by simpa using e1) e3
  cases hc : (cutV (bytesL s)).2 <;> rw [hc] at g2 this <;> cases g2 <;> exact this
def d67 (xa : ByteArray) : Tr (List Part × Bool) :=
 let v1 : List Int := (bytesL { data := List.toArray (Lib.trimLeftB xa.data.toList (b0 { data := #[OfNat.ofNat (32 : Nat)] })) })
 let v2 : List Part × Bool := (cutV v1)
 let v3 : List Int := (trimI v1)
 Tr.ite true (Tr.ite (decide (ByteArray.size { data := List.toArray (Lib.trimLeftB xa.data.toList (b0 { data := #[OfNat.ofNat (32 : Nat)] })) } ≤ (1048576 : Nat) ∧ (0 : Nat) = (0 : Nat)) && decide (v3 = v1)) (Tr.ite v2.snd (Tr.ret (v2.fst, true)) (Tr.ret ([], false))) Tr.fail) Tr.fail
def e67 (r : List Part × Bool) : FRes := { rs := Slot.tup [AV.one (Leaf.dat (Kd.sl (Kd.pr Kd.str (Kd.pr Kd.bool Kd.un))) r.fst), AV.one (Leaf.dat Kd.bool r.snd)], upd := [], new := [] }
@[reducible] def a67 : List AK := [AK.d Kd.str]
@[reducible] def b67 : List BK := []
theorem t67 (xa : ByteArray) : evFn (E67) Tryd.f67 [PM.data (Kd.sl partk), PM.data Kd.bool] (akAV a67 (xa, ())) (bkBs b67 ()) = (d67 xa).map e67 := by kernel_rfl
def s67 (C : akT a67 → Bool) (G : akT a67 → List Part × Bool) : FSpec := aspec a67 b67 e67 (fun x _ => C x) (fun x _ => G x)
theorem k67 {C : akT a67 → Bool} {G : akT a67 → List Part × Bool} (hd : ∀ (xa : ByteArray), C (xa, ()) = true → (d67 xa).val = some (G (xa, ()))) (IO : ItOK Tryd.prog (E67) := by exact itOK_none rfl) (L : ∀ c, Tryd.f67.body = some c → LsOK (evI 2) ((E67).lend 0) c := by exact fun c _ => LsOK_none rfl c) : SpecOK Tryd.prog E0 67 (s67 C G) :=
  aspec_ok (ak := a67) (bl := b67) (e := e67) (c := fun x _ => C x) (g := fun x _ => G x) (E0 := E0) (E := E67) tab AG67 rfl rfl hm Tryd.func67 (by kernel_rfl) [PM.data (Kd.sl partk), PM.data Kd.bool] (fun X Y H => by obtain ⟨xa, _⟩ := X; exact val_of (t67 xa) (hd xa H)) IO L
def okV (y : List Part × Bool) : List Part × Bool := bif y.2 then (y.1, true) else ([], false)
abbrev w67 : FSpec := s67 (fun x => decide (ByteArray.size x.1 ≤ 1048576)) fun x => okV (cutV (bytesL x.1))
theorem wk67 : SpecOK Tryd.prog E0 67 w67 := by
  refine k67 (fun s H => ?_) (L := ls_ok (lcs := [lc Tryd.f67 0, lc Tryd.f67 1]) (rgs := []) (by kernel_rfl) (by kernel_rfl) ⟨L67_0, L67_1 (ls := fun key x => bif Nat.beq key 10 then p67_1.ls (fun a => (T67_1 a).map X67_1) x else bif Nat.beq key 3 then p67_0.ls (fun a => (T67_0 a).map X67_0) x else none) (fun x => rfl)⟩ trivial)
  have H : s.size ≤ 1048576 := of_decide_eq_true H
  have e2 := trim_B s
  have e3 := bytesL_size (⟨(Lib.trimLeftB s.data.toList (b0 { data := #[OfNat.ofNat (32 : Nat)] })).toArray⟩ : ByteArray)
  rw [e2] at e3
  have e4 := dropW_len (fun c : Int => decide (c = 32)) (bytesL s)
  have e5 := bytesL_size s
  have e3 : ((bytesL s).dropWhile fun c => decide (c = 32)).length = _ := e3
  have e6 : (⟨(Lib.trimLeftB s.data.toList (b0 { data := #[OfNat.ofNat (32 : Nat)] })).toArray⟩ : ByteArray).size ≤ 1048576 := by rw [← e3]; omega
  show _ = some (okV (cutV (bytesL s)))
  unfold okV
  simp only [d67, Tr.val, e2, e6, trim_trim, cutV_trim, and_self, decide_true, Bool.and_self, cond_true]
  cases (cutV (bytesL s)).2 <;> rfl
end Cm
end Go.Proofs.YtdlbnlbajnafdaaDoor
end
section
set_option linter.unusedVariables false
set_option linter.unusedSimpArgs false
set_option maxRecDepth 20000
set_option maxHeartbeats 4000000
open Go Go.Ev
namespace Go.Proofs.YtdlbnlbajnafdaaDoor
namespace Cm
abbrev G70 : List (Nat × FSpec) := [(136, w136), (75, w75)]
theorem AG70 : AllFn Tryd.prog E0 G70 := .cons wk136 (.cons wk75 .nil)
def d70 (xb : Int) (xc1 : ByteArray) (xc2 : Bool) (h0_0 : Int) (h0_1 : Int) (h0_2 : Int) (h0_3 : Bool) (h0_4 : ByteArray) : Tr (Bool × Int × Int × Int × Bool × ByteArray) :=
 let v1 : Int := ((numV xc1 xc2).fst)
 let v2 : Bool := ((numV xc1 xc2).snd)
 let v3 : Bool := (decide (ByteArray.size xc1 ≤ (1048576 : Nat)))
 let v4 : Bool := (decide (xc1 = { data := #[OfNat.ofNat (111 : Nat), OfNat.ofNat (110 : Nat)] }))
 let v5 : ByteArray := (truth v4)
 Tr.ite (decide (xb = (65 : Int))) (Tr.ite v3 (Tr.ret (v2, h0_0, v1, h0_2, h0_3, h0_4)) Tr.fail) (Tr.ite (decide (xb = (66 : Int))) (Tr.ite v3 (Tr.ret (v2, h0_0, h0_1, v1, h0_3, h0_4)) Tr.fail) (Tr.ite (decide (xb = (111 : Int))) (Tr.ite (!xc2) (Tr.ret (decide (xc1 = v5), h0_0, h0_1, h0_2, v4, h0_4)) (Tr.ret (false, h0_0, h0_1, h0_2, v4, h0_4))) (Tr.ite (decide (xb = (116 : Int))) (Tr.ret (xc2, h0_0, h0_1, h0_2, h0_3, xc1)) (Tr.ret (false, h0_0, h0_1, h0_2, h0_3, h0_4)))))
def e70 (r : Bool × Int × Int × Int × Bool × ByteArray) : FRes := { rs := Slot.av (AV.one (Leaf.dat Kd.bool r.fst)), upd := [Blk.box [Leaf.dat (.int .i64) r.snd.fst, Leaf.dat (.int .i64) r.snd.snd.fst, Leaf.dat (.int .i64) r.snd.snd.snd.fst, Leaf.dat Kd.bool r.snd.snd.snd.snd.fst, Leaf.dat Kd.str r.snd.snd.snd.snd.snd]], new := [] }
@[reducible] def a70 : List AK := [AK.c (Leaf.ptr (0 : Nat) (0 : Nat)), AK.d (Kd.int IntKind.i32), AK.d partk]
@[reducible] def b70 : List BK := [boxC]
theorem t70 (xb : Int) (xc1 : ByteArray) (xc2 : Bool) (h0_0 : Int) (h0_1 : Int) (h0_2 : Int) (h0_3 : Bool) (h0_4 : ByteArray) : evFn (Env.withFns E0 G70) Tryd.f70 [PM.data Kd.bool] (akAV a70 (xb, (xc1, xc2, ()), ())) (bkBs b70 ((h0_0, h0_1, h0_2, h0_3, h0_4, ()), ())) = (d70 xb xc1 xc2 h0_0 h0_1 h0_2 h0_3 h0_4).map e70 := by kernel_rfl
def s70 (C : akT a70 → bksT b70 → Bool) (G : akT a70 → bksT b70 → Bool × Int × Int × Int × Bool × ByteArray) : FSpec := aspec a70 b70 e70 (C) (G)
theorem k70 {C : akT a70 → bksT b70 → Bool} {G : akT a70 → bksT b70 → Bool × Int × Int × Int × Bool × ByteArray} (hd : ∀ (xb : Int) (xc1 : ByteArray) (xc2 : Bool) (h0_0 : Int) (h0_1 : Int) (h0_2 : Int) (h0_3 : Bool) (h0_4 : ByteArray), C (xb, (xc1, xc2, ()), ()) ((h0_0, h0_1, h0_2, h0_3, h0_4, ()), ()) = true → (d70 xb xc1 xc2 h0_0 h0_1 h0_2 h0_3 h0_4).val = some (G (xb, (xc1, xc2, ()), ()) ((h0_0, h0_1, h0_2, h0_3, h0_4, ()), ()))) (IO : ItOK Tryd.prog (Env.withFns E0 G70) := by exact itOK_none rfl) (L : ∀ c, Tryd.f70.body = some c → LsOK (evI 2) ((Env.withFns E0 G70).lend 1) c := by exact fun c _ => LsOK_none rfl c) : SpecOK Tryd.prog E0 70 (s70 C G) :=
  aspec_ok (ak := a70) (bl := b70) (e := e70) (c := C) (g := G) (E0 := E0) (E := Env.withFns E0 G70) tab AG70 rfl rfl hm Tryd.func70 (by kernel_rfl) [PM.data Kd.bool] (fun X Y H => by obtain ⟨xb, ⟨⟨xc1, ⟨xc2, _⟩⟩, _⟩⟩ := X; obtain ⟨⟨h0_0, ⟨h0_1, ⟨h0_2, ⟨h0_3, ⟨h0_4, _⟩⟩⟩⟩⟩, _⟩ := Y; exact val_of (t70 xb xc1 xc2 h0_0 h0_1 h0_2 h0_3 h0_4) (hd xb xc1 xc2 h0_0 h0_1 h0_2 h0_3 h0_4 H)) IO L
def d69 (xa1 : ByteArray) (xa2 : ByteArray) (h0_0 : List (ByteArray × Bool × Unit)) : Tr (Bool × List (ByteArray × Bool × Unit)) :=
 Tr.ite (inB (0 : Int) (List.length h0_0)) (Tr.ite (decide (xa1 = (rget partk h0_0 (0 : Int)).fst)) (Tr.ret (!decide (xa1 = { data := #[] }), h0_0)) (Tr.ret (false, h0_0))) Tr.fail
def e69 (r : Bool × List (ByteArray × Bool × Unit)) : FRes := { rs := Slot.av (AV.one (Leaf.dat Kd.bool r.fst)), upd := [Blk.box [Leaf.dat (Kd.sl (Kd.pr Kd.str (Kd.pr Kd.bool Kd.un))) r.snd]], new := [] }
@[reducible] def a69 : List AK := [AK.d wordk, AK.c (Leaf.ptr (0 : Nat) (0 : Nat))]
@[reducible] def b69 : List BK := [BK.box [SK.d (Kd.sl partk)]]
theorem t69 (xa1 : ByteArray) (xa2 : ByteArray) (h0_0 : List (ByteArray × Bool × Unit)) : evFn (E0) Tryd.f69 [PM.data Kd.bool] (akAV a69 ((xa1, xa2, ()), ())) (bkBs b69 ((h0_0, ()), ())) = (d69 xa1 xa2 h0_0).map e69 := by kernel_rfl
def s69 (C : akT a69 → bksT b69 → Bool) (G : akT a69 → bksT b69 → Bool × List (ByteArray × Bool × Unit)) : FSpec := aspec a69 b69 e69 (C) (G)
theorem k69 {C : akT a69 → bksT b69 → Bool} {G : akT a69 → bksT b69 → Bool × List (ByteArray × Bool × Unit)} (hd : ∀ (xa1 : ByteArray) (xa2 : ByteArray) (h0_0 : List (ByteArray × Bool × Unit)), C ((xa1, xa2, ()), ()) ((h0_0, ()), ()) = true → (d69 xa1 xa2 h0_0).val = some (G ((xa1, xa2, ()), ()) ((h0_0, ()), ()))) (IO : ItOK Tryd.prog (E0) := by exact itOK_none rfl) (L : ∀ c, Tryd.f69.body = some c → LsOK (evI 2) ((E0).lend 1) c := by exact fun c _ => LsOK_none rfl c) : SpecOK Tryd.prog E0 69 (s69 C G) :=
  aspec_ok (ak := a69) (bl := b69) (e := e69) (c := C) (g := G) (E0 := E0) (E := E0) tab .nil rfl rfl hm Tryd.func69 (by kernel_rfl) [PM.data Kd.bool] (fun X Y H => by obtain ⟨⟨xa1, ⟨xa2, _⟩⟩, _⟩ := X; obtain ⟨⟨h0_0, _⟩, _⟩ := Y; exact val_of (t69 xa1 xa2 h0_0) (hd xa1 xa2 h0_0 H)) IO L
abbrev w69 : FSpec := s69 (fun _ y => decide (1 ≤ List.length (α := Part) y.1.1)) fun x y => (decide (x.1.1 = (rget partk y.1.1 (0 : Int)).1) && !decide (x.1.1 = ⟨#[]⟩), y.1.1)
theorem wk69 : SpecOK Tryd.prog E0 69 w69 := k69 fun a b l H => by
  have H : 1 ≤ List.length (α := Part) l := of_decide_eq_true H
  have i0 : inB (0 : Int) (List.length (α := Part) l) = true := by rw [inB_iff]; omega
  simp only [d69, Tr.val, i0, cond_true]
  cases decide (a = (rget partk l (0 : Int)).1) <;> rfl
def live68 (key : Nat) : Lv :=
  bif Nat.beq key 2 then { ls := [0, 1, 7, 8] } else bif Nat.beq key 1002 then { ls := [4] } else
  { ls := [] }
abbrev M68 (ls : Nat → VS → Option (Tr (Ex × VS))) : Env := (E0.withFns [(69, w69)]).loops live68 ls
@[reducible] def p68_0 : LP := { n := 19, sl := [.d (Kd.sl (Kd.pr Kd.str (Kd.pr Kd.str Kd.un))), .c (Leaf.fn ( 69) [0]), .d (.int .i64), .d (.int .i64)], bl := [(0, .box [.d (Kd.sl (Kd.pr Kd.str (Kd.pr Kd.bool Kd.un)))])] }
def B68_0 (x0 : List (ByteArray × ByteArray × Unit)) (x2 : Int) (x3 : Int) (h0_0 : List (ByteArray × Bool × Unit)) : Tr (p68_0.T ⊕ (Int × List (ByteArray × Bool × Unit) ⊕ List (ByteArray × Bool × Unit))) :=
 Tr.ite (decide (x3 < x2)) (Tr.ite (inB x3 (List.length x0)) (Tr.ite (decide ((1 : Nat) ≤ List.length h0_0)) (Tr.ite (decide ((rget (Kd.pr Kd.str (Kd.pr Kd.str Kd.un)) x0 x3).fst = (rget partk h0_0 (0 : Int)).fst) && !decide ((rget (Kd.pr Kd.str (Kd.pr Kd.str Kd.un)) x0 x3).fst = { data := #[] })) (Tr.ret (Sum.inr (Sum.inl (x3, h0_0)))) (Tr.ret (Sum.inl ((x0, x2, IntKind.wrap IntKind.i64 (x3 + (1 : Int)), ()), (h0_0, ()), ())))) Tr.fail) Tr.fail) (Tr.ret (Sum.inr (Sum.inr h0_0)))
def X68_0 : (Int × List (ByteArray × Bool × Unit) ⊕ List (ByteArray × Bool × Unit)) → Ex × VS
  | (.inl r) => Prod.mk Ex.ret { n := 19, v := [Slot.av (AV.one (Leaf.dat (.int .i64) r.fst))], h := [( 0, Blk.box [Leaf.dat (Kd.sl (Kd.pr Kd.str (Kd.pr Kd.bool Kd.un))) r.snd])] }
  | (.inr r) => Prod.mk (Ex.exit ( 0)) { n := 19, v := [Slot.av (AV.one Leaf.undef)], h := [( 0, Blk.box [Leaf.dat (Kd.sl (Kd.pr Kd.str (Kd.pr Kd.bool Kd.un))) r])] }
def b68_0 : p68_0.T → Tr (p68_0.T ⊕ (Int × List (ByteArray × Bool × Unit) ⊕ List (ByteArray × Bool × Unit))) := fun ⟨⟨x0, ⟨x2, ⟨x3, _⟩⟩⟩, ⟨⟨h0_0, _⟩, _⟩⟩ => B68_0 x0 x2 x3 h0_0
theorem h68_0 (ls : Nat → VS → Option (Tr (Ex × VS))) (x : p68_0.T) : (evC (evI 2) (lc Tryd.f68 0) (Env.lend (M68 ls) 1) (unV (live68 2) (p68_0.V x))).map (decL 1 (live68 2) (live68 1002)) = (b68_0 x).map (encR p68_0.V X68_0) := by
  obtain ⟨⟨x0, ⟨x2, ⟨x3, _⟩⟩⟩, ⟨⟨h0_0, _⟩, _⟩⟩ := x; kernel_rfl
theorem c68_0 (x : p68_0.T) : canV 1 (live68 2) (unV (live68 2) (p68_0.V x)) = p68_0.V x := by
  obtain ⟨⟨x0, ⟨x2, ⟨x3, _⟩⟩⟩, ⟨⟨h0_0, _⟩, _⟩⟩ := x; kernel_rfl
theorem l68_0 {T : p68_0.T → Tr (Int × List (ByteArray × Bool × Unit) ⊕ List (ByteArray × Bool × Unit))} {ls : Nat → VS → Option (Tr (Ex × VS))} (hls : ∀ x, (Env.lend (M68 ls) 1).ls 2 x = p68_0.ls (fun a => (T a).map X68_0) x) (hS : ∀ x r, (T x).val = some r → Rounds b68_0 x r) : LoopOK (evI 2) (Env.lend (M68 ls) 1) (lc Tryd.f68 0) :=
  loopA 2 (live68 2) (live68 1002) p68_0 b68_0 X68_0 T (by kernel_rfl) rfl rfl hls (h68_0 ls) c68_0 hS
abbrev Wrd := ByteArray × ByteArray × Unit
def dW : Wrd := (⟨#[]⟩, ⟨#[]⟩, ())
def isW (l : List Wrd) (p : ByteArray) (i : Nat) : Bool := decide ((l.getD i dW).1 = p) && !decide ((l.getD i dW).1 = ⟨#[]⟩)
theorem rgetW (l : List Wrd) (i : Nat) : rget wordk l (i : Int) = l.getD i dW := by rw [rget_nat]; rfl
def T68 (x : p68_0.T) : Tr (Int × List Part ⊕ List Part) :=
  .ite (decide ((x.1.2.1 : Int) = (List.length (α := Wrd) x.1.1 : Int) ∧ (x.1.2.2.1 : Int) = 0 ∧ List.length (α := Wrd) x.1.1 ≤ 1048576 ∧ 1 ≤ List.length (α := Part) x.2.1.1))
    (.ite (findN (isW x.1.1 (rget partk x.2.1.1 (0 : Int)).1) (List.length (α := Wrd) x.1.1) 0).isSome (.ret (.inl ((((findN (isW x.1.1 (rget partk x.2.1.1 (0 : Int)).1) (List.length (α := Wrd) x.1.1) 0).getD 0 : Nat) : Int), x.2.1.1))) (.ret (.inr x.2.1.1))) .fail
abbrev E68 : Env := M68 fun key x => bif Nat.beq key 2 then p68_0.ls (fun a => (T68 a).map X68_0) x else none
theorem L68 : LoopOK (evI 2) (E68.lend 1) (lc Tryd.f68 0) := by
  refine l68_0 (T := T68) (fun x => rfl) ?_
  rintro ⟨⟨l, n, i, z⟩, ⟨g, z1⟩, z2⟩ r h
  obtain ⟨h1, h2⟩ := pre_val h
  obtain ⟨e1, e2, e3, e4⟩ := of_decide_eq_true h1
  dsimp only at e1 e2 e3 e4 h2
  subst e1
  subst e2
  have := Rounds.find (B := b68_0) (N := l.length) (fun i => ((l, (l.length : Int), (i : Int), ()), (g, ()), ())) (isW l (rget partk g (0 : Int)).1) (fun i => .inl ((i : Int), g)) (.inr g) (fun i hi => ?_) ?_
  · cases hf : findN (isW l (rget partk g (0 : Int)).1) l.length 0 <;> simp only [hf, Tr.val, Option.isSome_none, Option.isSome_some, Option.getD_some, cond_true, cond_false, outN] at h2 this <;> cases h2 <;> exact this
  · have e4 : decide (1 ≤ List.length (α := Part) g) = true := decide_eq_true e4
    unfold isW
    simp only [b68_0, B68_0, Tr.val, inB_nat hi, rgetW, e4, show ((i : Int) < (l.length : Int)) by omega, decide_true, cond_true, wrap64_nat (show i ≤ 1048576 by omega)]
    cases decide ((l.getD i dW).1 = (rget partk g (0 : Int)).1) <;> cases decide ((l.getD i dW).1 = ⟨#[]⟩) <;> rfl
  · simp only [b68_0, B68_0, Tr.val, show ¬ ((l.length : Int) < (l.length : Int)) by omega, decide_false, cond_false]
def d68 (xa : List (ByteArray × ByteArray × Unit)) (h0_0 : List (ByteArray × Bool × Unit)) : Tr (Int × List (ByteArray × Bool × Unit)) :=
 let v1 : Int := ((↑(List.length xa) : Int))
 let v2 : Int := ((↑(List.length xa) : Int))
 Tr.ite (decide (v2 = v1 ∧ (0 : Int) = (0 : Int) ∧ List.length xa ≤ (1048576 : Nat) ∧ (1 : Nat) ≤ List.length h0_0)) (Tr.ite (Option.isSome (findN (isW xa (rget partk h0_0 (0 : Int)).fst) (List.length xa) (0 : Nat))) (Tr.ret ((↑(Option.getD (findN (isW xa (rget partk h0_0 (0 : Int)).fst) (List.length xa) (0 : Nat)) (0 : Nat)) : Int), h0_0)) (Tr.ret ((-1 : Int), h0_0))) Tr.fail
def e68 (r : Int × List (ByteArray × Bool × Unit)) : FRes := { rs := Slot.av (AV.one (Leaf.dat (.int .i64) r.fst)), upd := [Blk.box [Leaf.dat (Kd.sl (Kd.pr Kd.str (Kd.pr Kd.bool Kd.un))) r.snd]], new := [] }
@[reducible] def a68 : List AK := [AK.d (Kd.sl wordk), AK.c (Leaf.fn (69 : FuncId) [(0 : Nat)])]
@[reducible] def b68 : List BK := [BK.box [SK.d (Kd.sl partk)]]
theorem t68 (xa : List (ByteArray × ByteArray × Unit)) (h0_0 : List (ByteArray × Bool × Unit)) : evFn (E68) Tryd.f68 [PM.data (.int .i64)] (akAV a68 (xa, ())) (bkBs b68 ((h0_0, ()), ())) = (d68 xa h0_0).map e68 := by kernel_rfl
def s68 (C : akT a68 → bksT b68 → Bool) (G : akT a68 → bksT b68 → Int × List (ByteArray × Bool × Unit)) : FSpec := aspec a68 b68 e68 (C) (G)
theorem k68 {C : akT a68 → bksT b68 → Bool} {G : akT a68 → bksT b68 → Int × List (ByteArray × Bool × Unit)} (hd : ∀ (xa : List (ByteArray × ByteArray × Unit)) (h0_0 : List (ByteArray × Bool × Unit)), C (xa, ()) ((h0_0, ()), ()) = true → (d68 xa h0_0).val = some (G (xa, ()) ((h0_0, ()), ()))) (IO : ItOK Tryd.prog (E68) := by exact itOK_none rfl) (L : ∀ c, Tryd.f68.body = some c → LsOK (evI 2) ((E68).lend 1) c := by exact fun c _ => LsOK_none rfl c) : SpecOK Tryd.prog E0 68 (s68 C G) :=
  aspec_ok (ak := a68) (bl := b68) (e := e68) (c := C) (g := G) (E0 := E0) (E := E68) tab (.cons wk69 .nil) rfl rfl hm Tryd.func68 (by kernel_rfl) [PM.data (.int .i64)] (fun X Y H => by obtain ⟨xa, _⟩ := X; obtain ⟨⟨h0_0, _⟩, _⟩ := Y; exact val_of (t68 xa h0_0) (hd xa h0_0 H)) IO L
abbrev w68 : FSpec := s68 (fun x y => decide (List.length (α := Wrd) x.1 ≤ 1048576 ∧ 1 ≤ List.length (α := Part) y.1.1)) fun x y => (optI' (findN (isW x.1 (rget partk y.1.1 (0 : Int)).1) (List.length (α := Wrd) x.1) 0), y.1.1)
theorem wk68 : SpecOK Tryd.prog E0 68 w68 := by
  refine k68 (fun l g H => ?_) (L := ls_ok (lcs := [lc Tryd.f68 0]) (rgs := []) (by kernel_rfl) (by kernel_rfl) L68 trivial)
  have H : List.length (α := Wrd) l ≤ 1048576 ∧ 1 ≤ List.length (α := Part) g := of_decide_eq_true H
  simp only [d68, Tr.val, H, and_self, decide_true, cond_true]
  cases findN (isW l (rget partk g (0 : Int)).1) l.length 0 <;> rfl
def readV (k : Int) (p : Part) (op a b : Int) (on : Bool) (t : ByteArray) : Bool × Int × Int × Int × Bool × ByteArray :=
  bif decide (k = 65) then ((numV p.1 p.2.1).2, op, (numV p.1 p.2.1).1, b, on, t) else bif decide (k = 66) then ((numV p.1 p.2.1).2, op, a, (numV p.1 p.2.1).1, on, t) else
  bif decide (k = 111) then (!p.2.1 && decide (p.1 = truth (decide (p.1 = ⟨#[111, 110]⟩))), op, a, b, decide (p.1 = ⟨#[111, 110]⟩), t) else bif decide (k = 116) then (p.2.1, op, a, b, on, p.1) else (false, op, a, b, on, t)
abbrev w70 : FSpec := s70 (fun x _ => decide (ByteArray.size x.2.1.1 ≤ 1048576)) fun x y => readV x.1 x.2.1 y.1.1 y.1.2.1 y.1.2.2.1 y.1.2.2.2.1 y.1.2.2.2.2.1
theorem wk70 : SpecOK Tryd.prog E0 70 w70 := k70 fun k s q op a b on t H => by
  have H : decide (s.size ≤ 1048576) = true := H
  show _ = some (readV k (s, q, ()) op a b on t)
  unfold readV
  simp only [d70, Tr.val, H, cond_true]
  cases decide (k = 65) with
  | true => rfl
  | false =>
    cases decide (k = 66) with
    | true => rfl
    | false =>
      cases decide (k = 111) with
      | true => cases q <;> rfl
      | false => cases decide (k = 116) <;> rfl
abbrev G27 : List (Nat × FSpec) := [(67, w67), (68, w68), (70, w70), (33, w33)]
theorem AG27 : AllFn Tryd.prog E0 G27 := .cons wk67 (.cons wk68 (.cons wk70 (.cons wk33 .nil)))
def live27 (key : Nat) : Lv :=
  bif Nat.beq key 13 then { ls := [2, 4, 7, 50] } else bif Nat.beq key 1013 then { ls := [2, 3, 7] } else
  { ls := [] }
abbrev M27 (ls : Nat → VS → Option (Tr (Ex × VS))) : Env := (E0.withFns G27).loops live27 ls
@[reducible] def p27_0 : LP := { n := 69, sl := [.c (Leaf.ptr ( 0) ( 0)), .c (Leaf.ptr ( 1) ( 0)), .c (Leaf.ptr ( 2) ( 0)), .c (Leaf.ptr ( 3) ( 0))], bl := [(0, .box [.d (.int .i64), .d (.int .i64), .d (.int .i64), .d (Kd.bool), .d (Kd.str)]), (1, .box [.d (Kd.sl (Kd.pr Kd.str (Kd.pr Kd.bool Kd.un)))]), (2, .box [.d (.int .i64), .d (.int .i64), .d (.int .i64), .d (Kd.bool), .d (Kd.str)]), (3, .sit)] }
def B27_0 (h0_0 : Int) (h0_1 : Int) (h0_2 : Int) (h0_3 : Bool) (h0_4 : ByteArray) (h1_0 : List (ByteArray × Bool × Unit)) (h2_0 : Int) (h2_1 : Int) (h2_2 : Int) (h2_3 : Bool) (h2_4 : ByteArray) (h3_s : ByteArray) (h3_p : Int) : Tr (p27_0.T ⊕ (Int × Int × Int × Int × Bool × ByteArray × Int × Int × Int × Bool × ByteArray ⊕ Int × Int × Int × Bool × ByteArray × Int × Int × Int × Bool × ByteArray)) :=
 let v1 : Int := (IntKind.wrap IntKind.i64 ((1 : Int) + h3_p))
 let v2 : Bool := (decide (h3_p < (↑(ByteArray.size h3_s) : Int)))
 let v3 : Bool × Int × Int × Int × Bool × ByteArray := (readV (rnAt h3_s h3_p) (rget (Kd.pr Kd.str (Kd.pr Kd.bool Kd.un)) h1_0 v1) h2_0 h2_1 h2_2 h2_3 h2_4)
 let v4 : Int × Int × Int × Bool × ByteArray := (v3.snd)
 let v5 : Int × Int × Bool × ByteArray := (v4.snd)
 let v6 : Int := (v4.fst)
 let v7 : Int × Bool × ByteArray := (v5.snd)
 let v8 : Int := (v5.fst)
 let v9 : Bool × ByteArray := (v7.snd)
 let v10 : Int := (v7.fst)
 let v11 : Bool := (v9.fst)
 let v12 : ByteArray := (v9.snd)
 Tr.ite v2 (Tr.ite v2 (Tr.ite v2 (Tr.ite (inB v1 (List.length h1_0)) (Tr.ite (decide (ByteArray.size (rget (Kd.pr Kd.str (Kd.pr Kd.bool Kd.un)) h1_0 v1).fst ≤ (1048576 : Nat))) (Tr.ite (!v3.fst) (Tr.ret (Sum.inr (Sum.inl ((4 : Int), (0 : Int), (0 : Int), (0 : Int), false, ByteArray.empty, v6, v8, v10, v11, v12)))) (Tr.ret (Sum.inl ((), (h0_0, h0_1, h0_2, h0_3, h0_4, ()), (h1_0, ()), (v6, v8, v10, v11, v12, ()), (h3_s, nxtP h3_s h3_p, ()), ())))) Tr.fail) Tr.fail) Tr.fail) Tr.fail) (Tr.ret (Sum.inr (Sum.inr (h0_0, h0_1, h0_2, h0_3, h0_4, h2_0, h2_1, h2_2, h2_3, h2_4))))
def X27_0 : (Int × Int × Int × Int × Bool × ByteArray × Int × Int × Int × Bool × ByteArray ⊕ Int × Int × Int × Bool × ByteArray × Int × Int × Int × Bool × ByteArray) → Ex × VS
  | (.inl r) => Prod.mk Ex.ret { n := 69, v := [Slot.av (AV.one (Leaf.ptr ( 0) ( 0))), Slot.av (AV.one (Leaf.dat (.int .i64) r.fst)), Slot.av (AV.one (Leaf.ptr ( 1) ( 0)))], h := [( 0, Blk.box [Leaf.dat (.int .i64) r.snd.fst, Leaf.dat (.int .i64) r.snd.snd.fst, Leaf.dat (.int .i64) r.snd.snd.snd.fst, Leaf.dat Kd.bool r.snd.snd.snd.snd.fst, Leaf.dat Kd.str r.snd.snd.snd.snd.snd.fst]), ( 1, Blk.box [Leaf.dat (.int .i64) r.snd.snd.snd.snd.snd.snd.fst, Leaf.dat (.int .i64) r.snd.snd.snd.snd.snd.snd.snd.fst, Leaf.dat (.int .i64) r.snd.snd.snd.snd.snd.snd.snd.snd.fst, Leaf.dat Kd.bool r.snd.snd.snd.snd.snd.snd.snd.snd.snd.fst, Leaf.dat Kd.str r.snd.snd.snd.snd.snd.snd.snd.snd.snd.snd])] }
  | (.inr r) => Prod.mk (Ex.exit ( 0)) { n := 69, v := [Slot.av (AV.one (Leaf.ptr ( 0) ( 0))), Slot.av (AV.one Leaf.undef), Slot.av (AV.one (Leaf.ptr ( 1) ( 0)))], h := [( 0, Blk.box [Leaf.dat (.int .i64) r.fst, Leaf.dat (.int .i64) r.snd.fst, Leaf.dat (.int .i64) r.snd.snd.fst, Leaf.dat Kd.bool r.snd.snd.snd.fst, Leaf.dat Kd.str r.snd.snd.snd.snd.fst]), ( 1, Blk.box [Leaf.dat (.int .i64) r.snd.snd.snd.snd.snd.fst, Leaf.dat (.int .i64) r.snd.snd.snd.snd.snd.snd.fst, Leaf.dat (.int .i64) r.snd.snd.snd.snd.snd.snd.snd.fst, Leaf.dat Kd.bool r.snd.snd.snd.snd.snd.snd.snd.snd.fst, Leaf.dat Kd.str r.snd.snd.snd.snd.snd.snd.snd.snd.snd])] }
def b27_0 : p27_0.T → Tr (p27_0.T ⊕ (Int × Int × Int × Int × Bool × ByteArray × Int × Int × Int × Bool × ByteArray ⊕ Int × Int × Int × Bool × ByteArray × Int × Int × Int × Bool × ByteArray)) := fun ⟨_, ⟨⟨h0_0, ⟨h0_1, ⟨h0_2, ⟨h0_3, ⟨h0_4, _⟩⟩⟩⟩⟩, ⟨⟨h1_0, _⟩, ⟨⟨h2_0, ⟨h2_1, ⟨h2_2, ⟨h2_3, ⟨h2_4, _⟩⟩⟩⟩⟩, ⟨⟨h3_s, ⟨h3_p, _⟩⟩, _⟩⟩⟩⟩⟩ => B27_0 h0_0 h0_1 h0_2 h0_3 h0_4 h1_0 h2_0 h2_1 h2_2 h2_3 h2_4 h3_s h3_p
theorem h27_0 (ls : Nat → VS → Option (Tr (Ex × VS))) (x : p27_0.T) : (evC (evI 2) (lc Tryd.f27 0) (Env.lend (M27 ls) 0) (unV (live27 13) (p27_0.V x))).map (decL 0 (live27 13) (live27 1013)) = (b27_0 x).map (encR p27_0.V X27_0) := by
  obtain ⟨_, ⟨⟨h0_0, ⟨h0_1, ⟨h0_2, ⟨h0_3, ⟨h0_4, _⟩⟩⟩⟩⟩, ⟨⟨h1_0, _⟩, ⟨⟨h2_0, ⟨h2_1, ⟨h2_2, ⟨h2_3, ⟨h2_4, _⟩⟩⟩⟩⟩, ⟨⟨h3_s, ⟨h3_p, _⟩⟩, _⟩⟩⟩⟩⟩ := x; kernel_rfl
theorem c27_0 (x : p27_0.T) : canV 0 (live27 13) (unV (live27 13) (p27_0.V x)) = p27_0.V x := by
  obtain ⟨_, ⟨⟨h0_0, ⟨h0_1, ⟨h0_2, ⟨h0_3, ⟨h0_4, _⟩⟩⟩⟩⟩, ⟨⟨h1_0, _⟩, ⟨⟨h2_0, ⟨h2_1, ⟨h2_2, ⟨h2_3, ⟨h2_4, _⟩⟩⟩⟩⟩, ⟨⟨h3_s, ⟨h3_p, _⟩⟩, _⟩⟩⟩⟩⟩ := x; kernel_rfl
theorem l27_0 {T : p27_0.T → Tr (Int × Int × Int × Int × Bool × ByteArray × Int × Int × Int × Bool × ByteArray ⊕ Int × Int × Int × Bool × ByteArray × Int × Int × Int × Bool × ByteArray)} {ls : Nat → VS → Option (Tr (Ex × VS))} (hls : ∀ x, (Env.lend (M27 ls) 0).ls 13 x = p27_0.ls (fun a => (T a).map X27_0) x) (hS : ∀ x r, (T x).val = some r → Rounds b27_0 x r) : LoopOK (evI 2) (Env.lend (M27 ls) 0) (lc Tryd.f27 0) :=
  loopA 13 (live27 13) (live27 1013) p27_0 b27_0 X27_0 T (by kernel_rfl) rfl rfl hls (h27_0 ls) c27_0 hS
def readC (k : Int) (p : Part) (c : C5) : Bool × C5 := readV k p c.1 c.2.1 c.2.2.1 c.2.2.2.1 c.2.2.2.2
def pD : Part := (ByteArray.empty, false, ())
def readsI : List Int → List Part → Nat → C5 → Bool × C5
  | [], _, _, c => (true, c)
  | k :: r, l, i, c => bif (readC k (l.getD i pD) c).1 then readsI r l (i + 1) (readC k (l.getD i pD) c).2 else (false, (readC k (l.getD i pD) c).2)
theorem rgetP (l : List Part) (i : Nat) : rget partk l (i : Int) = l.getD i pD := by rw [rget_nat]; rfl
def smallP (l : List Part) : Bool := l.all fun p => decide (p.1.size ≤ 1048576)
def T27 (x : p27_0.T) : Tr (Int × Int × Int × Int × Bool × ByteArray × Int × Int × Int × Bool × ByteArray ⊕ Int × Int × Int × Bool × ByteArray × Int × Int × Int × Bool × ByteArray) :=
  match x with
  | ⟨_, ⟨o0, o1, o2, o3, o4, _⟩, ⟨l, _⟩, ⟨op, a, b, on, t, _⟩, ⟨s, p, _⟩, _⟩ =>
    .ite (decide ((p : Int) = 0 ∧ List.length (α := Part) l = 1 + ByteArray.size s ∧ List.length (α := Part) l ≤ 1048576) && (isHas s && smallP l))
      (.ite (readsI (bytesL s) l 1 (op, a, b, on, t)).1 (.ret (.inr (o0, o1, o2, o3, o4, (readsI (bytesL s) l 1 (op, a, b, on, t)).2)))
        (.ret (.inl (4, 0, 0, 0, false, ByteArray.empty, (readsI (bytesL s) l 1 (op, a, b, on, t)).2)))) .fail
abbrev E27 : Env := M27 fun key x => bif Nat.beq key 13 then p27_0.ls (fun a => (T27 a).map X27_0) x else none
theorem round27 {o0 o1 o2 : Int} {o3 : Bool} {o4 : ByteArray} {l : List Part} {c : C5} {s : ByteArray} {i n : Nat} {k : Int} (hi : i < s.size) (hs : s.size ≤ 10) (hl : l.length = 1 + s.size) (h2 : smallP l = true) (hr : rnAt s (i : Int) = k) (hn : nxtP s (i : Int) = (n : Int)) :
    (b27_0 ((), (o0, o1, o2, o3, o4, ()), (l, ()), (c.1, c.2.1, c.2.2.1, c.2.2.2.1, c.2.2.2.2, ()), (s, (i : Int), ()), ())).val =
      bif (readC k (l.getD (1 + i) pD) c).1 then some (.inl ((), (o0, o1, o2, o3, o4, ()), (l, ()), ((readC k (l.getD (1 + i) pD) c).2.1, (readC k (l.getD (1 + i) pD) c).2.2.1, (readC k (l.getD (1 + i) pD) c).2.2.2.1, (readC k (l.getD (1 + i) pD) c).2.2.2.2.1, (readC k (l.getD (1 + i) pD) c).2.2.2.2.2, ()), (s, (n : Int), ()), ()))
      else some (.inr (.inl (4, 0, 0, 0, false, ByteArray.empty, (readC k (l.getD (1 + i) pD) c).2))) := by
  have lt : decide ((i : Int) < (s.size : Int)) = true := decide_eq_true (by omega)
  have w : IntKind.wrap IntKind.i64 (1 + (i : Int)) = ((1 + i : Nat) : Int) := by rw [Go.Ev.w64 (by omega) (by omega)]; omega
  have il : inB ((1 + i : Nat) : Int) l.length = true := inB_nat (by omega)
  have sz : decide ((l.getD (1 + i) pD).1.size ≤ 1048576) = true := by
    unfold smallP at h2
    rw [List.all_eq_true] at h2
    rw [getD_el (by omega)]
    exact h2 _ (List.getElem_mem _)
  unfold readC
  simp only [b27_0, B27_0, Tr.val, lt, w, il, rgetP, sz, hr, hn, cond_true]
  cases (readV k (l.getD (1 + i) pD) c.1 c.2.1 c.2.2.1 c.2.2.2.1 c.2.2.2.2).1 <;> rfl
theorem L27 : LoopOK (evI 2) (E27.lend 0) (lc Tryd.f27 0) := by
  refine l27_0 (T := T27) (fun x => rfl) ?_
  rintro ⟨z0, ⟨o0, o1, o2, o3, o4, z1⟩, ⟨l, z2⟩, ⟨op, a, b, on, t, z3⟩, ⟨s, p, z4⟩, z5⟩ r h
  obtain ⟨g1, g2⟩ := pre_val h
  rw [Bool.and_eq_true, Bool.and_eq_true] at g1
  obtain ⟨g0, e2, hp⟩ := g1
  obtain ⟨e1, hl, hl2⟩ : (p : Int) = 0 ∧ List.length (α := Part) l = 1 + s.size ∧ List.length (α := Part) l ≤ 1048576 := of_decide_eq_true g0
  have hp : smallP l = true := hp
  subst e1
  have main : Rounds b27_0 (z0, (o0, o1, o2, o3, o4, z1), (l, z2), (op, a, b, on, t, z3), (s, (0 : Int), z4), z5) (bif (readsI (bytesL s) l 1 (op, a, b, on, t)).1 then .inr (o0, o1, o2, o3, o4, (readsI (bytesL s) l 1 (op, a, b, on, t)).2)
      else .inl (4, 0, 0, 0, false, ByteArray.empty, (readsI (bytesL s) l 1 (op, a, b, on, t)).2)) := by
    unfold isHas at e2
    simp only [Bool.or_eq_true, decide_eq_true_eq] at e2
    have one : ∀ (k : Int) (s : ByteArray), bytesL s = [k] → l.length = 1 + s.size → rnAt s ((0 : Nat) : Int) = k → nxtP s ((0 : Nat) : Int) = ((1 : Nat) : Int) →
        Rounds b27_0 (z0, (o0, o1, o2, o3, o4, z1), (l, z2), (op, a, b, on, t, z3), (s, (0 : Int), z4), z5) (bif (readsI (bytesL s) l 1 (op, a, b, on, t)).1 then .inr (o0, o1, o2, o3, o4, (readsI (bytesL s) l 1 (op, a, b, on, t)).2)
          else .inl (4, 0, 0, 0, false, ByteArray.empty, (readsI (bytesL s) l 1 (op, a, b, on, t)).2)) := by
      intro k s hb hl hr hn
      have hz : s.size = 1 := by rw [← bytesL_size, hb]; rfl
      have h1 := round27 (o0 := o0) (o1 := o1) (o2 := o2) (o3 := o3) (o4 := o4) (c := (op, a, b, on, t)) (i := 0) (by omega) (by omega) hl hp hr hn
      rw [hb]
      unfold readsI
      cases hc : (readC k (l.getD 1 pD) (op, a, b, on, t)).1 with
      | false =>
        rw [show 1 + 0 = 1 from rfl, hc] at h1
        exact .exit h1
      | true =>
        rw [show 1 + 0 = 1 from rfl, hc] at h1
        refine .step h1 (.exit ?_)
        simp only [b27_0, B27_0, Tr.val, hz, show ¬ (((1 : Nat) : Int) < ((1 : Nat) : Int)) by omega, decide_false, cond_false]
        rfl
    have two : ∀ (k k' : Int) (s : ByteArray), bytesL s = [k, k'] → l.length = 1 + s.size → rnAt s ((0 : Nat) : Int) = k → nxtP s ((0 : Nat) : Int) = ((1 : Nat) : Int) → rnAt s ((1 : Nat) : Int) = k' → nxtP s ((1 : Nat) : Int) = ((2 : Nat) : Int) →
        Rounds b27_0 (z0, (o0, o1, o2, o3, o4, z1), (l, z2), (op, a, b, on, t, z3), (s, (0 : Int), z4), z5) (bif (readsI (bytesL s) l 1 (op, a, b, on, t)).1 then .inr (o0, o1, o2, o3, o4, (readsI (bytesL s) l 1 (op, a, b, on, t)).2)
          else .inl (4, 0, 0, 0, false, ByteArray.empty, (readsI (bytesL s) l 1 (op, a, b, on, t)).2)) := by
      intro k k' s hb hl hr hn hr' hn'
      have hz : s.size = 2 := by rw [← bytesL_size, hb]; rfl
      have h1 := round27 (o0 := o0) (o1 := o1) (o2 := o2) (o3 := o3) (o4 := o4) (c := (op, a, b, on, t)) (i := 0) (by omega) (by omega) hl hp hr hn
      have h2 := round27 (o0 := o0) (o1 := o1) (o2 := o2) (o3 := o3) (o4 := o4) (c := (readC k (l.getD 1 pD) (op, a, b, on, t)).2) (i := 1) (by omega) (by omega) hl hp hr' hn'
      rw [hb]
      have e0 : readsI [k, k'] l 1 (op, a, b, on, t) = bif (readC k (l.getD 1 pD) (op, a, b, on, t)).1 then (bif (readC k' (l.getD 2 pD) (readC k (l.getD 1 pD) (op, a, b, on, t)).2).1 then (true, (readC k' (l.getD 2 pD) (readC k (l.getD 1 pD) (op, a, b, on, t)).2).2) else
        (false, (readC k' (l.getD 2 pD) (readC k (l.getD 1 pD) (op, a, b, on, t)).2).2)) else (false, (readC k (l.getD 1 pD) (op, a, b, on, t)).2) := rfl
      rw [e0]
      cases hc : (readC k (l.getD 1 pD) (op, a, b, on, t)).1 with
      | false =>
        rw [show 1 + 0 = 1 from rfl, hc] at h1
        exact .exit h1
      | true =>
        rw [show 1 + 0 = 1 from rfl, hc] at h1
        refine .step h1 ?_
        rw [cond_true]
        cases hc2 : (readC k' (l.getD 2 pD) (readC k (l.getD 1 pD) (op, a, b, on, t)).2).1 with
        | false =>
          rw [show 1 + 1 = 2 from rfl, hc2] at h2
          exact .exit h2
        | true =>
          rw [show 1 + 1 = 2 from rfl, hc2] at h2
          refine .step h2 (.exit ?_)
          simp only [b27_0, B27_0, Tr.val, hz, show ¬ (((2 : Nat) : Int) < ((2 : Nat) : Int)) by omega, decide_false, cond_false]
          rfl
    rcases e2 with rfl | rfl | rfl | rfl | rfl
    · exact .exit rfl
    · exact one 65 _ rfl hl (by decide +kernel) (by decide +kernel)
    · exact two 65 66 _ rfl hl (by decide +kernel) (by decide +kernel) (by decide +kernel) (by decide +kernel)
    · exact one 111 _ rfl hl (by decide +kernel) (by decide +kernel)
    · exact one 116 _ rfl hl (by decide +kernel) (by decide +kernel)
  cases hc : (readsI (bytesL s) l 1 (op, a, b, on, t)).1 <;> rw [hc] at g2 main <;> cases g2 <;> exact main
def d27 (xa : ByteArray) : Tr (Int × Int × Int × Bool × ByteArray × Int) :=
 let v1 : List Part := ((okV (cutV (bytesL xa))).fst)
 let v2 : Int := ((↑(List.length v1) : Int))
 let v3 : Int := (optI' (findN (isW U.wordsL (rget partk v1 (0 : Int)).fst) (22 : Nat) (0 : Nat)))
 let v4 : Bool := (inB v3 (22 : Nat))
 let v5 : Int := (IntKind.wrap IntKind.i64 ((1 : Int) + (↑(ByteArray.size (rget wordk U.wordsL v3).snd.fst) : Int)))
 let v6 : Bool × C5 := (readsI (bytesL (rget wordk U.wordsL v3).snd.fst) v1 (1 : Nat) (v3, (0 : Int), (0 : Int), false, ByteArray.empty))
 let v7 : Int := (v6.snd.fst)
 let v8 : Int × Int × Bool × ByteArray := (v6.snd.snd)
 let v9 : Int × Bool × ByteArray := (v8.snd)
 let v10 : Int := (v8.fst)
 let v11 : Int := (v9.fst)
 let v12 : Bool × ByteArray := (v9.snd)
 let v13 : Bool := (v12.fst)
 let v14 : ByteArray := (v12.snd)
 Tr.ite (decide (ByteArray.size xa ≤ (1048576 : Nat))) (Tr.ite (!(okV (cutV (bytesL xa))).snd) (Tr.ret ((0 : Int), (0 : Int), (0 : Int), false, ByteArray.empty, (4 : Int))) (Tr.ite (decide (v2 = (0 : Int))) (Tr.ret ((0 : Int), (0 : Int), (0 : Int), false, ByteArray.empty, (5 : Int))) (Tr.ite (inB (0 : Int) (List.length v1)) (Tr.ite (rget (Kd.pr Kd.str (Kd.pr Kd.bool Kd.un)) v1 (0 : Int)).snd.fst (Tr.ret ((0 : Int), (0 : Int), (0 : Int), false, ByteArray.empty, (5 : Int))) (Tr.ite (decide ((22 : Nat) ≤ (1048576 : Nat) ∧ (1 : Nat) ≤ List.length v1)) (Tr.ite (decide (v3 < (0 : Int))) (Tr.ret ((0 : Int), (0 : Int), (0 : Int), false, ByteArray.empty, (5 : Int))) (Tr.ite v4 (Tr.ite (!decide (v2 = v5)) (Tr.ret ((0 : Int), (0 : Int), (0 : Int), false, ByteArray.empty, (4 : Int))) (Tr.ite v4 (Tr.ite (decide ((0 : Int) = (0 : Int) ∧ List.length v1 = (1 : Nat) + ByteArray.size (rget wordk U.wordsL v3).snd.fst ∧ List.length v1 ≤ (1048576 : Nat)) && (isHas (rget wordk U.wordsL v3).snd.fst && smallP v1)) (Tr.ite v6.fst (Tr.ite (decide (ByteArray.size v14 ≤ (1048576 : Nat))) (Tr.ite (!rightV v7 v10 v11 v13 v14) (Tr.ret ((0 : Int), (0 : Int), (0 : Int), false, ByteArray.empty, (4 : Int))) (Tr.ret (v7, v10, v11, v13, v14, (0 : Int)))) Tr.fail) (Tr.ret ((0 : Int), (0 : Int), (0 : Int), false, ByteArray.empty, (4 : Int)))) Tr.fail) Tr.fail)) Tr.fail)) Tr.fail)) Tr.fail))) Tr.fail
def e27 (r : Int × Int × Int × Bool × ByteArray × Int) : FRes := { rs := Slot.tup [AV.agg [Leaf.dat (.int .i64) r.fst, Leaf.dat (.int .i64) r.snd.fst, Leaf.dat (.int .i64) r.snd.snd.fst, Leaf.dat Kd.bool r.snd.snd.snd.fst, Leaf.dat Kd.str r.snd.snd.snd.snd.fst], AV.one (Leaf.dat (.int .i64) r.snd.snd.snd.snd.snd)], upd := [], new := [] }
@[reducible] def a27 : List AK := [AK.d Kd.str]
@[reducible] def b27 : List BK := []
theorem t27 (xa : ByteArray) : evFn (E27) Tryd.f27 [PM.data cmdk, PM.data (.int .i64)] (akAV a27 (xa, ())) (bkBs b27 ()) = (d27 xa).map e27 := by kernel_rfl
def s27 (C : akT a27 → Bool) (G : akT a27 → Int × Int × Int × Bool × ByteArray × Int) : FSpec := aspec a27 b27 e27 (fun x _ => C x) (fun x _ => G x)
theorem k27 {C : akT a27 → Bool} {G : akT a27 → Int × Int × Int × Bool × ByteArray × Int} (hd : ∀ (xa : ByteArray), C (xa, ()) = true → (d27 xa).val = some (G (xa, ()))) (IO : ItOK Tryd.prog (E27) := by exact itOK_none rfl) (L : ∀ c, Tryd.f27.body = some c → LsOK (evI 2) ((E27).lend 0) c := by exact fun c _ => LsOK_none rfl c) : SpecOK Tryd.prog E0 27 (s27 C G) :=
  aspec_ok (ak := a27) (bl := b27) (e := e27) (c := fun x _ => C x) (g := fun x _ => G x) (E0 := E0) (E := E27) tab AG27 rfl rfl hm Tryd.func27 (by kernel_rfl) [PM.data cmdk, PM.data (.int .i64)] (fun X Y H => by obtain ⟨xa, _⟩ := X; exact val_of (t27 xa) (hd xa H)) IO L
theorem strOf_size (l : List Int) : (strOf l).size = l.length := by
  unfold strOf
  show (List.map _ _).toArray.size = _
  simp
theorem cut_small : ∀ (n : Nat) (l : List Int), l.length ≤ n → (cutN n l).1.length ≤ l.length ∧ ∀ p ∈ (cutN n l).1, p.1.size ≤ l.length
  | 0, l, _ => ⟨Nat.zero_le _, fun p hp => by cases hp⟩
  | n + 1, [], _ => ⟨Nat.zero_le _, fun p hp => by cases hp⟩
  | n + 1, c :: r, h => by
    simp only [List.length_cons] at h ⊢
    unfold cutN
    cases decide (c = 32) with
    | true =>
      obtain ⟨h1, h2⟩ := cut_small n r (by omega)
      exact ⟨Nat.le_trans h1 (Nat.le_succ _), fun p hp => Nat.le_trans (h2 p hp) (Nat.le_succ _)⟩
    | false =>
      rw [cond_false]
      cases decide (c = 34) with
      | true =>
        rw [cond_true]
        cases hq : quoN r with
        | none => exact ⟨Nat.zero_le _, fun p hp => by cases hp⟩
        | some x =>
          have hl := quoN_len _ _ _ (Nat.le_refl _) hq
          simp only []
          cases badR x.2 with
          | true => exact ⟨Nat.zero_le _, fun p hp => by cases hp⟩
          | false =>
            obtain ⟨h1, h2⟩ := cut_small n x.2 (by omega)
            rw [cond_false]
            refine ⟨by simp only [List.length_cons]; omega, fun p hp => ?_⟩
            rw [List.mem_cons] at hp
            rcases hp with rfl | hp
            · rw [strOf_size]; omega
            · have := h2 p hp; omega
      | false =>
        rw [cond_false]
        have hl := dropW_len notB r
        have hl2 : (r.takeWhile notB).length ≤ r.length := by
          have := congrArg List.length (List.takeWhile_append_dropWhile (p := notB) (l := r))
          rw [List.length_append] at this; omega
        obtain ⟨h1, h2⟩ := cut_small n (r.dropWhile notB) (by omega)
        refine ⟨by simp only [List.length_cons]; omega, fun p hp => ?_⟩
        rw [List.mem_cons] at hp
        rcases hp with rfl | hp
        · rw [strOf_size, List.length_cons]; omega
        · have := h2 p hp; omega
theorem ok_small {s : ByteArray} (hs : s.size ≤ 1048576) : (okV (cutV (bytesL s))).1.length ≤ 1048576 ∧ smallP (okV (cutV (bytesL s))).1 = true := by
  have hl := bytesL_size s
  obtain ⟨h1, h2⟩ := cut_small _ (bytesL s) (Nat.le_refl _)
  unfold okV smallP
  cases (cutV (bytesL s)).2 with
  | false => exact ⟨Nat.zero_le _, rfl⟩
  | true =>
    refine ⟨Nat.le_trans h1 (by omega), ?_⟩
    rw [List.all_eq_true]
    intro p hp
    have := h2 p hp
    exact decide_eq_true (by omega)
theorem small_at {l : List Part} (h : smallP l = true) (i : Nat) : (l.getD i pD).1.size ≤ 1048576 := by
  by_cases hi : i < l.length
  · unfold smallP at h
    rw [List.all_eq_true] at h
    rw [getD_el hi]
    exact of_decide_eq_true (h _ (List.getElem_mem _))
  · rw [List.getD_eq_getElem?_getD, List.getElem?_eq_none (by omega)]
    exact Nat.zero_le _
theorem read_small {k : Int} {p : Part} {c : C5} (hp : p.1.size ≤ 1048576) (hc : c.2.2.2.2.size ≤ 1048576) : (readC k p c).2.2.2.2.2.size ≤ 1048576 := by
  unfold readC readV
  cases decide (k = 65) with
  | true => exact hc
  | false =>
    cases decide (k = 66) with
    | true => exact hc
    | false =>
      cases decide (k = 111) with
      | true => exact hc
      | false =>
        cases decide (k = 116) with
        | true => exact hp
        | false => exact hc
theorem reads_small {l : List Part} (h : smallP l = true) : ∀ (ks : List Int) (i : Nat) (c : C5), c.2.2.2.2.size ≤ 1048576 → (readsI ks l i c).2.2.2.2.2.size ≤ 1048576
  | [], i, c, hc => hc
  | k :: r, i, c, hc => by
    unfold readsI
    have h1 := read_small (k := k) (c := c) (small_at h i) hc
    cases (readC k (l.getD i pD) c).1 with
    | true => exact reads_small h r (i + 1) _ h1
    | false => exact h1
abbrev P6 := Int × Int × Int × Bool × ByteArray × Int
def errV (e : Int) : P6 := (0, 0, 0, false, ByteArray.empty, e)
def endV (y : Bool × C5) : P6 := bif y.1 && rightV y.2.1 y.2.2.1 y.2.2.2.1 y.2.2.2.2.1 y.2.2.2.2.2 then (y.2.1, y.2.2.1, y.2.2.2.1, y.2.2.2.2.1, y.2.2.2.2.2, 0) else errV 4
def opV (l : List Part) (op : Nat) : P6 := bif decide (l.length = 1 + (U.wordsL.getD op dW).2.1.size) then endV (readsI (bytesL (U.wordsL.getD op dW).2.1) l 1 ((op : Int), 0, 0, false, ByteArray.empty)) else errV 4
def parseL (y : List Part × Bool) : P6 :=
  bif !y.2 then errV 4 else match y.1 with
  | [] => errV 5
  | p :: r => bif p.2.1 then errV 5 else match findN (isW U.wordsL p.1) 22 0 with
    | none => errV 5
    | some op => opV (p :: r) op
def parseV (s : ByteArray) : P6 := parseL (okV (cutV (bytesL s)))
theorem findN_range {p : Nat → Bool} : ∀ {k i j : Nat}, findN p k i = some j → i ≤ j ∧ j < i + k
  | 0, i, j, h => by cases h
  | k + 1, i, j, h => by
    unfold findN at h
    cases hp : p i <;> rw [hp] at h
    · have := findN_range h; omega
    · cases h; omega
abbrev w27 : FSpec := s27 (fun x => decide (ByteArray.size x.1 ≤ 1048576)) fun x => parseV x.1
theorem wk27 : SpecOK Tryd.prog E0 27 w27 := by
  refine k27 (fun s H => ?_) (L := ls_ok (lcs := [lc Tryd.f27 0]) (rgs := []) (by kernel_rfl) (by kernel_rfl) L27 trivial)
  have H : s.size ≤ 1048576 := of_decide_eq_true H
  obtain ⟨h1, h2⟩ := ok_small H
  show _ = some (parseV s)
  unfold parseV parseL
  generalize hy : okV (cutV (bytesL s)) = y at h1 h2
  obtain ⟨l, b⟩ := y
  cases b with
  | false => simp only [d27, Tr.val, H, hy, decide_true, cond_true, Bool.not_false]; rfl
  | true =>
    simp only [Bool.not_true, cond_false]
    cases l with
    | nil => simp only [d27, Tr.val, H, hy, List.length_nil, decide_true, cond_true, cond_false, Bool.not_true]; rfl
    | cons p r =>
      have e0 : rget (Kd.pr Kd.str (Kd.pr Kd.bool Kd.un)) (p :: r) (0 : Int) = p := rfl
      have e0' : rget partk (p :: r) (0 : Int) = p := rfl
      have i0 : inB (0 : Int) (p :: r).length = true := by rw [inB_iff, List.length_cons]; omega
      have z0 : decide ((((p :: r).length : Nat) : Int) = 0) = false := decide_eq_false (by rw [List.length_cons]; omega)
      have c1 : decide ((22 : Nat) ≤ 1048576 ∧ 1 ≤ (p :: r).length) = true := decide_eq_true (by rw [List.length_cons]; omega)
      cases hq : p.2.1 with
      | true => simp only [d27, Tr.val, H, hy, e0, i0, z0, hq, decide_true, cond_true, cond_false, Bool.not_true]; rfl
      | false =>
        simp only [cond_false]
        cases hf : findN (isW U.wordsL p.1) 22 0 with
        | none => simp only [d27, Tr.val, H, hy, e0, e0', i0, z0, c1, hq, hf, optI', show ((-1 : Int) < 0) by decide, decide_true, cond_true, cond_false, Bool.not_true]; rfl
        | some op =>
          have hop := findN_range hf
          have hi : inB ((op : Nat) : Int) 22 = true := inB_nat (by omega)
          have hh : isHas (U.wordsL.getD op dW).2.1 = true := by
            have := isHas_ops ⟨op, by omega⟩
            rw [rgetW] at this
            exact this
          have hsz : (U.wordsL.getD op dW).2.1.size ≤ 2 := by
            unfold isHas at hh
            simp only [Bool.or_eq_true, decide_eq_true_eq] at hh
            rcases hh with e | e | e | e | e <;> rw [e] <;> decide
          have w : IntKind.wrap IntKind.i64 (1 + ((U.wordsL.getD op dW).2.1.size : Int)) = ((1 + (U.wordsL.getD op dW).2.1.size : Nat) : Int) := by rw [Go.Ev.w64 (by omega) (by omega)]; omega
          simp only []
          unfold opV
          by_cases hl : (p :: r).length = 1 + (U.wordsL.getD op dW).2.1.size
          · have hr := reads_small h2 (bytesL (U.wordsL.getD op dW).2.1) 1 ((op : Int), 0, 0, false, ByteArray.empty) (Nat.zero_le _)
            have c2 : decide (True ∧ (p :: r).length = 1 + (U.wordsL.getD op dW).2.1.size ∧ (p :: r).length ≤ 1048576) = true := decide_eq_true ⟨trivial, hl, h1⟩
            have c3 : decide ((((p :: r).length : Nat) : Int) = ((1 + (U.wordsL.getD op dW).2.1.size : Nat) : Int)) = true := decide_eq_true (by omega)
            unfold endV
            simp only [d27, Tr.val, H, hy, e0, e0', i0, z0, c1, c2, c3, hq, hf, optI', hi, hh, h2, w, rgetW, hr, decide_eq_true hl, show ¬ (((op : Nat) : Int) < 0) by omega, decide_true, decide_false, cond_true, cond_false, Bool.not_true, Bool.not_false, Bool.and_self]
            cases (readsI (bytesL (U.wordsL.getD op dW).2.1) (p :: r) 1 ((op : Int), 0, 0, false, ByteArray.empty)).1 with
            | false => rfl
            | true =>
              simp only [cond_true, Bool.true_and]
              cases rightV _ _ _ _ _ <;> rfl
          · have c3 : decide ((((p :: r).length : Nat) : Int) = ((1 + (U.wordsL.getD op dW).2.1.size : Nat) : Int)) = false := decide_eq_false (by omega)
            simp only [d27, Tr.val, H, hy, e0, e0', i0, z0, c1, c3, hq, hf, optI', hi, w, rgetW, decide_eq_false hl, show ¬ (((op : Nat) : Int) < 0) by omega, decide_true, decide_false, cond_true, cond_false, Bool.not_true, Bool.not_false]
            rfl
end Cm
end Go.Proofs.YtdlbnlbajnafdaaDoor
end
section
set_option linter.unusedVariables false
set_option linter.unusedSimpArgs false
set_option maxRecDepth 20000
set_option maxHeartbeats 4000000
open Go Go.Ev
namespace Go.Proofs.YtdlbnlbajnafdaaDoor
namespace Cm
theorem num_itoa : ∀ n : Fin 2001, numR (itoaB ((n.val : Int) - 1000)) false = (n.val : Int) - 1000 ∧ atoiV (itoaB ((n.val : Int) - 1000)) = ((n.val : Int) - 1000, true) := by decide +kernel
theorem num_near {n : Int} (h : near n = true) : numR (itoaB n) false = n ∧ atoiV (itoaB n) = (n, true) := by
  obtain ⟨h1, h2⟩ := near_iff.1 h
  have := num_itoa ⟨(n + 1000).toNat, by omega⟩
  rw [show (((n + 1000).toNat : Nat) : Int) - 1000 = n by omega] at this
  exact this
end Cm
end Go.Proofs.YtdlbnlbajnafdaaDoor
end
section
set_option linter.unusedVariables false
set_option linter.unusedSimpArgs false
set_option maxRecDepth 20000
set_option maxHeartbeats 4000000
open Go Go.Ev
namespace Go.Proofs.YtdlbnlbajnafdaaDoor
namespace Cm
theorem read1 (k : Int) (l : List Part) (c c' : C5) (b : Bool) (h : readC k (l.getD 1 pD) c = (b, c')) : readsI [k] l 1 c = (b, c') := by
  show (bif (readC k (l.getD 1 pD) c).1 then (true, (readC k (l.getD 1 pD) c).2) else (false, (readC k (l.getD 1 pD) c).2)) = _
  rw [h]
  cases b <;> rfl
theorem read2 (k k' : Int) (l : List Part) (c c' c'' : C5) (b b' : Bool) (h : readC k (l.getD 1 pD) c = (b, c')) (h' : readC k' (l.getD 2 pD) c' = (b', c'')) : readsI [k, k'] l 1 c = bif b then (b', c'') else (false, c') := by
  show (bif (readC k (l.getD 1 pD) c).1 then (bif (readC k' (l.getD 2 pD) (readC k (l.getD 1 pD) c).2).1 then (true, (readC k' (l.getD 2 pD) (readC k (l.getD 1 pD) c).2).2) else (false, (readC k' (l.getD 2 pD) (readC k (l.getD 1 pD) c).2).2)) else (false, (readC k (l.getD 1 pD) c).2)) = _
  rw [h, h']
  cases b <;> cases b' <;> rfl
end Cm
end Go.Proofs.YtdlbnlbajnafdaaDoor
end
section
set_option linter.unusedVariables false
set_option linter.unusedSimpArgs false
set_option maxRecDepth 20000
set_option maxHeartbeats 4000000
open Go Go.Ev
namespace Go.Proofs.YtdlbnlbajnafdaaDoor
namespace Cm
def d29 : Tr (Bool) :=
 Tr.ite true (Tr.ite true (Tr.ret true) (Tr.ret false)) Tr.fail
def e29 (r : Bool) : FRes := { rs := Slot.av (AV.one (Leaf.dat Kd.bool r)), upd := [], new := [] }
@[reducible] def a29 : List AK := []
@[reducible] def b29 : List BK := []
theorem t29 : evFn (Env.withFns E0 [((27 : Nat), w27)]) Tryd.f29 [PM.data Kd.bool] (akAV a29 ()) (bkBs b29 ()) = (d29).map e29 := by kernel_rfl
def s29' (G : akT a29 → Bool) : FSpec := aspec0 a29 b29 e29 (fun x _ => G x)
theorem k29' {G : akT a29 → Bool} (hd : (d29).val = some (G ())) (IO : ItOK Tryd.prog (Env.withFns E0 [((27 : Nat), w27)]) := by exact itOK_none rfl) (L : ∀ c, Tryd.f29.body = some c → LsOK (evI 2) ((Env.withFns E0 [((27 : Nat), w27)]).lend 0) c := by exact fun c _ => LsOK_none rfl c) : SpecOK Tryd.prog E0 29 (s29' G) :=
  aspec0_ok (ak := a29) (bl := b29) (e := e29) (g := fun x _ => G x) (E0 := E0) (E := Env.withFns E0 [((27 : Nat), w27)]) tab (.cons wk27 .nil) rfl rfl hm Tryd.func29 (by kernel_rfl) [PM.data Kd.bool] (fun X Y => by exact val_of (t29) (hd)) IO L
abbrev w29 : FSpec := s29' fun _ => true
theorem wk29 : SpecOK Tryd.prog E0 29 w29 := k29' rfl
theorem cut_le {s : ByteArray} {k : Int} (hk : 0 ≤ k) : (0 ≤ minI (s.size : Int) k ∧ minI (s.size : Int) k ≤ (s.size : Int)) ∧ (s.extract 0 (minI (s.size : Int) k).toNat).size ≤ k.toNat := by
  have h : minI (s.size : Int) k ≤ k ∧ minI (s.size : Int) k ≤ (s.size : Int) ∧ 0 ≤ minI (s.size : Int) k := by unfold minI; split <;> omega
  refine ⟨⟨h.2.2, h.2.1⟩, ?_⟩
  rw [ByteArray.size_extract]
  omega
end Cm
end Go.Proofs.YtdlbnlbajnafdaaDoor
end
section
set_option linter.unusedVariables false
set_option linter.unusedSimpArgs false
namespace Go.Ev
open Go.RowKit Go.ChangeShapes Go.WideShapes
def Kd.flat : Kd → Bool
  | .int _ => true
  | .bool => true
  | .str => true
  | .un => true
  | .pr a b => a.flat && b.flat
  | _ => false
def Kd.vals : (k : Kd) → k.T → List Value
  | .int k, x => [.int k x]
  | .bool, x => [.bool x]
  | .str, x => [.string x]
  | .pr a b, x => a.vals x.1 ++ b.vals x.2
  | .un, _ => []
  | .sl _, _ => []
  | .tre, _ => []
  | .ifc, _ => []
def lits {H : Type} : (k : Kd) → k.T → List (DataW H)
  | .int k, x => [.lit (.int k x)]
  | .bool, x => [.lit (.bool x)]
  | .str, x => [.lit (.string x.data.toList)]
  | .pr a b, x => (bif a.isAgg then [.agg (lits a x.1)] else lits a x.1) ++ lits b x.2
  | .un, _ => []
  | .sl _, _ => []
  | .tre, _ => []
  | .ifc, _ => []
def dOf {H : Type} (k : Kd) (x : k.T) : DataW H := bif k.isAgg then .agg (lits k x) else (lits k x).headD .nil
theorem vals_R {w : World} {K : KSet} : ∀ {k : Kd} (x : k.T), k.flat = true → Kd.R w K k x (k.vals x)
  | .int _, _, _ => rfl
  | .bool, _, _ => rfl
  | .str, _, _ => rfl
  | .un, _, _ => rfl
  | .pr a b, x, h => by
    unfold Kd.flat at h
    rw [Bool.and_eq_true] at h
    exact ⟨_, _, rfl, vals_R _ h.1, vals_R _ h.2⟩
  | .sl _, _, h => by cases h
  | .tre, _, h => by cases h
  | .ifc, _, h => by cases h
theorem dOf_pr {H : Type} {a : Kd} (x : a.T) (h : a.flat = true) : (bif a.isAgg then [(.agg (lits a x) : DataW H)] else lits a x) = [dOf a x] := by
  unfold dOf
  cases a with
  | pr a b => rfl
  | un => rfl
  | int k => rfl
  | bool => rfl
  | str => rfl
  | sl k => cases h
  | tre => cases h
  | ifc => cases h
section
variable {H : Type} {enc : TypeId × Value → H} {P : Program} {w : World}
theorem read_flat (base : Nat) (sp : Nat → Bool) (held : Bool) : ∀ (n : Nat) {t : TypeId} {k : Kd} {cs : List Value} {x : DataW H × List MemPlace}, TK P t k → k.flat = true →
    DataW.trod enc P w base sp held n t cs = some x → ∃ y : k.T, cs = k.vals y ∧ x.1 = dOf k y := by
  intro n
  induction n with
  | zero => intro t k cs x hk hf h; simp [DataW.trod] at h
  | succ n ih =>
    intro t k cs x hk hfl h
    cases hk with
    | int ht =>
      obtain ⟨i, rfl, rfl, hw⟩ := DataW.trod_int ht h
      exact ⟨i, rfl, rfl⟩
    | bool ht =>
      obtain ⟨b, rfl, rfl⟩ := DataW.trod_bool ht h
      exact ⟨b, rfl, rfl⟩
    | str ht =>
      obtain ⟨s, rfl, rfl, hs⟩ := DataW.trod_string ht h
      exact ⟨s, rfl, rfl⟩
    | sl => cases hfl
    | @struct _ fs k ht hf hs =>
      obtain ⟨xs, m, hm, rfl, hl, hlen, hat⟩ := DataW.trod_struct ht h
      cases hm
      have go : ∀ {o : Nat} {gs : List Field} {k' : Kd} (j : Nat), TKF P o gs k' → k'.flat = true → gs = fs.toList.drop j → cs.length = o + k'.sz → ∃ y : k'.T, cs.drop o = k'.vals y ∧ (xs.drop j).map (·.1) = lits k' y := by
        intro o gs
        induction gs generalizing o with
        | nil =>
          intro k' j h _ hin hl'
          cases h
          refine ⟨(), ?_, ?_⟩
          · show _ = []
            rw [List.drop_eq_nil_of_le]
            simp only [Kd.sz] at hl'
            omega
          · have : fs.toList.length ≤ j := by
              have := congrArg List.length hin
              simp at this
              simp
              omega
            rw [List.drop_eq_nil_of_le (by simp at this; omega)]
            rfl
        | cons f gs ihg =>
          intro k' j h hfl' hin hl'
          cases h with
          | @cons _ _ _ a b ho ha hs' hb =>
            simp only [Kd.sz] at hl'
            unfold Kd.flat at hfl'
            rw [Bool.and_eq_true] at hfl'
            have hj : j < fs.toList.length := by
              have := congrArg List.length hin
              simp at this
              simp
              omega
            rw [List.drop_eq_getElem_cons hj] at hin
            injection hin with hf1 hf2
            obtain ⟨y2, hy2, ok2⟩ := ihg (j + 1) hb hfl'.2 hf2 (by omega)
            have hj2 : j < xs.length := by simp at hj; omega
            have h1 := hat j f (by rw [hf1]; simp)
            rw [List.getElem?_eq_getElem hj2, ho, hs'] at h1
            obtain ⟨y1, hy1, ok1⟩ := ih ha hfl'.1 h1
            refine ⟨(y1, y2), ?_, ?_⟩
            · show _ = a.vals y1 ++ b.vals y2
              rw [← hy1, ← hy2, ← List.drop_drop, List.take_append_drop]
            · rw [List.drop_eq_getElem_cons hj2, List.map_cons, ok2, ok1]
              show _ = (bif a.isAgg then [.agg (lits a y1)] else lits a y1) ++ lits b y2
              rw [dOf_pr _ hfl'.1]
              rfl
      obtain ⟨y, hy, hd⟩ := go 0 hf hfl (by simp) (by rw [hl, hs]; simp)
      refine ⟨y, by simpa using hy, ?_⟩
      show DataW.agg (xs.map (·.1)) = _
      have ha := hf.agg
      unfold dOf
      rw [ha, cond_true, ← hd, List.drop_zero]
theorem lits_inj : ∀ {k : Kd} {x y : k.T}, k.flat = true → (lits k x : List (DataW H)) = lits k y → x = y
  | .int _, x, y, _, h => by injection h with h; injection h with h; injection h
  | .bool, x, y, _, h => by injection h with h; injection h with h; injection h
  | .str, x, y, _, h => by
    injection h with h; injection h with h; injection h with h
    obtain ⟨⟨l⟩⟩ := x
    obtain ⟨⟨m⟩⟩ := y
    have : l = m := h
    rw [this]
  | .un, _, _, _, _ => rfl
  | .pr a b, x, y, hf, h => by
    unfold Kd.flat at hf
    rw [Bool.and_eq_true] at hf
    have h : (bif a.isAgg then [(.agg (lits a x.1) : DataW H)] else lits a x.1) ++ lits b x.2 = (bif a.isAgg then [.agg (lits a y.1)] else lits a y.1) ++ lits b y.2 := h
    rw [dOf_pr _ hf.1, dOf_pr _ hf.1] at h
    injection h with h1 h2
    have e2 : x.2 = y.2 := lits_inj hf.2 h2
    have e1 : x.1 = y.1 := by
      unfold dOf at h1
      cases ha : a.isAgg with
      | true =>
        rw [ha] at h1
        injection h1 with h1
        exact lits_inj hf.1 h1
      | false =>
        rw [ha, cond_false, cond_false] at h1
        refine lits_inj hf.1 ?_
        clear h h2 e2
        cases a with
        | int k => exact congrArg (fun d => [d]) h1
        | bool => exact congrArg (fun d => [d]) h1
        | str => exact congrArg (fun d => [d]) h1
        | un => rfl
        | pr a b => cases ha
        | sl k => cases hf.1
        | tre => cases hf.1
        | ifc => cases hf.1
    exact Prod.ext e1 e2
  | .sl _, _, _, h, _ => by cases h
  | .tre, _, _, h, _ => by cases h
  | .ifc, _, _, h, _ => by cases h
theorem dOf_inj {k : Kd} {x y : k.T} (hf : k.flat = true) (h : (dOf k x : DataW H) = dOf k y) : x = y := by
  unfold dOf at h
  cases ha : k.isAgg with
  | true => rw [ha] at h; injection h with h; exact lits_inj hf h
  | false =>
    rw [ha, cond_false, cond_false] at h
    refine lits_inj hf (H := H) ?_
    cases k with
    | int k => exact congrArg (fun d => [d]) h
    | bool => exact congrArg (fun d => [d]) h
    | str => exact congrArg (fun d => [d]) h
    | un => rfl
    | pr a b => cases ha
    | sl k => cases hf
    | tre => cases hf
    | ifc => cases hf
theorem read_arr {base : Nat} {sp : Nat → Bool} {held : Bool} {n : Nat} {t e : TypeId} {m : Nat} {k : Kd} {cs : List Value} {p : List MemPlace} {ys : List k.T} (ht : P.underlying t = some (.array m e)) (hk : TK P e k) (hf : k.flat = true) (hs : P.cellsOf e = k.sz)
    (h : DataW.trod enc P w base sp held n t cs = some (.agg (ys.map (dOf k)), p)) : ∀ i, i < ys.length → (cs.drop (i * k.sz)).take k.sz = k.vals (ys.getD i k.dflt) := by
  obtain ⟨xs, n', rfl, hx, hl, hxl, hat⟩ := DataW.trod_array ht h
  have hxs : xs.map (·.1) = ys.map (dOf k) := by
    have := congrArg Prod.fst hx
    simpa using this.symm
  have hlen : xs.length = ys.length := by simpa using congrArg List.length hxs
  intro i hi
  have h1 := hat i (by omega)
  rw [List.getElem?_eq_getElem (by omega), hs] at h1
  obtain ⟨y, hy, hd⟩ := read_flat base sp held n' hk hf h1
  have h2 : xs[i].1 = dOf k ys[i] := by
    have := congrArg (fun l => l[i]?) hxs
    simp only [List.getElem?_map, List.getElem?_eq_getElem hi, List.getElem?_eq_getElem (show i < xs.length by omega), Option.map_some] at this
    exact Option.some.inj this
  rw [hy, List.getD_eq_getElem?_getD, List.getElem?_eq_getElem hi]
  rw [h2] at hd
  rw [dOf_inj hf hd]
  rfl
theorem glob_arr {W : World} {g : Nat} {cs : Array Value} {t : TypeId} {fr : Nat × Nat} {k : Kd} {ys : List k.T} {A : Asg} (hf : k.flat = true) (hc : W.heap[g]? = some (.cells cs t fr))
    (h : ∀ i, i < ys.length → (cs.toList.drop (i * k.sz)).take k.sz = k.vals (ys.getD i k.dflt)) (hu : k.beq (.int .u64) = false) : LeafR W (allK W) A [] (GV.arr k ys).leaf (.pointer (some ⟨g, 0, none⟩)) := by
  refine ⟨g, 0, cs, t, fr, rfl, (Array.getElem?_eq_some_iff.1 hc).1, hc, fun i hi => ?_, fun h => by rw [hu] at h; cases h⟩
  rw [Nat.zero_add]
  unfold cellsAt
  rw [h i hi]
  exact vals_R _ hf
end
end Go.Ev
end
section
set_option linter.unusedVariables false
set_option maxRecDepth 100000
namespace Go.Proofs.YtdlbnlbajnafdaaDoor
open Go.ChangeShapes Go.WideShapes Go.ChangeAt Go.RowKit Go.Ev Go.Lib Go.Shelf
abbrev atG (W : World) (g : Nat) (p : GV) : Prop := LeafR W (allK W) noA [] p.leaf (.pointer (some ⟨g, 0, none⟩))
theorem words_eq : (Rows.laid_backseat_cmd_words : DataW Unit) = .agg (U.wordsL.map (dOf wordk)) := by kernel_rfl
theorem tk_word : TK Tryd.prog 117 wordk := .struct Tryd.underlying117 (.cons rfl (.str Tryd.underlying9) (by kernel_rfl) (.cons rfl (.str Tryd.underlying9) (by kernel_rfl) .nil)) (by kernel_rfl)
theorem var_cells {W : World} {n : String} {g : Nat} {cs : Array Value} (hg : Tryd.prog.globalNamed n = some g) (h : W.var? Tryd.prog n = some cs) : ∃ t fr, W.heap[g]? = some (.cells cs t fr) := by
  unfold World.var? at h
  rw [hg] at h
  have h : (match (W.heap[g]? : Option Obj) with | some (Obj.cells cs _ _) => some cs | _ => none) = some cs := h
  split at h
  · rename_i c t fr hc
    cases h
    exact ⟨t, fr, hc⟩
  · cases h
theorem words_at {W : World} (r : VarReads Tryd.prog W "backseat/cmd.words" Rows.laid_backseat_cmd_words) : atG W 0 (.arr wordk U.wordsL) := by
  rw [words_eq] at r
  obtain ⟨g, t, cs, fuel, p, hg, hty, hvar, hd⟩ := r
  obtain rfl := Option.some.inj ((show Tryd.prog.globalNamed "backseat/cmd.words" = some 0 by kernel_rfl).symm.trans hg)
  obtain rfl := Option.some.inj ((show (Tryd.prog.globals[0]?).map (·.type) = some 118 by kernel_rfl).symm.trans hty)
  obtain ⟨t, fr, hc⟩ := var_cells hg hvar
  exact glob_arr rfl hc (read_arr Tryd.underlying118 tk_word rfl (by kernel_rfl) hd) rfl
theorem err_at {W : World} {n : String} {g : Nat} {s : String} {d : DataW Unit} (h1 : Tryd.prog.globalNamed n = some g) (h2 : (Tryd.prog.globals[g]?).map (·.type) = some 146) (r : VarReads Tryd.prog W n (.iface s d)) : atG W g (.dat .ifc false) := by
  obtain ⟨g', t, cs, fuel, p, hg, hty, hvar, hd⟩ := r
  obtain rfl := Option.some.inj (h1.symm.trans hg)
  obtain rfl := Option.some.inj (h2.symm.trans hty)
  obtain ⟨t, fr, hc⟩ := var_cells hg hvar
  have : ∃ u v, cs.toList = [.iface u v] := by
    cases fuel with
    | zero => simp [DataW.trod] at hd
    | succ n =>
      unfold DataW.trod at hd
      rw [Tryd.underlying146] at hd
      split at hd <;> simp_all
  obtain ⟨u, v, e⟩ := this
  refine ⟨g, 0, cs, t, fr, rfl, (Array.getElem?_eq_some_iff.1 hc).1, hc, ?_⟩
  show Kd.R W (allK W) .ifc false (cellsAt cs 0 1)
  unfold cellsAt
  rw [e]
  exact ⟨_, rfl, .inr ⟨rfl, _, _, rfl⟩⟩
namespace Cm
def Tabs (W : World) : Prop := Go.Proofs.YtdlbnlbajnafdaaDoor.Tabs W ∧ atG W 0 (.arr wordk U.wordsL) ∧ atG W 6 (.dat .ifc false) ∧ atG W 7 (.dat .ifc false)
def laidL : List (String × DataW Unit) := [("math/bits.deBruijn32tab", Rows.laid_math_bits_deBruijn32tab), ("math/bits.deBruijn64tab", Rows.laid_math_bits_deBruijn64tab), ("internal/strconv.uint64pow10", Rows.laid_internal_strconv_uint64pow10), ("unicode/utf8.acceptRanges", Rows.laid_unicode_utf8_acceptRanges), ("strconv.ErrRange", Rows.laid_strconv_ErrRange), ("strconv.ErrSyntax", Rows.laid_strconv_ErrSyntax), ("backseat/cmd.words", Rows.laid_backseat_cmd_words), ("unicode/utf8.first", Rows.laid_unicode_utf8_first)]
end Cm
theorem tabs_met {l : List (String × DataW Unit)} {W : World} (h' : laidMet Tryd.prog l W) (m1 : ("unicode/utf8.first", Rows.laid_unicode_utf8_first) ∈ l) (m2 : ("unicode/utf8.acceptRanges", Rows.laid_unicode_utf8_acceptRanges) ∈ l)
    (m3 : ("internal/strconv.uint64pow10", Rows.laid_internal_strconv_uint64pow10) ∈ l) : Tabs W := by
  have r1 := laidMet.reads h' m1
  have r2 := laidMet.reads h' m2
  have r3 := laidMet.reads h' m3
  rw [fst_eq] at r1
  rw [acc_eq] at r2
  rw [pow_eq] at r3
  refine ⟨utf8Tabs_of_readsT ty8 ex8 r1 r2, ?_⟩
  obtain ⟨g, t, cs, fuel, p, hg, hty, hvar, hd⟩ := r3
  obtain rfl := Option.some.inj ((show Tryd.prog.globalNamed "internal/strconv.uint64pow10" = some 5 by kernel_rfl).symm.trans hg)
  obtain rfl := Option.some.inj ((show (Tryd.prog.globals[5]?).map (·.type) = some 241 by kernel_rfl).symm.trans hty)
  unfold TabIs
  rw [hvar, ← cells_of_tab Tryd.underlying241 Tryd.underlying193 (by kernel_rfl) (by kernel_rfl) hd]
namespace Cm
theorem tabs_of {l : List (String × DataW Unit)} {W : World} (h' : laidMet Tryd.prog l W) (m1 : ("unicode/utf8.first", Rows.laid_unicode_utf8_first) ∈ l) (m2 : ("unicode/utf8.acceptRanges", Rows.laid_unicode_utf8_acceptRanges) ∈ l)
    (m3 : ("internal/strconv.uint64pow10", Rows.laid_internal_strconv_uint64pow10) ∈ l) (m4 : ("backseat/cmd.words", Rows.laid_backseat_cmd_words) ∈ l) (m5 : ("strconv.ErrSyntax", Rows.laid_strconv_ErrSyntax) ∈ l) (m6 : ("strconv.ErrRange", Rows.laid_strconv_ErrRange) ∈ l) : Tabs W :=
  ⟨tabs_met h' m1 m2 m3, words_at (laidMet.reads h' m4), err_at (by kernel_rfl) (by kernel_rfl) (laidMet.reads h' m5), err_at (by kernel_rfl) (by kernel_rfl) (laidMet.reads h' m6)⟩
theorem tabs {W : World} (h : laidMetH Tryd.prog laidL W) : Tabs W := tabs_of (l := laidL) h (by simp [laidL]) (by simp [laidL]) (by simp [laidL]) (by simp [laidL]) (by simp [laidL]) (by simp [laidL])
theorem globs {W : World} (hT : Tabs W) : ∀ g p, E0.glob g = some p → LeafR W (allK W) noA [] p.leaf (.pointer (some ⟨g, 0, none⟩)) := by
  obtain ⟨h, h0, h6, h7⟩ := hT
  intro g p hp
  have hp : gl g = some p := hp
  unfold gl at hp
  cases e0 : Nat.beq g 0 with
  | true => rw [e0] at hp; cases hp; rw [Nat.eq_of_beq_eq_true e0]; exact h0
  | false =>
    cases e6 : Nat.beq g 6 with
    | true => rw [e0, e6] at hp; cases hp; rw [Nat.eq_of_beq_eq_true e6]; exact h6
    | false =>
      cases e7 : Nat.beq g 7 with
      | true => rw [e0, e6, e7] at hp; cases hp; rw [Nat.eq_of_beq_eq_true e7]; exact h7
      | false =>
        rw [e0, e6, e7] at hp
        exact Go.Proofs.YtdlbnlbajnafdaaDoor.globs h g p hp
def layA {k : Kd} (xs : List k.T) : Obj → Obj
  | .cells _ t frozen => .cells (xs.flatMap k.vals).toArray t frozen
  | o => o
def layI (b : Nat) : Obj → Obj
  | .cells _ t frozen => .cells #[.iface 261 (.pointer (some ⟨b, 0, none⟩))] t frozen
  | o => o
def sSyntax : ByteArray := ⟨#[105, 110, 118, 97, 108, 105, 100, 32, 115, 121, 110, 116, 97, 120]⟩
def sRange : ByteArray := ⟨#[118, 97, 108, 117, 101, 32, 111, 117, 116, 32, 111, 102, 32, 114, 97, 110, 103, 101]⟩
noncomputable def laidWorld (os : Os) : World :=
  let W := Go.Proofs.YtdlbnlbajnafdaaDoor.laidWorld os
  let n := W.heap.size
  { W with heap := (((((W.heap.modify 0 (layA (k := wordk) U.wordsL)).modify 1 (layA (k := bndk) U.boundL)).modify 6 (layI n)).modify 7 (layI (n + 1))).push (.cells #[.string sSyntax] 263)).push (.cells #[.string sRange] 263) }
end Cm
end Go.Proofs.YtdlbnlbajnafdaaDoor
end
