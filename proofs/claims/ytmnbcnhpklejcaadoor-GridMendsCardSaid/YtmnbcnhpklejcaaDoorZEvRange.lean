/- Ranges over functions: one round, the statement, the marks. -/
import Derived.Test.YtmnbcnhpklejcaaDoorZEvLex
import Derived.RangeFuncLeaves
set_option linter.unusedVariables false
namespace Go.Ev
open Go.RowKit

def toExit : Ex → Exit
  | .nrm => .normal
  | .ret => .ret
  | .exit id => .exit id

section
variable {P : Program} {F : Fence} {n : Nat} {C : Ctx} {X : Start} {w : World} {K : KSet} {A : Asg} {h : Heap}

/-- The same, of other tables. -/
theorem HR.tabs {E : Env} (hg : E.glob = C.E.glob) (H : HR C w K A h) : HR { E := E, w0 := C.w0, lent := C.lent, K0 := C.K0, D := C.D } w K A h :=
  ⟨H.blk, H.inj, H.own, H.kset, H.k0, fun g p hp => H.glob g p (by rw [← hg]; exact hp), H.os, H.tape, H.output, H.size, H.frame⟩
theorem HR.tabs' {E : Env} (hg : E.glob = C.E.glob) (H : HR { E := E, w0 := C.w0, lent := C.lent, K0 := C.K0, D := C.D } w K A h) : HR C w K A h :=
  ⟨H.blk, H.inj, H.own, H.kset, H.k0, fun g p hp => H.glob g p (by show E.glob g = _; rw [hg]; exact hp), H.os, H.tape, H.output, H.size, H.frame⟩

theorem FnsOK.tabs {E E' : Env} (hf : E'.fn = E.fn) (hg : E'.glob = E.glob) (FO : FnsOK P E) : FnsOK P E' := fun f sp hsp F O args bs r hr => by
  have D := FO f sp (by rw [← hf]; exact hsp) F O args bs r hr
  intro hc w K A vs H hv
  exact (D hc w K A vs ⟨H.blk, H.inj, H.own, H.kset, H.k0, fun g p hp => H.glob g p (by show E'.glob g = _; rw [hg]; exact hp), H.os, H.tape, H.output, H.size, H.frame⟩ hv).mono
    fun v w' ⟨K', A', a, b⟩ => ⟨K', A', ⟨a.blk, a.inj, a.own, a.kset, a.k0, fun g p hp => a.glob g p (by show E.glob g = _; rw [← hg]; exact hp), a.os, a.tape, a.output, a.size, a.frame⟩, b⟩

/-- The slots at a function's door. -/
theorem slots_init {nt : Nat} {args : List AV} {vs : List Value} (hle : args.length ≤ nt) (hargs : All2 (AVR w K A h) args vs) :
    SlotsR w K A h { n := nt, m := argsT 0 args (Tm.full 10) } { tmps := vs.toArray ++ Array.replicate (nt - vs.toArray.size) undef, defers := [] } := by
  have hvs : vs.length = args.length := hargs.len.symm
  refine ⟨?_, fun i s hi => ?_⟩
  · simp only [Array.size_append, Array.size_replicate, List.size_toArray]
    omega
  · have hi2 := (Tms.at_some.1 hi).2
    simp only [] at hi2
    have hfull := Tm.get_full 10 i
    rcases argsT_get (args := args) (k := 0) (i := i) (m := Tm.full 10) with h0 | ⟨_, x, hx, h0⟩ | h0
    · rw [hi2] at h0; subst h0; trivial
    · rw [hi2] at h0
      subst h0
      rw [Nat.sub_zero] at hx
      obtain ⟨y, hy, hR⟩ := hargs.nth hx
      have hlt : i < vs.length := (List.getElem?_eq_some_iff.1 hy).1
      have : (vs.toArray ++ Array.replicate (nt - vs.toArray.size) undef).getD i undef = y := by
        have hy' : vs[i] = y := by rw [List.getElem?_eq_getElem hlt] at hy; exact Option.some.inj hy
        simp [Array.getD_eq_getD_getElem?, Array.getElem?_append, hlt, hy']
      rw [this]
      exact hR
    · rw [hi2, hfull] at h0; subst h0; trivial

/-! ### An object that is no row of cells, turned -/
section
variable {w' : World} (hc : ∀ (b : Nat) cs t fr, w.heap[b]? = some (.cells cs t fr) → w'.heap[b]? = some (.cells cs t fr))
include hc
theorem Kd.R_cells : ∀ {k : Kd} {x : k.T} {l : List Value}, Kd.R w K k x l → Kd.R w' K k x l
  | .int _, _, _, h => h
  | .bool, _, _, h => h
  | .str, _, _, h => h
  | .sl k, _, _, ⟨A, cap, h, hl, h'⟩ => ⟨A, cap, h, hl, h'.imp id fun ⟨b, off, cs, t, fr, e, hb, hcs, hi⟩ =>
      ⟨b, off, cs, t, fr, e, hb, hc b _ _ _ hcs, fun i h => Kd.R_cells (hi i h)⟩⟩
  | .un, _, _, h => h
  | .pr _ _, _, _, ⟨l1, l2, h, h1, h2⟩ => ⟨l1, l2, h, Kd.R_cells h1, Kd.R_cells h2⟩
theorem RowR_cells {k : Kd} : ∀ {xs : List k.T} {l : List Value}, RowR w K k xs l → RowR w' K k xs l
  | [], _, h => h
  | _ :: _, _, ⟨l1, l2, h, h1, h2⟩ => ⟨l1, l2, h, Kd.R_cells hc h1, RowR_cells h2⟩
theorem LeafR_cells {l : Leaf} {v : Value} (H : LeafR w K A h l v) : LeafR w' K A h l v := by
  cases l with
  | dat k y => exact Kd.R_cells hc (k := k) H
  | clip k xs => exact ⟨Kd.R_cells hc (k := .sl k) H.1, H.2⟩
  | nn b k xs => exact ⟨Kd.R_cells hc (k := .sl k) H.1, H.2⟩
  | dptr k y =>
    obtain ⟨b, off, cs, t, fr, e, hb, hcs, hR⟩ := H
    exact ⟨b, off, cs, t, fr, e, hb, hc b _ _ _ hcs, Kd.R_cells hc hR⟩
  | aptr k y =>
    obtain ⟨b, off, cs, t, fr, e, hb, hcs, hR⟩ := H
    exact ⟨b, off, cs, t, fr, e, hb, hc b _ _ _ hcs, fun i hi => Kd.R_cells hc (hR i hi)⟩
  | _ => exact H
theorem AVR_cells {l : AV} {v : Value} (H : AVR w K A h l v) : AVR w' K A h l v := by
  cases l with
  | one l => exact LeafR_cells hc H
  | agg ls =>
    obtain ⟨cs, e, H⟩ := H
    exact ⟨cs, e, H.imp fun _ _ => LeafR_cells hc⟩
theorem SlotR_cells {l : Slot} {v : Value} (H : SlotR w K A h l v) : SlotR w' K A h l v := by
  cases l with
  | av l => exact AVR_cells hc H
  | tup ls =>
    obtain ⟨cs, e, H⟩ := H
    exact ⟨cs, e, H.imp fun _ _ => AVR_cells hc⟩
theorem SlotsR_cells {t : Tms} {a : Act} (H : SlotsR w K A h t a) : SlotsR w' K A h t a := ⟨H.len, fun i s hi => SlotR_cells hc (H.at_ i s hi)⟩
end

/-- An object that is read only (in K), and holds no cells, may be turned. -/
theorem HR.turn {D : Nat} {o : Obj} (o' : Obj) (H : HR C w K A h) (ho : w.heap[D]? = some o) (hno : ∀ cs t fr, o ≠ .cells cs t fr) (hD : C.w0.heap.size ≤ D) (hK : K D) :
    HR C (w.putObj D o') K A h := by
  have hlt : D < w.heap.size := (Array.getElem?_eq_some_iff.1 ho).1
  have hoth : ∀ b, b ≠ D → (w.putObj D o').heap[b]? = w.heap[b]? := fun b hb => World.putObj_heap_other hb
  have hc : ∀ (b : Nat) cs t fr, w.heap[b]? = some (.cells cs t fr) → (w.putObj D o').heap[b]? = some (.cells cs t fr) := fun b cs t fr hb => by
    by_cases e : b = D
    · rw [e, ho] at hb
      exact absurd (Option.some.inj hb) (hno cs t fr)
    · rw [hoth b e]; exact hb
  have hu : ∀ id, Uses A h id → A.m id ≠ D := fun id hu e => (H.own id hu).1 (by rw [e]; exact hK)
  refine ⟨fun id b hb => ?_, H.inj, fun id hu => ?_, fun b hb => ?_, H.k0, fun g p hp => LeafR_cells hc (l := p.leaf) (H.glob g p hp), H.os, H.tape, H.output, ?_, fun b hb hl => ?_⟩
  · have B := H.blk id b hb
    cases b with
    | box ls =>
      obtain ⟨cs, t, h1, h2, h3⟩ := B
      exact ⟨cs, t, hc _ _ _ _ h1, h2.imp fun _ _ => LeafR_cells hc, h3⟩
    | row e k xs =>
      obtain ⟨l, h1, h2, h3, h4⟩ := B
      refine ⟨l, ?_, RowR_cells hc h2, h3, h4⟩
      obtain ⟨hl, h1 | ⟨g, cap, cur, fz, hv, hb, hcs, r⟩⟩ := h1
      · exact ⟨hl, .inl h1⟩
      · exact ⟨hl, .inr ⟨g, cap, cur, fz, hv, hb, hc _ _ _ _ hcs, r⟩⟩
    | frz k xs =>
      obtain ⟨h1, h2, h3⟩ := B
      exact ⟨Kd.R_cells hc (k := .sl k) h1, h2, h3⟩
    | dead => trivial
    | lrec b pe rl =>
      obtain ⟨r, h1, h2⟩ := B
      exact ⟨r, by rw [hoth _ (hu id (by unfold Uses; rw [hb]; trivial))]; exact h1, h2⟩
  · obtain ⟨a, b, c⟩ := H.own id hu
    exact ⟨a, by rw [World.putObj_size]; exact b, c⟩
  · obtain ⟨a, c⟩ := H.kset b hb
    exact ⟨by rw [World.putObj_size]; exact a, c⟩
  · rw [World.putObj_size]; exact H.size
  · rw [hoth b (by omega)]; exact H.frame b hb hl

/-- The function leaves: the marks are taken. -/
theorem leaves_marks {fn : Func} {tmps : Array Value} {R : Ending → World → Prop} {t : Tms} {d0 : List Deferred} : ∀ (ds : List Deferred) {w : World}, HR C w K A h → Ext X.K X.A X.h X.w K A h w → SlotsR w K A h t { tmps := tmps, defers := d0 } → DefR C X w K ds →
    (∀ w', HR C w' K A h → Ext X.K X.A X.h X.w K A h w' → SlotsR w' K A h t { tmps := tmps, defers := d0 } → LeavesIn F n P fn tmps R [] .returning w') → LeavesInM F n P fn tmps R ds .returning w
  | [], w, H, E1, S, hd, hk => hk w H E1 S
  | d :: ds, w, H, E1, S, hd, hk => by
    obtain ⟨D, rfl, h0, hx, h1, h2⟩ := hd.2 d (by simp)
    have hno : ∀ cs t fr, Obj.deferred (some []) ≠ .cells cs t fr := fun _ _ _ h => by cases h
    have hoth : ∀ b, b ≠ D → (w.putObj D (.deferred none)).heap[b]? = w.heap[b]? := fun b hb => World.putObj_heap_other hb
    have hc : ∀ (b : Nat) cs t fr, w.heap[b]? = some (.cells cs t fr) → (w.putObj D (.deferred none)).heap[b]? = some (.cells cs t fr) := fun b cs t fr hb => by
      by_cases e : b = D
      · rw [e, h2] at hb; cases hb
      · rw [hoth b e]; exact hb
    refine ⟨by simp, .inl ⟨D, _, rfl, run_takeDeferred h2, ?_⟩⟩
    refine leaves_marks ds (H.turn _ h2 hno h0 h1) ⟨fun b hb => ⟨(E1.kk b hb).1, ?_⟩, E1.hh, E1.rr, E1.ff⟩ (SlotsR_cells hc S) ⟨(List.nodup_cons.1 hd.1).2, fun d' hd' => ?_⟩ hk
    · rw [hoth b (fun e => hx (e ▸ hb))]
      exact (E1.kk b hb).2
    · obtain ⟨D', rfl, g0, gx, g1, g2⟩ := hd.2 d' (by simp [hd'])
      refine ⟨D', rfl, g0, gx, g1, ?_⟩
      have hne : D' ≠ D := fun e => (List.nodup_cons.1 hd.1).1 (by rw [← e]; exact hd')
      rw [hoth D' hne]
      exact g2
end
end Go.Ev
