/- One cell that is lent: an atomic number. -/
import Derived.Test.YtmnbcnhpklejcaaDoorZEvSpec
import Derived.Laws.LoneSync
set_option linter.unusedVariables false
namespace Go.Ev
open Go.RowKit

/-- A contract over one int64 behind a pointer, and plain data. -/
def cellSpec (ks : List Kd) (f : Int → tup ks → Slot × Int) : FSpec :=
  { ps := .raw :: datas ks, g := fun as bs => match as with
    | .one (.ptr 0 0) :: as => match bs with
      | [.box [.dat (.int .i64) x]] => match packAll ks as with
        | some y => some { rs := (f x y).1, upd := [.box [.dat (.int .i64) ((f x y).2 : Int)]] }
        | none => none
      | _ => none
    | _ => none }

section
variable {P : Program} {E : Env} {f : FuncId}

theorem cellSpec_args {ks : List Kd} {g : Int → tup ks → Slot × Int} {args : List AV} {bs : List Blk} {r : SRes} (hr : (cellSpec ks g).g args bs = some r) :
    ∃ (as : List AV) (x : Int) (y : tup ks), args = .one (.ptr 0 0) :: as ∧ bs = [.box [.dat (.int .i64) x]] ∧ packAll ks as = some y ∧ r = { rs := (g x y).1, upd := [.box [.dat (.int .i64) ((g x y).2 : Int)]] } := by
  unfold cellSpec at hr
  simp only at hr
  split at hr
  · rename_i as
    split at hr
    · rename_i x
      split at hr
      · rename_i y hy
        cases hr
        exact ⟨as, x, y, rfl, rfl, hy, rfl⟩
      · cases hr
    · cases hr
  · cases hr

/-- Plain data, however many blocks are there. -/
theorem packAll_R' {w : World} {K : KSet} {A : Asg} {h : Heap} : ∀ {ks : List Kd} {args : List AV} {x : tup ks} {vs : List Value}, packAll ks args = some x → All2 (AVR w K A h) args vs → All2 (AVR w K A h) (toAVs ks x) vs := by
  intro ks
  induction ks with
  | nil =>
    intro args x vs hp hv
    cases args with
    | nil => cases hv; exact .nil
    | cons _ _ => simp [packAll] at hp
  | cons k ks ih =>
    intro args x vs hp hv
    cases args with
    | nil => simp [packAll] at hp
    | cons v as =>
      simp only [packAll] at hp
      split at hp
      · rename_i y fz hq
        split at hp
        · rename_i ys hqs
          cases hp
          cases hv with
          | @cons _ u _ _ h0 hv =>
            refine .cons ?_ (ih hqs hv)
            have key : ∀ {l : Leaf} {u : Value} {k : Kd} {z : k.T} {f : List Nat}, packOne [] k l = some (z, f) → LeafR w K A h l u → Kd.R w K k z [u] := by
              intro l u k z f hp hl
              cases l with
              | dat k' y =>
                simp only [packOne, Option.map_eq_some_iff, Prod.mk.injEq] at hp
                obtain ⟨z', hz, rfl, rfl⟩ := hp
                exact R_cast hz hl
              | kb b =>
                simp only [packOne, Option.map_eq_some_iff, Prod.mk.injEq] at hp
                obtain ⟨z', hz, rfl, rfl⟩ := hp
                exact R_cast (k := .bool) hz (by rw [show u = _ from hl]; exact rfl)
              | clip k' xs =>
                simp only [packOne, Option.map_eq_some_iff, Prod.mk.injEq] at hp
                obtain ⟨z', hz, rfl, rfl⟩ := hp
                exact R_cast (k := .sl k') hz hl.1
              | nn b k' xs =>
                simp only [packOne, Option.map_eq_some_iff, Prod.mk.injEq] at hp
                obtain ⟨z', hz, rfl, rfl⟩ := hp
                exact R_cast (k := .sl k') hz hl.1
              | nils =>
                cases k with
                | sl k' =>
                  simp only [packOne, Option.some.injEq, Prod.mk.injEq] at hp
                  obtain ⟨rfl, rfl⟩ := hp
                  exact ⟨none, 0, by rw [show u = _ from hl]; rfl, Nat.le_refl _, .inl rfl⟩
                | _ => cases hp
              | emp =>
                obtain ⟨a1, hl⟩ := hl
                cases k with
                | sl k' =>
                  simp only [packOne, Option.some.injEq, Prod.mk.injEq] at hp
                  obtain ⟨rfl, rfl⟩ := hp
                  exact ⟨a1, 0, by rw [hl]; rfl, Nat.le_refl _, .inl rfl⟩
                | _ => cases hp
              | row id => simp [packOne, Heap.get] at hp
              | _ => cases hp
            have keyL : ∀ {k : Kd} {ls : List Leaf} {cs : List Value} {z : k.T} {r : List Leaf} {f : List Nat}, packL [] k ls = some (z, r, f) → All2 (LeafR w K A h) ls cs → ∃ c1 c2, cs = c1 ++ c2 ∧ Kd.R w K k z c1 ∧ All2 (LeafR w K A h) r c2 := by
              intro k
              induction k with
              | un =>
                intro ls cs z r f hp hl
                simp only [packL, Option.some.injEq, Prod.mk.injEq] at hp
                obtain ⟨_, rfl, _⟩ := hp
                exact ⟨[], cs, rfl, rfl, hl⟩
              | pr a b iha ihb =>
                intro ls cs z r f hp hl
                simp only [packL] at hp
                split at hp
                · rename_i x1 r1 f1 h1
                  split at hp
                  · rename_i x2 r2 f2 h2
                    simp only [Option.some.injEq, Prod.mk.injEq, app_eq] at hp
                    obtain ⟨rfl, rfl, rfl⟩ := hp
                    obtain ⟨c1, c2, e1, R1, l1⟩ := iha h1 hl
                    obtain ⟨c3, c4, e2, R2, l2⟩ := ihb h2 l1
                    exact ⟨c1 ++ c3, c4, by rw [e1, e2, List.append_assoc], ⟨c1, c3, rfl, R1, R2⟩, l2⟩
                  · cases hp
                · cases hp
              | _ =>
                intro ls cs z r f hp hl
                cases hl with
                | nil => cases hp
                | cons h0 h1 =>
                  simp only [packL] at hp
                  split at hp
                  · rename_i hq
                    simp only [Option.some.injEq, Prod.mk.injEq] at hp
                    obtain ⟨rfl, rfl, rfl⟩ := hp
                    exact ⟨[_], _, rfl, key hq h0, h1⟩
                  · cases hp
            unfold packAV at hq
            cases hb : bxor v.isAgg k.isAgg with
            | true => rw [hb] at hq; cases hq
            | false =>
              rw [hb] at hq
              simp only [cond_false] at hq
              split at hq
              · rename_i y' f' hq2
                cases hq
                cases v with
                | one l =>
                  have hag : k.isAgg = false := by
                    cases hh : k.isAgg with
                    | false => rfl
                    | true => rw [hh] at hb; cases hb
                  obtain ⟨c1, c2, e, R1, r1⟩ := keyL (ls := [l]) (cs := [_]) hq2 (.cons h0 .nil)
                  cases r1
                  rw [List.append_nil] at e
                  rw [← e] at R1
                  have h1 := Kd.R_cell R1 _ (List.mem_singleton.2 rfl)
                  refine toAV_R ?_ (fun hh => by rw [hag] at hh; cases hh) fun _ => h1
                  have hc : u.cells = #[u] := by cases u <;> first | rfl | cases h1
                  rw [hc]
                  exact R1
                | agg ls =>
                  obtain ⟨cs, rfl, hl⟩ := h0
                  have hag : k.isAgg = true := by
                    cases hh : k.isAgg with
                    | true => rfl
                    | false => rw [hh] at hb; cases hb
                  obtain ⟨c1, c2, e, R1, r1⟩ := keyL hq2 hl
                  cases r1
                  rw [List.append_nil] at e
                  rw [← e] at R1
                  exact toAV_R (by show Kd.R w K k _ cs.toArray.toList; simpa using R1) (fun _ => ⟨_, rfl⟩) fun hh => by rw [hag] at hh; cases hh
              · cases hq
        · cases hp
      · cases hp

theorem cellSpec_ok {E0 : Env} {fns : List (Nat × FSpec)} (T : TabOK P E.tt) (FO : AllFn P E0 fns) (hfn : E.fn = fnOf fns) (hg : E0.glob = E.glob) (hm : P.follows .mixedOrders = true) {fn : Func} (hf : P.funcs[f]? = some fn) (hname : (fn.name == "runtime.NumGoroutine") = false)
    {ks : List Kd} {g : Int → tup ks → Slot × Int} (rm : List PM)
    (h : ∀ (x : Int) y, (evFn E fn rm (.one (.ptr 0 0) :: toAVs ks y) [.box [.dat (.int .i64) x]]).val = some ⟨(g x y).1, [.box [.dat (.int .i64) ((g x y).2 : Int)]], []⟩) (IO : ItOK P E := by exact itOK_none rfl) (L : ∀ c, fn.body = some c → LsOK (evI 2) (E.lend 1) c := by exact fun c _ => LsOK_none rfl c) : SpecOK P E0 f (cellSpec ks g) := by
  have FO' : FnsOK P E := fun t sp hsp => (fns_of FO t sp (by rw [← hfn]; exact hsp)).env hg
  refine SpecOK.env hg.symm ?_
  intro F O args bs r hr hc w K A vs H hv
  obtain ⟨as, x, y, rfl, rfl, hy, rfl⟩ := cellSpec_args hr
  cases hv with
  | cons h0 hv =>
    exact evFn_R T FO' IO L hm hf hname (h x y) rfl rfl rfl F O hc w K A _ H (.cons h0 (packAll_R' hy hv))

theorem setCell_one {w : World} {b : Nat} {u v : Value} {t : TypeId} {fr : Nat × Nat} (hc : w.heap[b]? = some (.cells #[u] t fr)) : w.setCell ⟨b, 0, none⟩ v = w.setRow b #[v] := by
  have e : ∀ (f g : Obj → Obj), f (.cells #[u] t fr) = g (.cells #[u] t fr) → w.heap.modify b f = w.heap.modify b g := fun f g h => by
    apply Array.ext_getElem?
    intro i
    rw [Array.getElem?_modify, Array.getElem?_modify]
    by_cases hi : b = i
    · subst hi
      simp [hc, h]
    · simp [hi]
  unfold World.setCell World.setRow
  congr 1
  exact e _ _ rfl

/-- The lone cell of a box that is lent. -/
theorem lone_cell {w : World} {K : KSet} {A : Asg} {C : Ctx} {x : Int} (H : HR C w K A (zipN 0 [.box [.dat (.int .i64) x]])) : ∃ t, w.heap[A.m 0]? = some (.cells #[.int .i64 x] t (0, 0)) := by
  obtain ⟨cs, t, hc, h2, _⟩ := H.blk 0 (.box [.dat (.int .i64) x]) rfl
  cases h2 with
  | cons h0 hn =>
    cases hn
    rw [int_R h0] at hc
    exact ⟨t, hc⟩

theorem cell_set {w : World} {K : KSet} {A : Asg} {C : Ctx} {x y : Int} {t : TypeId} (H : HR C w K A (zipN 0 [.box [.dat (.int .i64) x]])) (hc : w.heap[A.m 0]? = some (.cells #[.int .i64 x] t (0, 0))) :
    HR C (w.setCell ⟨A.m 0, 0, none⟩ (.int .i64 y)) K A (zipN 0 [.box [.dat (.int .i64) y]]) ∧ Ext K A (zipN 0 [.box [.dat (.int .i64) x]]) w K A (zipN 0 [.box [.dat (.int .i64) y]]) (w.setCell ⟨A.m 0, 0, none⟩ (.int .i64 y)) := by
  rw [setCell_one hc]
  have := H.setBox (id := 0) (ls := [.dat (.int .i64) x]) (ls' := [.dat (.int .i64) y]) (cs' := [.int .i64 y]) rfl (.cons rfl .nil) rfl
  exact this

theorem store_ok {fn : Func} (hf : P.funcs[f]? = some fn) (hname : (fn.name == "runtime.NumGoroutine") = false) (hb : fn.body.isNone = true) (hn : Extern.findNext fn = none)
    (he : Extern.find fn = some Extern.Atomic.storeT) : SpecOK P E f (cellSpec [.int .i64] fun _ y => (.tup [], y.1)) := by
  intro F O args bs r hr hc w K A vs H hv
  obtain ⟨as, x, y, rfl, rfl, hy, rfl⟩ := cellSpec_args hr
  obtain ⟨t, hcell⟩ := lone_cell H
  have h1 : w.cell? ⟨A.m 0, 0, none⟩ = some (.int .i64 x) := by unfold World.cell?; rw [hcell]; rfl
  have h2 : w.frozen? ⟨A.m 0, 0, none⟩ = false := by unfold World.frozen?; rw [hcell]; rfl
  cases hv with
  | cons h0 hv =>
    have hv := packAll_R' hy hv
    simp only [toAVs] at hv
    obtain ⟨u0, rfl, hy0⟩ := all2_one hv
    · rw [h0.2, int_R (w := w) (K := K) (A := A) (h := zipN 0 [.box [.dat (.int .i64) x]]) hy0]
      obtain ⟨H', X'⟩ := cell_set (y := y.1) H hcell
      exact .inl ⟨_, _, run_call_store hf hname hb hn he h1 h2, K, A, H', X', ⟨[], rfl, .nil⟩, rfl⟩

theorem load_ok {fn : Func} (hf : P.funcs[f]? = some fn) (hname : (fn.name == "runtime.NumGoroutine") = false) (hb : fn.body.isNone = true) (hn : Extern.findNext fn = none)
    (he : Extern.find fn = some (Extern.Atomic.loadT (.int .i64))) : SpecOK P E f (cellSpec [] fun x _ => (one (.dat (.int .i64) x), x)) := by
  intro F O args bs r hr hc w K A vs H hv
  obtain ⟨as, x, y, rfl, rfl, hy, rfl⟩ := cellSpec_args hr
  obtain ⟨t, hcell⟩ := lone_cell H
  have h1 : w.cell? ⟨A.m 0, 0, none⟩ = some (.int .i64 x) := by unfold World.cell?; rw [hcell]; rfl
  cases hv with
  | cons h0 hv =>
    have hv := packAll_R' hy hv
    simp only [toAVs] at hv
    cases hv
    rw [h0.2]
    exact .inl ⟨_, _, run_call_load hf hname hb hn .i64 he h1, K, A, H, Ext.refl _ _ _ _, rfl, rfl⟩

theorem cas_ok {fn : Func} (hf : P.funcs[f]? = some fn) (hname : (fn.name == "runtime.NumGoroutine") = false) (hb : fn.body.isNone = true) (hn : Extern.findNext fn = none)
    (he : Extern.find fn = some (Extern.Atomic.casT (.int .i64))) : SpecOK P E f (cellSpec [.int .i64, .int .i64] fun x y => (one (.dat .bool (decide (x = y.1))), bif decide (x = y.1) then y.2.1 else x)) := by
  intro F O args bs r hr hc w K A vs H hv
  obtain ⟨as, x, y, rfl, rfl, hy, rfl⟩ := cellSpec_args hr
  obtain ⟨t, hcell⟩ := lone_cell H
  have h1 : w.cell? ⟨A.m 0, 0, none⟩ = some (.int .i64 x) := by unfold World.cell?; rw [hcell]; rfl
  have h2 : w.frozen? ⟨A.m 0, 0, none⟩ = false := by unfold World.frozen?; rw [hcell]; rfl
  cases hv with
  | cons h0 hv =>
    have hv := packAll_R' hy hv
    simp only [toAVs] at hv
    obtain ⟨u0, u1, rfl, hy0, hy1⟩ := all2_two hv
    · · rw [h0.2, int_R (w := w) (K := K) (A := A) (h := zipN 0 [.box [.dat (.int .i64) x]]) hy0, int_R (w := w) (K := K) (A := A) (h := zipN 0 [.box [.dat (.int .i64) x]]) hy1]
        obtain ⟨o, z, _⟩ := y
        by_cases hx : x = o
        · subst hx
          obtain ⟨H', X'⟩ := cell_set (y := z) H hcell
          refine .inl ⟨_, _, run_call_cas_hit hf hname hb hn .i64 he h1 h2, K, A, ?_, ?_, ?_, rfl⟩
          · simpa using H'
          · simpa using X'
          · show [_] = [_]
            simp
        · refine .inl ⟨_, _, run_call_cas_miss hf hname hb hn .i64 he h1 h2 hx, K, A, ?_, ?_, ?_, rfl⟩
          · simpa [hx] using H
          · simpa [hx] using Ext.refl _ _ _ _
          · show [_] = [_]
            simp [hx]
end
end Go.Ev
