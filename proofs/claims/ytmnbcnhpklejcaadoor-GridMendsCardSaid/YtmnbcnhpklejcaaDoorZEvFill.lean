/- Struct, array and slice literals. -/
import Derived.Test.YtmnbcnhpklejcaaDoorZEvNew
import Derived.Great.FillDense
import Derived.Great.BuildSlice
set_option linter.unusedVariables false
namespace Go.Ev
open Go.RowKit

theorem zip_splice (off : Nat) : ∀ (vs : List Value) (s : Nat) (cs : Array Value), off + s + vs.length ≤ cs.size →
    ((vs.zipIdx s).foldl (fun cs (x : Value × Nat) => cs.setIfInBounds (off + x.2) x.1) cs).toList = cs.toList.take (off + s) ++ vs ++ cs.toList.drop (off + s + vs.length)
  | [], s, cs, _ => by simp
  | v :: vs, s, cs, hle => by
    simp only [List.zipIdx_cons, List.foldl_cons]
    rw [zip_splice off vs (s + 1) (cs.setIfInBounds (off + s) v) (by simp at hle ⊢; omega)]
    rw [Array.toList_setIfInBounds]
    have hlt : off + s < cs.toList.length := by simp at hle ⊢; omega
    apply List.ext_getElem?
    intro j
    simp only [List.getElem?_append, List.length_append, List.length_take, List.length_set, List.getElem?_take, List.getElem?_drop, List.getElem?_set, List.length_cons, List.getElem?_cons]
    have h1 : min (off + (s + 1)) cs.toList.length = off + s + 1 := by omega
    have h2 : min (off + s) cs.toList.length = off + s := by omega
    rw [h1, h2]
    by_cases c1 : j < off + s
    · have c2 : j < off + s + 1 := by omega
      have c3 : j < off + (s + 1) := by omega
      have c4 : j < off + s + (vs.length + 1) := by omega
      have c5 : ¬ off + s = j := by omega
      have c6 : j < off + s + 1 + vs.length := by omega
      simp [c1, c2, c3, c4, c5, c6]
    · by_cases c2 : j = off + s
      · subst c2
        have c4 : off + s < off + s + 1 + vs.length := by omega
        have hlt' : off + s < cs.size := by simpa using hlt
        simp [c4, hlt', show off + s < off + (s + 1) by omega]
      · by_cases c3 : j < off + s + 1 + vs.length
        · have c5 : ¬ j < off + s + 1 := by omega
          have c6 : j < off + s + (vs.length + 1) := by omega
          have c7 : ¬ j - (off + s) = 0 := by omega
          simp [c1, c3, c5, c6, c7]
          congr 1
        · have c5 : ¬ j < off + s + 1 := by omega
          have c6 : ¬ j < off + s + (vs.length + 1) := by omega
          have c7 : ¬ off + s = off + (s + 1) + vs.length + (j - (off + s + 1 + vs.length)) := by omega
          simp [c3, c6, c7]
          congr 1
          omega

section
variable {P : Program} {C : Ctx} {w : World} {K : KSet} {A : Asg} {h : Heap} {r : OR}

def PartsR (w : World) (K : KSet) (A : Asg) (h : Heap) (a b : List (Nat × AV)) (c : List (Nat × Value)) : Prop := a = b ∧ All2 (fun (x : Nat × AV) (y : Nat × Value) => x.1 = y.1 ∧ AVR w K A h x.2 y.2) b c

theorem fillR_R {place : Nat → Option (Nat × Nat)} {fl : List (Nat × Nat)} (hp : ∀ i p, nth fl i = some p → place i = some p) :
    ∀ {ps : List (Nat × AV)} {vs : List (Nat × Value)} {ls m : List Leaf} {cells : Array Value}, All2 (fun (x : Nat × AV) (y : Nat × Value) => x.1 = y.1 ∧ AVR w K A h x.2 y.2) ps vs →
    All2 (LeafR w K A h) ls cells.toList → fillR fl ls ps = some m → ∃ cells', Instr.fill place cells vs = some cells' ∧ All2 (LeafR w K A h) m cells'.toList
  | [], _, ls, m, cells, .nil, hl, hf => by
    simp only [fillR, Option.some.injEq] at hf
    subst hf
    exact ⟨cells, rfl, hl⟩
  | (i, av) :: ps, (j, v) :: vs, ls, m, cells, .cons ⟨hij, hav⟩ hps, hl, hf => by
    simp only at hij hav
    subst hij
    simp only [fillR] at hf
    split at hf
    · rename_i off size hnth
      have hc := (bif_some hf).1
      replace hf := (bif_some hf).2
      simp only [Bool.and_eq_true] at hc
      have hlen : av.leafs.length = size := by rw [← len_eq]; exact Nat.eq_of_beq_eq_true hc.1.1
      obtain ⟨cs, hvc, hall, hone⟩ := av_cells hav hc.1.2
      have hle0 : off + size ≤ ls.length := by have := Nat.le_of_ble_eq_true hc.2; rw [len_eq] at this; exact this
      split at hf
      · rename_i m1 hs
        obtain ⟨e1, e2⟩ := splice_eq hs
        have hcl : cs.length = size := by rw [← hall.len]; exact hlen
        have hsz : v.cells.size = size := by rw [hvc]; simpa using hcl
        have hz : off + cs.length ≤ cells.size := by
          have := hl.len
          simp at this
          omega
        · have hzs := zip_splice off cs 0 cells (by omega)
          simp only [Nat.add_zero] at hzs
          obtain ⟨cells', h1, h2⟩ := fillR_R hp (cells := (cs.zipIdx.foldl (fun cs (x : Value × Nat) => cs.setIfInBounds (off + x.2) x.1) cells)) hps (by
            rw [hzs, e1, ← hall.len]
            exact ((hl.take off).app hall).app (hl.drop _)) hf
          refine ⟨cells', ?_, h2⟩
          simp only [Instr.fill, hp i _ hnth]
          have c1 : ¬ (v.cells.size ≠ size ∨ off + v.cells.size > cells.size) := by
            rw [hsz]
            rw [hcl] at hz
            omega
          rw [if_neg (by simpa using c1)]
          have e9 : v.cells.zipIdx.foldl (fun cs (x : Value × Nat) => cs.setIfInBounds (off + x.2) x.1) cells = cs.zipIdx.foldl (fun cs (x : Value × Nat) => cs.setIfInBounds (off + x.2) x.1) cells := by
            rw [hvc]
            simp
          exact (congrArg (fun q => Instr.fill place q vs) e9).trans h1
      · cases hf
    · cases hf

theorem partsAV_R {σ : St} {a : Act} (H : HR C w K A σ.h) (S : SlotsR w K A σ.h σ.t a) : ∀ {ps : List (Nat × Operand)} {vs : List (Nat × AV)}, partsAV C.E σ ps = some vs →
    All2 (fun (x : Nat × AV) (y : Nat × Value) => x.1 = y.1 ∧ AVR w K A σ.h x.2 y.2) vs (ps.map fun (i, x) => (i, a.eval x))
  | [], vs, h => by
    simp only [partsAV, Option.some.injEq] at h
    subst h
    exact .nil
  | (i, o) :: ps, vs, h => by
    simp only [partsAV] at h
    split at h
    · rename_i v hv
      split at h
      · rename_i vs' hvs
        cases h
        exact .cons ⟨rfl, opAV_R H S hv⟩ (partsAV_R H S hvs)
      · cases h
    · cases h

theorem nth_arrFl : ∀ (n : Nat) (off sz i : Nat) (p : Nat × Nat), nth (arrFl off sz n) i = some p → p = (off + i * sz, sz)
  | 0, off, sz, i, p, h => by simp [arrFl, nth] at h
  | n + 1, off, sz, 0, p, h => by
    simp [arrFl, nth] at h
    simp [← h]
  | n + 1, off, sz, i + 1, p, h => by
    simp only [arrFl, nth] at h
    rw [nth_arrFl n _ sz i p h]
    simp [Nat.add_mul]
    omega

theorem build_R {t : TypeId} {ty : Ty} (T : TyOK P t ty) {ps : List (Nat × AV)} {vs : Array (Nat × Value)} {ls : List Leaf} (hag : ty.agg = true) (hk : known ty.z = true)
    (hps : All2 (fun (x : Nat × AV) (y : Nat × Value) => x.1 = y.1 ∧ AVR w K A h x.2 y.2) ps vs.toList) (hf : fillR ty.fl ty.z ps = some ls) :
    ∃ v, (Instr.build t vs).run P w = .ok v w ∧ AVR w K A h (.agg ls) v := by
  obtain ⟨it, zv, hit, hz, hzl⟩ := T.zero hk
  have hd := T.desc
  have fin : ∀ {place : Nat → Option (Nat × Nat)}, (∀ i p, nth ty.fl i = some p → place i = some p) → (∀ cells, Instr.fill place zv.cells vs.toList = some cells → P.built t vs.toList = some cells) →
      ∃ v, (Instr.build t vs).run P w = .ok v w ∧ AVR w K A h (.agg ls) v := fun {place} hp hb => by
    obtain ⟨cells, h1, h2⟩ := fillR_R hp hps (hzl w K A h) hf
    refine ⟨.agg cells, run_build w t vs cells (hb cells h1), cells.toList, by simp, h2⟩
  unfold Ty.agg at hag
  split at hag
  · rename_i fl e hty
    rw [hty] at hd
    obtain ⟨fs, hu, hm, _⟩ := hd
    refine fin (place := (fl.toArray[·]?)) (fun i p hp => ?_) fun cells hc => ?_
    · simp only [Ty.fl, hty, nth_eq] at hp
      simpa using hp
    · simp [Program.built, hit, hu, hz, hm]
      simpa using hc
  · rename_i n e k hty
    rw [hty] at hd
    obtain ⟨hu, hsz, _⟩ := hd
    obtain ⟨ie, hie, hs⟩ := Option.map_eq_some_iff.1 hsz
    refine fin (place := fun i => some (i * ie.size, ie.size)) (fun i p hp => ?_) fun cells hc => ?_
    · simp only [Ty.fl, hty] at hp
      rw [nth_arrFl _ _ _ _ _ hp, hs]
      simp
    · simp [Program.built, hit, hu, hz, hie]
      exact hc
  · cases hag

/-! ### A slice literal -/
theorem replicate_eq (k : Kd) (x : k.T) : ∀ n, replicateK k x n = List.replicate n x
  | 0 => rfl
  | n + 1 => by simp [replicateK, replicate_eq k x n, List.replicate_succ]

theorem made_R {k : Kd} {z : Value} (hz : Kd.R w K k k.dflt z.cells.toList) (hs : z.cells.size = k.sz) (hpos : 0 < k.sz) (n : Nat) :
    RowR w K k (List.replicate n k.dflt) ((Array.range (n * k.sz)).map (z.cells[· % z.cells.size]!)).toList := by
  refine RowR_of (by simp) fun i hi => ?_
  have hi' : i < n := by simpa using hi
  have e1 : (List.replicate n k.dflt).getD i k.dflt = k.dflt := by simp [List.getD_eq_getElem?_getD, hi']
  rw [e1]
  have e2 : (((Array.range (n * k.sz)).map (z.cells[· % z.cells.size]!)).toList.drop (i * k.sz)).take k.sz = z.cells.toList := by
    apply List.ext_getElem?
    intro j
    by_cases hj : j < k.sz
    · have hlt : i * k.sz + j < n * k.sz := by
        have : i * k.sz + k.sz ≤ n * k.sz := by
          rw [← Nat.succ_mul]
          exact Nat.mul_le_mul_right _ hi'
        omega
      have hm : (i * k.sz + j) % k.sz = j := by
        rw [Nat.mul_comm, Nat.mul_add_mod, Nat.mod_eq_of_lt hj]
      rw [List.getElem?_take_of_lt hj, List.getElem?_drop]
      simp [hlt, hs, hm, hj]
    · have : z.cells.toList.length ≤ j := by simp; omega
      rw [List.getElem?_eq_none (by simp; omega), List.getElem?_eq_none this]
  rw [e2]
  exact hz

theorem packAV_R {K' : KSet} (hk : ∀ b, K b → K' b) (H : HR C w K A h) {k : Kd} {av : AV} {v : Value} {x : k.T} {f : List Nat} (hv : AVR w K A h av v) (hp : packAV h k av = some (x, f))
    (hf : ∀ id ∈ f, ∀ e k xs, h.get id = some (.row e k xs) → Kd.R w K' (.sl k) xs [A.hd id]) : Kd.R w K' k x v.cells.toList ∧ (k.isAgg = true → ∃ cs, v = .agg cs) ∧ (k.isAgg = false → v.oneCell' = true) := by
  unfold packAV at hp
  cases hb : bxor av.isAgg k.isAgg with
  | true => rw [hb] at hp; cases hp
  | false =>
    rw [hb] at hp
    simp only [cond_false] at hp
    split at hp
    · rename_i y f' hq
      cases hp
      cases av with
      | one l =>
        have hag : k.isAgg = false := by
          cases hh : k.isAgg with
          | false => rfl
          | true => rw [hh] at hb; cases hb
        obtain ⟨c1, c2, e, R1, r1⟩ := packL_R hk H (ls := [l]) (cs := [v]) (.cons hv .nil) hq hf
        cases r1
        rw [List.append_nil] at e
        rw [← e] at R1
        have h1 : v.oneCell' = true := Kd.R_cell R1 v (by simp)
        have hc : v.cells = #[v] := by cases v <;> first | rfl | cases h1
        refine ⟨by rw [hc]; exact R1, fun hh => (by rw [hag] at hh; cases hh), fun _ => h1⟩
      | agg ls =>
        obtain ⟨cs, rfl, hl⟩ := hv
        have hag : k.isAgg = true := by
          cases hh : k.isAgg with
          | true => rfl
          | false => rw [hh] at hb; cases hb
        obtain ⟨c1, c2, e, R1, r1⟩ := packL_R hk H hl hq hf
        cases r1
        rw [List.append_nil] at e
        rw [← e] at R1
        exact ⟨R1, fun _ => ⟨_, rfl⟩, fun hh => (by rw [hag] at hh; cases hh)⟩
    · cases hp

theorem fillRow_R {K' : KSet} (hk : ∀ b, K b → K' b) (H : HR C w K A h) {k : Kd} : ∀ {ps : List (Nat × AV)} {vs : List (Nat × Value)} {xs ys : List k.T} {f : List Nat} {cells : Array Value},
    All2 (fun (x : Nat × AV) (y : Nat × Value) => x.1 = y.1 ∧ AVR w K A h x.2 y.2) ps vs → RowR w K' k xs cells.toList → fillRow h k xs ps = some (ys, f) →
    (∀ id ∈ f, ∀ e k xs, h.get id = some (.row e k xs) → Kd.R w K' (.sl k) xs [A.hd id]) →
    ∃ cells', Instr.fill (fun i => some (i * k.sz, k.sz)) cells vs = some cells' ∧ RowR w K' k ys cells'.toList ∧ ys.length = xs.length
  | [], _, xs, ys, f, cells, .nil, hl, hf, _ => by
    simp only [fillRow, Option.some.injEq, Prod.mk.injEq] at hf
    obtain ⟨rfl, rfl⟩ := hf
    exact ⟨cells, rfl, hl, rfl⟩
  | (i, av) :: ps, (j, v) :: vs, xs, ys, f, cells, .cons ⟨hij, hav⟩ hps, hl, hf, hfr => by
    simp only at hij hav
    subst hij
    simp only [fillRow] at hf
    have hi : i < xs.length := by
      have := Nat.le_of_ble_eq_true (bif_some hf).1
      rw [len_eq] at this
      omega
    replace hf := (bif_some hf).2
    split at hf
    · rename_i y f1 hp
      split at hf
      · rename_i zs f2 hq
        simp only [Option.some.injEq, Prod.mk.injEq, app_eq] at hf
        obtain ⟨rfl, rfl⟩ := hf
        obtain ⟨hR, _, _⟩ := packAV_R hk H hav hp fun id hi => hfr id (List.mem_append_left _ hi)
        have hsz : v.cells.size = k.sz := by have := Kd.R_len hR; simpa using this
        have hle : i * k.sz + k.sz ≤ cells.size := by
          have h1 := RowR_len hl
          have h2 : i * k.sz + k.sz ≤ xs.length * k.sz := by
            rw [← Nat.succ_mul]
            exact Nat.mul_le_mul_right _ hi
          simp at h1
          omega
        have hzs := zip_splice (i * k.sz) v.cells.toList 0 cells (by simp; omega)
        simp only [Nat.add_zero] at hzs
        have hl' : RowR w K' k (setNth xs i y) ((v.cells.toList.zipIdx.foldl (fun cs (x : Value × Nat) => cs.setIfInBounds (i * k.sz + x.2) x.1) cells)).toList := by
          rw [hzs, setNth_eq]
          have := RowR_set hR hl i hi
          rw [show v.cells.toList.length = k.sz from Kd.R_len hR]
          exact this
        obtain ⟨cells', h1, h2, h3⟩ := fillRow_R hk H hps hl' hq fun id hi => hfr id (List.mem_append_right _ hi)
        refine ⟨cells', ?_, h2, by rw [h3, setNth_eq]; simp⟩
        simp only [Instr.fill]
        have c1 : ¬ (v.cells.size ≠ k.sz ∨ i * k.sz + v.cells.size > cells.size) := by
          rw [hsz]
          omega
        rw [if_neg (by simpa using c1)]
        have e9 : v.cells.zipIdx.foldl (fun cs (x : Value × Nat) => cs.setIfInBounds (i * k.sz + x.2) x.1) cells = v.cells.toList.zipIdx.foldl (fun cs (x : Value × Nat) => cs.setIfInBounds (i * k.sz + x.2) x.1) cells := by
          obtain ⟨cs, hcs⟩ : ∃ cs : List Value, v.cells = cs.toArray := ⟨v.cells.toList, by simp⟩
          rw [hcs]
          simp
        exact (congrArg (fun q => Instr.fill (fun i => some (i * k.sz, k.sz)) q vs) e9).trans h1
      · cases hf
    · cases hf

theorem get_none_frozenUpd : ∀ (f : List Nat) (h : Heap) (id : Nat), h.get id = none → (h.sets (frozenUpd h f)).get id = none
  | [], _, _, hn => hn
  | j :: f, h, id, hn => by
    simp only [frozenUpd]
    split
    · rename_i e k xs hg
      have hne : id ≠ j := fun ee => by rw [ee, hg] at hn; cases hn
      rw [Heap.sets]
      exact get_none_frozenUpd f _ id (by rw [Heap.get_set, if_neg hne]; exact hn)
    · exact get_none_frozenUpd f h id hn

theorem buildSlice_R (H : HR C w K A h) {t : TypeId} {ty : Ty} (T : TyOK P t ty) {e : TypeId} {k : Kd} {b : Nat} (he : ty.el = some (e, k, b)) {ps : List (Nat × AV)} {vs : Array (Nat × Value)} {len key : Nat} {xs : List k.T} {f : List Nat}
    (hps : All2 (fun (x : Nat × AV) (y : Nat × Value) => x.1 = y.1 ∧ AVR w K A h x.2 y.2) ps vs.toList) (hsm : len * k.sz ≤ 16777216) (hf : fillRow h k (replicateK k k.dflt len) ps = some (xs, f)) (hn : h.get key = none) :
    ∃ v w' K' A', (Instr.buildSlice t len vs).run P w = .ok v w' ∧ HR C w' K' A' (h.sets (app (frozenUpd h f) [(key, .row e k xs)])) ∧ Ext K A h w K' A' (h.sets (app (frozenUpd h f) [(key, .row e k xs)])) w' ∧
      LeafR w' K' A' (h.sets (app (frozenUpd h f) [(key, .row e k xs)])) (.row key) v := by
  obtain ⟨hu, inf, z, hinf, hz, hsz, hby, hzc, hpos, hbp, hdf⟩ := slice_ty T he
  obtain ⟨K', H1, x1, hfr⟩ := freezes f H
  rw [replicate_eq] at hf
  obtain ⟨cells, h1, h2, h3⟩ := fillRow_R (fun b hb => (x1.kk b hb).1) H hps (made_R (hdf w K') hzc hpos len) hf hfr
  have hlen : xs.length = len := by rw [h3]; simp
  have hcs : cells.size = len * k.sz := by have := RowR_len h2; rw [hlen] at this; simpa using this
  have hrun : (Instr.buildSlice t len vs).run P w = .ok (.slice (some ⟨w.heap.size, 0, none⟩) len len) (w.alloc (.cells cells e)) := by
    by_cases h0 : len = 0
    · subst h0
      have hc0 : (Array.range (0 * k.sz)).map (z.cells[· % z.cells.size]!) = #[] := by simp
      rw [hc0] at h1
      simp [Instr.buildSlice, run_underlying hu w, sizeOf, typeInfo, hinf, newRow, hsz, Array.range_zero', h1]
    · refine run_buildSlice w t e len vs cells inf z hu hinf hz (by rw [hsz]; omega) (by rw [hsz]; exact fun hh => by rcases Nat.mul_eq_zero.1 hh with hh | hh <;> omega) (by rw [hsz]; exact h1)
  have hml : len ≤ maxLen := by
    have : len ≤ len * k.sz := Nat.le_mul_of_pos_right _ hpos
    unfold maxLen
    omega
  obtain ⟨A', H2, x2, hd⟩ := H1.addRow (w' := w.alloc (.cells cells e)) (k := k) (xs := xs) (e := e) (l := cells.toList) (v := .slice (some ⟨w.heap.size, 0, none⟩) len len) none (get_none_frozenUpd f h key hn) (World.grownBy_alloc w _ none)
    (fun g hg => by cases hg) (Owns.of (base := 0) ⟨RowR_len h2, .inr ⟨w.heap.size, len, cells, by rw [hlen], Nat.zero_le _, alloc_heap_new _, by omega, hml, hcs, by rw [hlen, ← hcs, List.take_of_length_le (by simp)]⟩⟩) h2 hpos
    (fun g hg => .inr (by
      by_cases h0 : len = 0
      · rw [h0, ownB_zero] at hg; cases hg
      · rw [ownB_pos (by omega)] at hg; cases hg; exact Nat.le_refl _))
  rw [Heap.sets_app]
  refine ⟨_, _, K', A', hrun, H2, x1.trans x2, ?_, hd.symm, _, _, _, rfl⟩
  unfold Ev.has
  show (((h.sets (frozenUpd h f)).set key (.row e k xs)).get key).isSome = true
  rw [Heap.get_set, if_pos rfl]
  rfl

end
end Go.Ev
