/- Operations on memory: loads, stores, addresses, slices. -/
import Derived.Test.YtmnbcnhpklejcaaDoorZEvBin
set_option linter.unusedVariables false
namespace Go.Ev
open Go.RowKit

section
variable {P : Program} {C : Ctx} {w : World} {K : KSet} {A : Asg} {h : Heap} {r : OR}

theorem TyOK.isAgg {t : TypeId} {ty : Ty} (T : TyOK P t ty) : (isAgg t).run P w = .ok ty.agg w := by
  obtain ⟨d, hd, hr⟩ := Option.map_eq_some_iff.1 T.row
  unfold Go.isAgg
  rw [Sem.run_bind, run_underlying hd w, ← hr]
  cases d <;> rfl

theorem TyOK.sizeOf {t : TypeId} {ty : Ty} (T : TyOK P t ty) : (Go.sizeOf t).run P w = .ok ty.size w := by
  obtain ⟨i, hi, hs⟩ := Option.map_eq_some_iff.1 T.size
  simp [Go.sizeOf, typeInfo, hi, hs]

theorem rangeAt_of {b o n : Nat} {cs : Array Value} {t : TypeId} {fr : Nat × Nat} {m : List Value} (hc : w.heap[b]? = some (.cells cs t fr)) (hm : m = cellsAt cs o n) : w.rangeAt b o m := fun j v hv => by
  rw [hm] at hv
  unfold cellsAt at hv
  have hj : j < n := by
    have := (List.getElem?_eq_some_iff.1 hv).1
    simp at this
    omega
  rw [List.getElem?_take_of_lt hj, List.getElem?_drop] at hv
  simp only [World.cell?, hc]
  simpa using hv

theorem load_run {t : TypeId} {ty : Ty} (T : TyOK P t ty) {b o : Nat} {cs : Array Value} {e : TypeId} {fr : Nat × Nat} {m : List Value} {ls : List Leaf} {av : AV} (hc : w.heap[b]? = some (.cells cs e fr))
    (hm : m = cellsAt cs o ty.size) (hl : All2 (LeafR w K A h) ls m) (hs : shaped ty ls = some av) : ∃ v, (Instr.loadAt t (.pointer (some ⟨b, o, none⟩))).run P w = .ok v w ∧ AVR w K A h av v := by
  obtain ⟨hsz, hs⟩ := bif_some hs
  have hlen : ls.length = ty.size := by rw [← len_eq]; exact Nat.eq_of_beq_eq_true hsz
  have hml : m.length = ty.size := by rw [← hl.len]; exact hlen
  have hra := rangeAt_of hc hm
  obtain ⟨d, hd, hr⟩ := Option.map_eq_some_iff.1 T.row
  cases ha : ty.agg with
  | true =>
    rw [ha] at hs hr
    cases hs
    exact ⟨_, run_loadAt_mid w b o t m d hra hd hr (by rw [hml]; exact T.size), m, rfl, hl⟩
  | false =>
    rw [ha] at hs
    simp only [cond_false] at hs
    split at hs
    · rename_i l
      cases hs
      cases hl with
      | cons h0 h1 =>
        cases h1
        rename_i v
        refine ⟨v, ?_, h0⟩
        have hcell := hra 0 v (by simp)
        simp only [Instr.loadAt, Instr.sureAddr, Sem.run_bind, Sem.run_pure, Result.andThen_ok, loadVar, T.isAgg, ha]
        show (load ⟨b, o, none⟩).run P w = _
        simp only [load, Sem.run]
        rw [show (⟨b, o, none⟩ : Addr) = ⟨b, o + 0, none⟩ from rfl, hcell]
    · cases hs

theorem cellsAt_sub {cs : Array Value} {o n o' n' : Nat} (h : o' + n' ≤ n) : ((cellsAt cs o n).drop o').take n' = cellsAt cs (o + o') n' := by
  unfold cellsAt
  rw [List.drop_take, List.drop_drop, List.take_take, Nat.min_eq_left (by omega)]

theorem cellsAt_len {cs : Array Value} {o n : Nat} (h : o + n ≤ cs.size) : (cellsAt cs o n).length = n := by
  unfold cellsAt
  simp
  omega

/-- The cells of an element that is pointed to. -/
theorem elem_cells (H : HR C w K A h) {id i off : Nat} {v : Value} {k : Kd} {xs : List k.T} (hl : LeafR w K A h (.eptr id i off) v)
    (hg : (∃ e, h.get id = some (.row e k xs)) ∨ h.get id = some (.frz k xs)) :
    ∃ cs e fr, v = .pointer (some ⟨A.m id, i * k.sz + off, none⟩) ∧ i < xs.length ∧ w.heap[A.m id]? = some (.cells cs e fr) ∧ Kd.R w K k (xs.getD i k.dflt) (cellsAt cs (i * k.sz) k.sz) := by
  obtain ⟨_, h1, h2⟩ := hl
  rcases hg with ⟨e, hg⟩ | hg
  · obtain ⟨hi, rfl⟩ := h1 e k xs hg
    obtain ⟨cap, cur, l, fz, hv, hc, _, hle, _, hcs, ht, hr⟩ := row_at H hg (by omega)
    refine ⟨cur, e, fz, rfl, hi, hc, ?_⟩
    have hR := RowR_get hr i hi
    have hle2 : i * k.sz + k.sz ≤ xs.length * k.sz := by
      rw [← Nat.succ_mul]
      exact Nat.mul_le_mul_right _ hi
    have e1 : cellsAt cur (i * k.sz) k.sz = (l.drop (i * k.sz)).take k.sz := by
      unfold cellsAt
      rw [← ht, List.drop_take, List.take_take, Nat.min_eq_left (by omega)]
    rw [e1]
    exact hR
  · obtain ⟨hi, rfl⟩ := h2 k xs hg
    obtain ⟨hR, hz, hb⟩ := H.blk id _ hg
    obtain ⟨a, c, e0, hlc, hR⟩ := hR
    rcases hR with hR | ⟨b, o, cs, t, fr, ea, hK, hc, hR⟩
    · omega
    · rcases hb with hb | ⟨n, c', hb⟩
      · omega
      · rw [hb, ea] at e0
        simp only [List.cons.injEq, Value.slice.injEq, Option.some.injEq, Addr.mk.injEq, and_true] at e0
        obtain ⟨⟨rfl, rfl⟩, _⟩ := e0
        exact ⟨cs, t, fr, rfl, hi, hc, by simpa using hR i hi⟩

theorem leafs_len {k : Kd} {x : k.T} : (leafs k x).length = k.sz := by
  induction k with
  | pr a b iha ihb => simp [leafs, app_eq, Kd.sz, iha, ihb]
  | _ => rfl

theorem loadR_R (H : HR C w K A h) {t : TypeId} {ty : Ty} (T : TyOK P t ty) {l : Leaf} {v : Value} {av : AV} (hl : LeafR w K A h l v) (hr : loadR ty h l = some av) :
    ∃ u, (Instr.loadAt t v).run P w = .ok u w ∧ AVR w K A h av u := by
  cases l with
  | ptr id off =>
    simp only [loadR] at hr
    split at hr
    · rename_i ls hg
      split at hr
      · rename_i m hm
        obtain ⟨rfl, hml⟩ := cut_eq hm
        obtain ⟨cs, t', hc, h2, _⟩ := H.blk id _ hg
        rw [hl.2]
        exact load_run T (m := ((cs.drop off).take ty.size)) hc (by simp [cellsAt]) ((h2.drop off).take ty.size) hr
      · cases hr
    · cases hr
  | eptr id i off =>
    simp only [loadR] at hr
    have go : ∀ {k : Kd} {xs : List k.T}, ((∃ e, h.get id = some (.row e k xs)) ∨ h.get id = some (.frz k xs)) →
        (match cut (leafs k (xs.getD i k.dflt)) off ty.size with
          | some m => shaped ty m
          | none => none) = some av → ∃ u, (Instr.loadAt t v).run P w = .ok u w ∧ AVR w K A h av u := fun {k xs} hg hr => by
      split at hr
      · rename_i m hm
        obtain ⟨rfl, hml⟩ := cut_eq hm
        obtain ⟨cs, e, fr, rfl, hi, hc, hR⟩ := elem_cells H hl hg
        have hle : off + ty.size ≤ k.sz ∨ ty.size = 0 := by
          have h1 := hml
          rw [List.length_take, List.length_drop, leafs_len] at h1
          omega
        have hl2 := (((leafs_R (A := A) (h := h) hR).drop off).take ty.size)
        rcases hle with hle | hle
        · rw [cellsAt_sub hle] at hl2
          exact load_run T hc rfl hl2 hr
        · refine load_run T (m := cellsAt cs (i * k.sz + off) ty.size) hc rfl ?_ hr
          rw [hle]
          simp [cellsAt]
          exact .nil
      · cases hr
    split at hr
    · rename_i e k xs hg
      exact go (.inl ⟨e, hg⟩) hr
    · rename_i k xs hg
      exact go (.inr hg) hr
    · cases hr
  | dptr k x =>
    obtain ⟨b, off, cs, t', fr, rfl, hK, hc, hR⟩ := hl
    have hs := hr
    obtain ⟨hsz, _⟩ := bif_some hs
    have hlen : k.sz = ty.size := by rw [← leafs_len (k := k) (x := x), ← len_eq]; exact Nat.eq_of_beq_eq_true hsz
    exact load_run T (m := cellsAt cs off ty.size) hc rfl (by rw [← hlen]; exact leafs_R hR) hr
  | _ => cases hr


theorem known_iff : ∀ {ls : List Leaf}, known ls = true ↔ ∀ l ∈ ls, l.known = true
  | [] => by simp [known]
  | x :: r => by
    constructor
    · exact known_all
    · intro hh
      simp only [known]
      rw [hh x (by simp)]
      exact known_iff.2 fun l hl => hh l (by simp [hl])

theorem av_cells {av : AV} {v : Value} (H : AVR w K A h av v) (hk : known av.leafs = true) : ∃ cs : List Value, v.cells = cs.toArray ∧ All2 (LeafR w K A h) av.leafs cs ∧ ∀ c ∈ cs, c.oneCell' = true := by
  cases av with
  | one l =>
    have h1 : v.oneCell' = true := leaf_cell H (known_iff.1 hk l (by simp [AV.leafs]))
    refine ⟨[v], ?_, .cons H .nil, by simpa using h1⟩
    cases v <;> first | rfl | cases h1
  | agg ls =>
    obtain ⟨cs, rfl, H⟩ := H
    refine ⟨cs, rfl, H, fun c hc => ?_⟩
    have : ∀ {ls : List Leaf} {cs : List Value}, All2 (LeafR w K A h) ls cs → known ls = true → ∀ c ∈ cs, c.oneCell' = true := by
      intro ls cs H
      induction H with
      | nil => intro _ c hc; cases hc
      | cons r _ ih =>
        intro hk c hc
        rcases List.mem_cons.1 hc with e | e
        · rw [e]; exact leaf_cell r (known_iff.1 hk _ (by simp))
        · exact ih (known_iff.2 fun l hl => known_iff.1 hk l (by simp [hl])) c e
    exact this H hk c hc

theorem store_run {t : TypeId} {ty : Ty} (T : TyOK P t ty) {b o : Nat} {cur : Array Value} {e : TypeId} {v : Value} {cs : List Value} {fz : Nat × Nat} (hc : w.heap[b]? = some (.cells cur e fz)) (hz : fzOK cur fz)
    (hv : v.cells = cs.toArray) (hl : cs.length = ty.size) (h1 : ∀ c ∈ cs, c.oneCell' = true) (hle : o + cs.length ≤ cur.size) :
    (Instr.storeAt t (.pointer (some ⟨b, o, none⟩)) v).run P w = .ok () (w.setRow b (cur.toList.take o ++ cs ++ cur.toList.drop (o + cs.length)).toArray) := by
  have hs := storeCells_fz (P := P) (o := o) cs 0 cur w hc hz (by omega) h1
  simp only [Nat.add_zero] at hs
  simp only [Instr.storeAt, Instr.sureAddr, Sem.run_bind, Sem.run_pure, Result.andThen_ok, storeVar, T.sizeOf, hv]
  have : ¬ (cs.toArray.size ≠ ty.size) := by simp [hl]
  simp only [this, if_false]
  exact hs

theorem get_frozenUpd : ∀ (f : List Nat) (h : Heap) (id : Nat), memN id f = false → (h.sets (frozenUpd h f)).get id = h.get id
  | [], _, _, _ => rfl
  | j :: f, h, id, hm => by
    simp only [memN] at hm
    cases hb : Nat.beq id j with
    | true => rw [hb] at hm; cases hm
    | false =>
      rw [hb] at hm
      have hne : id ≠ j := fun e => by
        rw [e] at hb
        simp at hb
      simp only [frozenUpd]
      split
      · rename_i e k xs hg
        rw [Heap.sets, get_frozenUpd f _ id (by simpa using hm), Heap.get_set, if_neg hne]
      · exact get_frozenUpd f h id (by simpa using hm)

theorem splice_cells {cur : List Value} {a n off : Nat} {m : List Value} (hn : a + n ≤ cur.length) (ho : off + m.length ≤ n) :
    cur.take (a + off) ++ m ++ cur.drop (a + off + m.length) = cur.take a ++ (((cur.drop a).take n).take off ++ m ++ ((cur.drop a).take n).drop (off + m.length)) ++ cur.drop (a + n) := by
  have e1 : cur.take (a + off) = cur.take a ++ ((cur.drop a).take n).take off := by
    rw [List.take_take, Nat.min_eq_left (by omega), List.take_add]
  have e2 : cur.drop (a + off + m.length) = ((cur.drop a).take n).drop (off + m.length) ++ cur.drop (a + n) := by
    rw [List.drop_take, List.drop_drop, Nat.add_assoc]
    have : cur.drop (a + n) = (cur.drop (a + (off + m.length))).drop (n - (off + m.length)) := by
      rw [List.drop_drop]
      congr 1
      omega
    rw [this, List.take_append_drop]
  rw [e1, e2]
  simp [List.append_assoc]

theorem storeR_R (H : HR C w K A h) {t : TypeId} {ty : Ty} (T : TyOK P t ty) {l : Leaf} {av : AV} {p v : Value} {u : List (Nat × Blk)} (hl : LeafR w K A h l p) (hv : AVR w K A h av v) (hr : storeR ty h l av = some u) :
    ∃ w' K', (Instr.storeAt t p v).run P w = .ok () w' ∧ HR C w' K' A (h.sets u) ∧ Ext K A h w K' A (h.sets u) w' := by
  obtain ⟨hcond, hr⟩ := bif_some hr
  simp only [Bool.and_eq_true] at hcond
  obtain ⟨hsz, hk⟩ := hcond
  have hlen : av.leafs.length = ty.size := by rw [← len_eq]; exact Nat.eq_of_beq_eq_true hsz
  obtain ⟨cs, hvc, hall, hone⟩ := av_cells hv hk
  have hcl : cs.length = ty.size := by rw [← hall.len]; exact hlen
  cases l with
  | ptr id off =>
    simp only at hr
    split at hr
    · rename_i ls hg
      split at hr
      · rename_i m hm
        cases hr
        obtain ⟨e1, e2⟩ := splice_eq hm
        obtain ⟨old, t', hc, h2, hk2⟩ := H.blk id _ hg
        have hkm : known m = true := known_iff.2 fun l hl => by
          rw [e1] at hl
          simp only [List.mem_append] at hl
          rcases hl with (hl | hl) | hl
          · exact known_iff.1 hk2 l (List.mem_of_mem_take hl)
          · exact known_iff.1 hk l hl
          · exact known_iff.1 hk2 l (List.mem_of_mem_drop hl)
        have hall' : All2 (LeafR w K A h) m (old.take off ++ cs ++ old.drop (off + cs.length)) := by
          rw [e1, ← hall.len]
          exact ((h2.take off).app hall).app (h2.drop _)
        obtain ⟨H', x⟩ := H.setBox hg hall' hkm
        rw [hl.2]
        by_cases hz : cs.length = 0
        · -- nothing is stored
          have hcs : cs = [] := List.eq_nil_of_length_eq_zero hz
          subst hcs
          refine ⟨_, K, ?_, H', x⟩
          have : (old.take off ++ [] ++ old.drop (off + ([] : List Value).length)).toArray = old.toArray := by simp
          rw [this, setRow_self w _ _ _ _ hc]
          simp only [Instr.storeAt, Instr.sureAddr, Sem.run_bind, Sem.run_pure, Result.andThen_ok, storeVar, T.sizeOf, hvc]
          have : ¬ (([] : List Value).toArray.size ≠ ty.size) := by simp [← hcl]
          simp only [this, if_false]
          rfl
        · have hle : off + cs.length ≤ old.toArray.size := by
            have := h2.len
            rcases e2 with e2 | e2
            · rw [e2] at hlen
              simp at hlen
              omega
            · have := hall.len
              simp
              omega
          have hs := store_run T (o := off) hc (.inl rfl) hvc hcl hone hle
          exact ⟨_, K, by simpa using hs, H', x⟩
      · cases hr
    · cases hr
  | eptr id i off =>
    simp only at hr
    split at hr
    · rename_i e k xs hg
      split at hr
      · rename_i m hm
        split at hr
        · rename_i y f hp
          cases hmem : memN id f with
          | true => rw [hmem] at hr; cases hr
          | false =>
            rw [hmem] at hr
            cases hr
            obtain ⟨e1, e2⟩ := splice_eq hm
            obtain ⟨cur, e0, fr, rfl, hi, hc, hR⟩ := elem_cells H hl (.inl ⟨e, hg⟩)
            obtain ⟨cap, cur', l', fz', hv', hc', hz', hle', _, hcs', ht', hr'⟩ := row_at H hg (by omega)
            rw [hc] at hc'
            simp only [Option.some.injEq, Obj.cells.injEq] at hc'
            obtain ⟨rfl, rfl, rfl⟩ := hc'
            obtain ⟨K', H1, x1, hf⟩ := freezes f H
            have hle2 : i * k.sz + k.sz ≤ xs.length * k.sz := by
              rw [← Nat.succ_mul]
              exact Nat.mul_le_mul_right _ hi
            have hle3 : xs.length * k.sz ≤ cap * k.sz := Nat.mul_le_mul_right _ hle'
            have hlc : (cellsAt cur (i * k.sz) k.sz).length = k.sz := cellsAt_len (by omega)
            have hoff : off + cs.length ≤ k.sz ∨ cs = [] := by
              rcases e2 with e2 | e2
              · right
                have := hall.len
                rw [e2] at this
                exact List.eq_nil_of_length_eq_zero this.symm
              · left
                rw [leafs_len] at e2
                have := hall.len
                omega
            have hallm : All2 (LeafR w K A h) m ((cellsAt cur (i * k.sz) k.sz).take off ++ cs ++ (cellsAt cur (i * k.sz) k.sz).drop (off + cs.length)) := by
              rw [e1, ← hall.len]
              exact (((leafs_R hR).take off).app hall).app ((leafs_R hR).drop _)
            obtain ⟨c1, c2, ec, hRy, hrest⟩ := packL_R (K' := K') (fun b hb => (x1.kk b hb).1) H hallm hp hf
            cases hrest
            rw [List.append_nil] at ec
            rw [← ec] at hRy
            have hg1 : (h.sets (frozenUpd h f)).get id = some (.row e0 k xs) := by rw [get_frozenUpd f h id hmem]; exact hg
            obtain ⟨cur2, fz2, hc2, hz2, hle4, H2, x2⟩ := H1.setElem hg1 hi hRy
            rw [hc] at hc2
            simp only [Option.some.injEq, Obj.cells.injEq] at hc2
            obtain ⟨rfl, _⟩ := hc2
            have eset : h.sets (app (frozenUpd h f) [(id, .row e0 k (rset k xs i y))]) = (h.sets (frozenUpd h f)).set id (.row e0 k (xs.set i y)) := by
              rw [Heap.sets_app]
              rfl
            rw [eset]
            refine ⟨_, K', ?_, H2, x1.trans x2⟩
            rcases hoff with hoff | hoff
            · have hs := store_run T (o := i * k.sz + off) hc hz' hvc hcl hone (by omega)
              rw [hs]
              rw [splice_cells (cur := cur.toList) (a := i * k.sz) (n := k.sz) (off := off) (m := cs) (by simp; omega) hoff]
              rfl
            · subst hoff
              have e5 : (cur.toList.take (i * k.sz) ++ ((cellsAt cur (i * k.sz) k.sz).take off ++ [] ++ (cellsAt cur (i * k.sz) k.sz).drop (off + ([] : List Value).length)) ++ cur.toList.drop (i * k.sz + k.sz)).toArray = cur := by
                have : (cellsAt cur (i * k.sz) k.sz).take off ++ [] ++ (cellsAt cur (i * k.sz) k.sz).drop (off + ([] : List Value).length) = cellsAt cur (i * k.sz) k.sz := by simp
                rw [this]
                unfold cellsAt
                rw [← List.drop_drop, List.append_assoc, List.take_append_drop, List.take_append_drop]
              rw [e5, setRow_self w _ _ _ _ hc]
              simp only [Instr.storeAt, Instr.sureAddr, Sem.run_bind, Sem.run_pure, Result.andThen_ok, storeVar, T.sizeOf, hvc]
              have : ¬ (([] : List Value).toArray.size ≠ ty.size) := by simp [← hcl]
              simp only [this, if_false]
              rfl
        · cases hr
      · cases hr
    · cases hr
  | _ => cases hr

end
end Go.Ev
