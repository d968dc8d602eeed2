/- Appending. -/
import Derived.Test.YtiongkbkjfgimaaZEvMore
import Derived.ArgAppend
import Derived.Laws.OwnMore
set_option linter.unusedVariables false
namespace Go.Ev
open Go.RowKit

section
variable {P : Program} {C : Ctx} {w : World} {K : KSet} {A : Asg} {h : Heap} {r : OR}

/-- A slice's cells, in a row. -/
theorem R_row {k : Kd} {xs : List k.T} {A0 : Option Addr} {n cap : Nat} (hR : Kd.R w K (.sl k) xs [.slice A0 n cap]) :
    n = xs.length ∧ xs.length ≤ cap ∧ ∃ news, RowR w K k xs news ∧ (xs.length = 0 ∨ ∃ ad, A0 = some ad ∧ ∀ j u, news[j]? = some u → w.cell? (ad.add j) = some u) := by
  obtain ⟨a, c, e, hle, hR⟩ := hR
  simp only [List.cons.injEq, Value.slice.injEq, and_true] at e
  obtain ⟨rfl, rfl, rfl⟩ := e
  refine ⟨rfl, hle, ?_⟩
  rcases hR with hR | ⟨b, off, cs, t, fr, rfl, hK, hc, hR⟩
  · have : xs = [] := List.eq_nil_of_length_eq_zero hR
    subst this
    exact ⟨[], rfl, .inl rfl⟩
  · by_cases h0 : xs.length = 0
    · have : xs = [] := List.eq_nil_of_length_eq_zero h0
      subst this
      exact ⟨[], rfl, .inl rfl⟩
    · have hlast : (cellsAt cs (off + (xs.length - 1) * k.sz) k.sz).length = k.sz := Kd.R_len (hR (xs.length - 1) (by show xs.length - 1 < xs.length; omega))
      have e1 : (xs.length - 1) * k.sz + k.sz = xs.length * k.sz := by
        rw [← Nat.succ_mul]
        congr 1
        omega
      have hlen : (cellsAt cs off (xs.length * k.sz)).length = xs.length * k.sz := by
        by_cases hz : k.sz = 0
        · simp [hz, cellsAt]
        · apply cellsAt_len
          unfold cellsAt at hlast
          rw [List.length_take, List.length_drop] at hlast
          have : cs.toList.length = cs.size := by simp
          omega
      refine ⟨cellsAt cs off (xs.length * k.sz), RowR_of hlen fun i hi => ?_, .inr ⟨⟨b, off, none⟩, rfl, fun j u hj => ?_⟩⟩
      · have hle2 : i * k.sz + k.sz ≤ xs.length * k.sz := by
          rw [← Nat.succ_mul]
          exact Nat.mul_le_mul_right _ hi
        rw [cellsAt_sub hle2]
        exact hR i hi
      · rw [add_plain']
        exact rangeAt_of hc rfl j u hj

theorem elems_R (H : HR C w K A h) {k : Kd} {l : Leaf} {v : Value} {ys : List k.T} (hl : LeafR w K A h l v) (he : elems h k l = some ys) :
    ∃ A0 c news, v = .slice A0 ys.length c ∧ RowR w K k ys news ∧ (ys.length = 0 ∨ ∃ ad, A0 = some ad ∧ ∀ j u, news[j]? = some u → w.cell? (ad.add j) = some u) := by
  have go : ∀ {k' : Kd} {xs : List k'.T}, Kd.R w K (.sl k') xs [v] → castK (k := .sl k') (.sl k) xs = some ys →
      ∃ A0 c news, v = .slice A0 ys.length c ∧ RowR w K k ys news ∧ (ys.length = 0 ∨ ∃ ad, A0 = some ad ∧ ∀ j u, news[j]? = some u → w.cell? (ad.add j) = some u) := fun {k' xs} hR hc => by
    have hR2 : Kd.R w K (.sl k) ys [v] := R_cast (k := .sl k') (k' := .sl k) hc hR
    have hR3 := hR2
    obtain ⟨a, c, e, _⟩ := hR3
    cases e
    obtain ⟨_, _, news, h1, h2⟩ := R_row hR2
    exact ⟨a, c, news, rfl, h1, h2⟩
  cases l with
  | dat kk xs =>
    cases kk with
    | sl k' => exact go hl he
    | _ => cases he
  | clip k' xs => exact go hl.1 he
  | nils =>
    simp only [elems, Option.some.injEq] at he
    subst he
    exact ⟨none, 0, [], hl, rfl, .inl rfl⟩
  | row id =>
    simp only [elems] at he
    split at he
    · rename_i e k' xs hg
      obtain ⟨e0, he⟩ := castK_eq he
      injection e0 with e0
      subst e0
      subst he
      obtain ⟨l', ⟨hl', h1 | ⟨g, cap, cur, hv', hb', hc', hle', hm', hcs', ht'⟩⟩, hr', hb, hz⟩ := H.blk id _ hg
      · have : xs = [] := List.eq_nil_of_length_eq_zero h1.2
        subst this
        exact ⟨none, 0, [], by rw [hl.2.1, h1.1]; rfl, rfl, .inl rfl⟩
      · refine ⟨_, cap, l', by rw [hl.2.1, hv'], hr', .inr ⟨_, rfl, fun j u hj => ?_⟩⟩
        rw [add_plain', Nat.zero_add]
        simp only [World.cell?, hc']
        have hj2 : j < xs.length * k'.sz := by
          have := (List.getElem?_eq_some_iff.1 hj).1
          omega
        rw [← ht', List.getElem?_take_of_lt hj2] at hj
        simpa using hj
    · rename_i k' xs hg
      have hB := (H.blk id _ hg).1
      rw [← hl.2.1] at hB
      exact go hB he
    · cases he
  | _ => cases he

theorem append_zero {t ty e : TypeId} {i : TypeInfo} (ht : P.underlying t = some (.slice e)) (hi : P.info? e = some i) {base : Option Addr} {n cap c : Nat} (hle : n ≤ cap) (A0 : Option Addr) :
    (Builtin.append_ #[t, t] ty #[.slice base n cap, .slice A0 0 c]).run P w = .ok (.slice base n cap) w := by
  cases A0 <;> cases base <;> simp [Builtin.append_, run_underlying ht, sizeOf, typeInfo, hi, Builtin.lenOf, Builtin.firstCells, hle, storeCells, loadCells, loadCellsFrom]

/-- More may be read: a new block. -/
theorem HR.addK {w' : World} (H : HR C w K A h) (hg : w.grownBy w' none) {g : Nat} (h1 : w.heap.size ≤ g) (h2 : g < w'.heap.size) :
    HR C w' (fun b => K b ∨ b = g) A h ∧ Ext K A h w (fun b => K b ∨ b = g) A h w' := by
  have hw : ∀ b, b < w.heap.size → w'.heap[b]? = w.heap[b]? := fun b hb => hg.block b hb (by simp)
  have x : Ext K A h w (fun b => K b ∨ b = g) A h w' :=
    ⟨fun b hb => ⟨.inl hb, hw b (H.kset b hb).1⟩, fun i hi => ⟨hi, rfl, rfl⟩, fun i e k xs' _ hgi => ⟨xs', hgi, rfl⟩, fun i k xs' _ hgi => .inr ⟨xs', hgi, rfl⟩⟩
  refine ⟨⟨fun i b hb => BlkR.keep x hb (fun hu => hw _ (H.own i hu).2.1) (H.blk i b hb), H.inj, fun i hu => ?_, fun b hb => ?_, fun b hb => .inl (H.k0 b hb), fun g l hl => x.leaf (H.glob g l hl),
    hg.os.trans H.os, hg.tape.trans H.tape, hg.output.trans H.output, Nat.le_trans H.size hg.size, fun b hb hl => (hw b (Nat.lt_of_lt_of_le hb H.size)).trans (H.frame b hb hl)⟩, x⟩
  · obtain ⟨a, b, c⟩ := H.own i hu
    refine ⟨fun hk => ?_, Nat.lt_of_lt_of_le b hg.size, c⟩
    rcases hk with hk | hk
    · exact a hk
    · omega
  · rcases hb with hb | hb
    · obtain ⟨a, c⟩ := H.kset b hb
      exact ⟨Nat.lt_of_lt_of_le a hg.size, c⟩
    · rw [hb]
      exact ⟨h2, .inr (.inl (Nat.le_trans H.size h1))⟩

theorem isNew_ok {k : Nat} {α : Type} {f : Unit → Option α} {y : α} (hb : (isNew h k).bind f = some y) : h.get k = none ∧ f () = some y := by
  unfold isNew at hb
  split at hb
  · rename_i hg
    exact ⟨hg, hb⟩
  · cases hb

theorem limit {n bytes : Nat} (hb : 0 < bytes) (hl : n * bytes ≤ capLimit) : n ≤ maxLen ∧ n * bytes ≤ 140737488355328 := by
  have : n ≤ n * bytes := Nat.le_mul_of_pos_right n hb
  unfold capLimit at hl
  unfold maxLen
  omega

theorem appendR_R (H : HR C w K A h) {t tyo : TypeId} {ty : Ty} (T : TyOK P t ty) {key : Nat} {s x : Leaf} {vs vx : Value} (hs : LeafR w K A h s vs) (hx : LeafR w K A h x vx) (hr : appendR ty key h s x = some r) (hc : r.c ≠ some false) :
    ∃ v w' K' A', (Builtin.append_ #[t, t] tyo #[vs, vx]).run P w = .ok v w' ∧ HR C w' K' A' (h.sets r.u) ∧ Ext K A h w K' A' (h.sets r.u) w' ∧ SlotR w' K' A' (h.sets r.u) r.v v := by
  unfold appendR at hr
  split at hr
  · rename_i e k bts he
    obtain ⟨hu, inf, z, hinf, hz, hsz, hby, hzc, hpos, hbp, hdf⟩ := slice_ty T he
    split at hr
    · rename_i ys hys
      obtain ⟨hnew, hr⟩ := isNew_ok hr
      obtain ⟨A0, cx, news, rfl, hnews, hcell⟩ := elems_R H hx hys
      -- onto an owned row
      have own : ∀ {h1 : Heap} {K1 : KSet} {v : Value} {zs : List k.T} {l : List Value}, HR C w K1 A h1 → Ext K A h w K1 A h1 w → h1.get key = none → w.ownsRow 0 e k.sz v zs.length l → RowR w K1 k zs l →
          (∀ g, v.ownBlock = some g → ¬ K1 g ∧ g < w.heap.size ∧ (C.w0.heap.size ≤ g ∨ C.lent g) ∧ ∀ i, Uses A h1 i → A.m i ≠ g) → (zs.length + ys.length) * bts ≤ capLimit →
          ∃ v' w' K' A', (Builtin.append_ #[t, t] tyo #[v, .slice A0 ys.length cx]).run P w = .ok v' w' ∧ HR C w' K' A' (h1.set key (.row e k (zs ++ ys))) ∧
            Ext K A h w K' A' (h1.set key (.row e k (zs ++ ys))) w' ∧ LeafR w' K' A' (h1.set key (.row e k (zs ++ ys))) (.row key) v' := fun {h1 K1 v zs l} H1 x1 hn ho hr1 hob hlim => by
        have hr2 : RowR w K1 k (zs ++ ys) (l ++ news) := RowR_app hr1 (x1.rowR hnews)
        obtain ⟨hl1, hl2⟩ := limit hbp hlim
        have hlen : (zs ++ ys).length = zs.length + ys.length := List.length_append
        have fin : ∀ {v' : Value} {w' : World}, w'.ownsRow 0 e k.sz v' (zs.length + ys.length) (l ++ news) → w.grownBy w' v.ownBlock → (v'.ownBlock = v.ownBlock ∨ v'.ownBlock = some w.heap.size) → (∃ a n c, v' = .slice a n c) →
            ∃ K' A', HR C w' K' A' (h1.set key (.row e k (zs ++ ys))) ∧ Ext K A h w K' A' (h1.set key (.row e k (zs ++ ys))) w' ∧ LeafR w' K' A' (h1.set key (.row e k (zs ++ ys))) (.row key) v' := fun {v' w'} ho' hg' hb' hsl => by
          obtain ⟨A', H2, x2, hd⟩ := H1.addRow (k := k) (xs := zs ++ ys) v.ownBlock hn hg' hob (by rw [hlen]; exact ho') hr2 hpos (fun g hg => by
            rcases hb' with hb' | hb'
            · exact .inl (hb' ▸ hg)
            · rw [hb'] at hg
              cases hg
              exact .inr (Nat.le_refl _))
          refine ⟨K1, A', H2, x1.trans x2, ?_, hd.symm, hsl⟩
          unfold Ev.has
          rw [Heap.get_set, if_pos rfl]
          rfl
        have slf : ∀ {w' : World} {v' : Value} {n : Nat} {q : List Value}, w'.ownsRow 0 e k.sz v' n q → ∃ a n c, v' = .slice a n c := fun {w' v' n q} ho' => by
          rcases ho'.2 with h1 | ⟨g, cap, cur, hv, _⟩
          · exact ⟨_, _, _, h1.1⟩
          · exact ⟨_, _, _, hv⟩
        by_cases h0 : ys.length = 0
        · have hy : ys = [] := List.eq_nil_of_length_eq_zero h0
          subst hy
          have hn0 : news = [] := hnews
          subst hn0
          have ho0 : w.ownsRow 0 e k.sz v (zs.length + ([] : List k.T).length) (l ++ []) := by simpa using ho
          obtain ⟨K', A', a, b, c⟩ := fin ho0 ⟨rfl, rfl, rfl, Nat.le_refl _, fun _ _ _ => rfl⟩ (.inl rfl) (slf ho)
          refine ⟨v, w, K', A', ?_, a, b, c⟩
          rcases ho.2 with h1 | ⟨g, cap, cur, hv, _, _, hle, _⟩
          · rw [h1.1]
            exact append_zero hu hinf (Nat.le_refl _) A0
          · rw [hv]
            exact append_zero hu hinf hle A0
        · obtain ⟨ad, rfl, hcell'⟩ := hcell.resolve_left h0
          obtain ⟨v', w', hrun, ho', hg', _, hb'⟩ := run_append_own_at (P := P) w 0 t tyo e inf z k.sz bts hu hinf hz hsz hby hzc hpos v zs.length l ho ad ys.length cx news (RowR_len hnews) hcell'
            (RowR_cell hnews) hl1 hl2 (Nat.zero_le _)
          obtain ⟨K', A', a, b, c⟩ := fin ho' hg' hb' (slf ho')
          exact ⟨v', w', K', A', hrun, a, b, c⟩
      cases s with
      | nils =>
        cases hr
        have hlim : (([] : List k.T).length + ys.length) * bts ≤ capLimit := by
          simpa using of_decide_eq_true (not_false_of hc)
        rw [show vs = _ from hs]
        obtain ⟨v', w', K', A', a, b, c, d⟩ := own (zs := []) (l := []) H (Ext.refl _ _ _ _) hnew (World.ownsRow_nil w 0 e k.sz) rfl (fun g hg => by cases hg) hlim
        exact ⟨v', w', K', A', a, b, c, d⟩
      | clip k' xs =>
        simp only at hr
        split at hr
        · rename_i zs hzs
          cases hr
          have hlim := of_decide_eq_true (not_false_of hc)
          obtain ⟨hl1, hl2⟩ := limit hbp hlim
          obtain ⟨hR, a0, hvs⟩ := hs
          have hR2 : Kd.R w K (.sl k) zs [vs] := R_cast (k := .sl k') (k' := .sl k) hzs hR
          have hlz : zs.length = xs.length := by
            obtain ⟨e0, he0⟩ := castK_eq hzs
            injection e0 with e0
            subst e0
            rw [← he0]
          subst hvs
          obtain ⟨hn0, _, olds, holds, hoc⟩ := R_row hR2
          by_cases h0 : ys.length = 0
          · have hy : ys = [] := List.eq_nil_of_length_eq_zero h0
            subst hy
            refine ⟨_, w, K, A, append_zero hu hinf (Nat.le_refl _) A0, H, Ext.refl _ _ _ _, ?_⟩
            show Kd.R w K (.sl k) (zs ++ []) _
            rw [List.append_nil]
            exact hR2
          · obtain ⟨ad, rfl, hcell'⟩ := hcell.resolve_left h0
            have fin : ∀ {v' : Value} {w' : World} {base : Nat}, w.heap.size ≤ base → w'.ownsRow base e k.sz v' (zs.length + ys.length) (olds ++ news) → w.grownBy w' none →
                ∃ K', HR C w' K' A h ∧ Ext K A h w K' A h w' ∧ Kd.R w' K' (.sl k) (zs ++ ys) [v'] := fun {v' w' base} hbase ho' hg' => by
              rcases ho'.2 with h1 | ⟨g, cap, cur, hv, hb, hcc, h2, h3, h4, h5⟩
              · omega
              · obtain ⟨H2, x2⟩ := H.addK hg' (Nat.le_trans hbase hb) (Array.getElem?_eq_some_iff.1 hcc).1
                refine ⟨_, H2, x2, ?_⟩
                refine owns_R (e := e) (l := olds ++ news) (K := fun b => K b ∨ b = g) ?_ (RowR_app (x2.rowR holds) (x2.rowR hnews)) (fun b hb => hb) (fun g' hg'' => ?_)
                · rw [List.length_append]
                  exact ⟨ho'.1, .inr ⟨g, cap, cur, hv, Nat.zero_le _, hcc, h2, h3, h4, h5⟩⟩
                · rw [hv] at hg''
                  simp [Value.ownBlock] at hg''
                  exact .inr hg''.symm
            cases a0 with
            | none =>
              have hz0 : zs.length = 0 := by
                rcases hoc with h | ⟨_, h, _⟩
                · exact h
                · cases h
              have hx0 : xs.length = 0 := by omega
              have hz1 : zs = [] := List.eq_nil_of_length_eq_zero hz0
              subst hz1
              have ho1 : olds = [] := holds
              subst ho1
              rw [hx0]
              obtain ⟨v', w', hrun, ho', hg', _, hb'⟩ := run_append_own_at (P := P) w w.heap.size t tyo e inf z k.sz bts hu hinf hz hsz hby hzc hpos (.slice none 0 0) 0 [] (World.ownsRow_nil w _ e k.sz) ad ys.length cx news (RowR_len hnews) hcell'
                (RowR_cell hnews) (by simpa using hl1) (by simpa using hl2) (Nat.le_refl _)
              obtain ⟨K', H2, x2, R2⟩ := fin (Nat.le_refl _) (by simpa using ho') (by simpa [Value.ownBlock] using hg')
              exact ⟨v', w', K', A, hrun, H2, x2, R2⟩
            | some b0 =>
              have holds2 : ∀ j u, olds[j]? = some u → w.cell? (b0.add j) = some u := by
                rcases hoc with h | ⟨ad', e', h⟩
                · intro j u hj
                  have : olds.length = 0 := by rw [RowR_len holds, h]; simp
                  have hj' := (List.getElem?_eq_some_iff.1 hj).1
                  omega
                · cases e'
                  exact h
              rw [← hlz] at *
              obtain ⟨v', w', hrun, ho', hg'⟩ := run_append_arg_grows (P := P) (w := w) t tyo e inf z k.sz bts hu hinf hz hsz hby hzc hpos b0 zs.length zs.length olds (RowR_len holds) holds2 ad ys.length cx news (RowR_len hnews) hcell'
                (by omega) hl1 hl2
              obtain ⟨K', H2, x2, R2⟩ := fin (Nat.le_refl _) ho' hg'
              exact ⟨v', w', K', A, hrun, H2, x2, R2⟩
        · cases hr
      | row id =>
        simp only at hr
        split at hr
        · rename_i e' k' xs hg
          have hee := Nat.eq_of_beq_eq_true (bif_some hr).1
          replace hr := (bif_some hr).2
          subst hee
          split at hr
          · rename_i zs hzs
            obtain ⟨e0, he0⟩ := castK_eq hzs
            injection e0 with e0
            subst e0
            subst he0
            cases hr
            have hlim := of_decide_eq_true (not_false_of hc)
            obtain ⟨l', ho, hr', hb, hz'⟩ := H.blk id _ hg
            obtain ⟨H1, x1⟩ := H.kill (has_of_get hg)
            have hne : key ≠ id := fun e => by rw [e, hg] at hnew; cases hnew
            rw [hs.2.1]
            obtain ⟨v', w', K', A', a, b, c, d⟩ := own H1 x1 (by rw [Heap.get_set, if_neg hne]; exact hnew) ho hr' (fun g hgo => by
              have hgm : g = A.m id := by
                rcases hb with hb | hb
                · rw [hb] at hgo; cases hgo
                · rw [hb] at hgo; cases hgo; rfl
              subst hgm
              have hu0 := uses_row hg hgo
              obtain ⟨p, q, s⟩ := H.own id hu0
              refine ⟨p, q, s, fun i hui hm => ?_⟩
              unfold Uses at hui
              rw [Heap.get_set] at hui
              by_cases ei : i = id
              · rw [if_pos ei] at hui; exact hui
              · rw [if_neg ei] at hui
                exact ei (H.inj i id hui hu0 hm)) hlim
            exact ⟨v', w', K', A', a, b, c, d⟩
          · cases hr
        · cases hr
      | _ => cases hr
    · cases hr
  · cases hr

end
end Go.Ev
