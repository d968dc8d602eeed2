/- Part 1 of what the proof leans on: an evaluator of Go code over plain data, with its soundness; contracts of functions; laws of plain data. -/
import Derived.ArgAppend
import Derived.Laws.OwnMore
import Derived.Laws.MakeOwn
import Derived.Lib.ConvBytes
import Derived.Great.FillDense
import Derived.Great.BuildSlice
import Derived.Lib.Builder
import Derived.Lib.AppendStr
import Derived.Lib.UnsafeStr
import Derived.Laws.RangeString
import Derived.RangeFuncNested
import Derived.LoopNIn
import Derived.TacticsIn
import Derived.ControlIn
import Derived.Test.YtdlbnlbajnafdaaDoorZq0
section
set_option linter.unusedVariables false
namespace Go.Ev
open Go.RowKit
section
variable {P : Program} {C : Ctx} {w : World} {K : KSet} {A : Asg} {h : Heap} {r : OR}
theorem R_row {k : Kd} {xs : List k.T} {A0 : Option Addr} {n cap : Nat} (hR : Kd.R w K (.sl k) xs [.slice A0 n cap]) :
    n = xs.length ∧ xs.length ≤ cap ∧ ∃ news, RowR w K k xs news ∧ (xs.length = 0 ∨ ∃ ad, A0 = some ad ∧ ∀ j u, news[j]? = some u → w.cell? (ad.add j) = some u) := by
  obtain ⟨a, c, e, hle, hR⟩ := hR
  simp only [List.cons.injEq, Value.slice.injEq, and_true] at e
  obtain ⟨rfl, rfl, rfl⟩ := e
  refine ⟨rfl, hle, ?_⟩
  rcases hR with hR | ⟨b, off, cs, t, fr, rfl, hK, hc, hR⟩
  · have : xs = [] := List.eq_nil_of_length_eq_zero hR
    subst this
    exact ⟨[], rfl, .inl rfl⟩
  · by_cases h0 : xs.length = 0
    · have : xs = [] := List.eq_nil_of_length_eq_zero h0
      subst this
      exact ⟨[], rfl, .inl rfl⟩
    · have hlast : (cellsAt cs (off + (xs.length - 1) * k.sz) k.sz).length = k.sz := Kd.R_len (hR (xs.length - 1) (by show xs.length - 1 < xs.length; omega))
      have e1 : (xs.length - 1) * k.sz + k.sz = xs.length * k.sz := by
        rw [← Nat.succ_mul]
        congr 1
        omega
      have hlen : (cellsAt cs off (xs.length * k.sz)).length = xs.length * k.sz := by
        by_cases hz : k.sz = 0
        · simp [hz, cellsAt]
        · apply cellsAt_len
          unfold cellsAt at hlast
          rw [List.length_take, List.length_drop] at hlast
          have : cs.toList.length = cs.size := by simp
          omega
      refine ⟨cellsAt cs off (xs.length * k.sz), RowR_of hlen fun i hi => ?_, .inr ⟨⟨b, off, none⟩, rfl, fun j u hj => ?_⟩⟩
      · have hle2 : i * k.sz + k.sz ≤ xs.length * k.sz := by
          rw [← Nat.succ_mul]
          exact Nat.mul_le_mul_right _ hi
        rw [cellsAt_sub hle2]
        exact hR i hi
      · rw [add_plain']
        exact rangeAt_of hc rfl j u hj
theorem RowR_drop {k : Kd} : ∀ {xs : List k.T} {l : List Value} (n : Nat), RowR w K k xs l → RowR w K k (xs.drop n) (l.drop (n * k.sz))
  | [], l, n, h => by rw [show l = [] from h, List.drop_nil, List.drop_nil]; rfl
  | x :: xs, l, 0, h => by rw [Nat.zero_mul, List.drop_zero, List.drop_zero]; exact h
  | x :: xs, l, n + 1, ⟨l1, l2, h, h1, h2⟩ => by
    have e : (l1 ++ l2).drop ((n + 1) * k.sz) = l2.drop (n * k.sz) := by
      rw [Nat.succ_mul, Nat.add_comm, ← Kd.R_len h1, ← List.drop_drop, List.drop_append_of_le_length (Nat.le_refl _), List.drop_length, List.nil_append]
    rw [h, e]
    exact RowR_drop n h2
theorem HR.setElems (H : HR C w K A h) {id : Nat} {e : TypeId} {k : Kd} {xs : List k.T} (hg : h.get id = some (.row e k xs)) (h0 : 0 < xs.length) {lo : Nat} {ys : List k.T} (hle0 : lo + ys.length ≤ xs.length) {m : List Value} (hy : RowR w K k ys m) :
    ∃ cur fz cap, A.hd id = .slice (some ⟨A.m id, 0, none⟩) xs.length cap ∧ w.heap[A.m id]? = some (.cells cur e fz) ∧ fzOK cur fz ∧ lo * k.sz + m.length ≤ cur.size ∧
      HR C (w.setRow (A.m id) (cur.toList.take (lo * k.sz) ++ m ++ cur.toList.drop (lo * k.sz + m.length)).toArray) K A (h.set id (.row e k (putAt xs lo ys))) ∧
      Ext K A h w K A (h.set id (.row e k (putAt xs lo ys))) (w.setRow (A.m id) (cur.toList.take (lo * k.sz) ++ m ++ cur.toList.drop (lo * k.sz + m.length)).toArray) := by
  obtain ⟨cap, cur, l, fz, hv, hc, hz0, h2, h3, h4, h5, hr⟩ := row_at H hg h0
  obtain ⟨_, _, _, _, hz⟩ := H.blk id _ hg
  have hu0 : Uses A h id := uses_row hg (g := A.m id) (by rw [hv]; exact ownB_pos (by omega))
  obtain ⟨hnk, hlt, hbl⟩ := H.own id hu0
  have hml : m.length = ys.length * k.sz := RowR_len hy
  have hle : lo * k.sz + m.length ≤ xs.length * k.sz := by
    rw [hml, ← Nat.add_mul]
    exact Nat.mul_le_mul_right _ hle0
  have hle2 : xs.length * k.sz ≤ cap * k.sz := Nat.mul_le_mul_right _ h2
  have hne : ∀ (q : Array Value) b, b ≠ A.m id → (w.setRow (A.m id) q).heap[b]? = w.heap[b]? := fun q b hb => setRow_other w _ _ _ hb
  have hpl : (putAt xs lo ys).length = xs.length := by simp [putAt]; omega
  refine ⟨cur, fz, cap, hv, hc, hz0, by omega, ?_⟩
  generalize hq : (cur.toList.take (lo * k.sz) ++ m ++ cur.toList.drop (lo * k.sz + m.length)).toArray = q
  have x : Ext K A h w K A (h.set id (.row e k (putAt xs lo ys))) (w.setRow (A.m id) q) := by
    refine ⟨fun b hb => ⟨hb, hne q b fun e => hnk (e ▸ hb)⟩, fun i hi => ⟨?_, rfl, rfl⟩, fun i' e' k' xs' hi' hgi => ?_, fun i' k' xs' hi' hgi => ?_⟩
    · unfold Ev.has at *
      rw [Heap.get_set]
      split
      · rfl
      · exact hi
    · rw [Heap.get_set] at hgi
      split at hgi
      · rename_i e0
        cases hgi
        rw [e0]
        exact ⟨xs, hg, hpl.symm⟩
      · exact ⟨xs', hgi, rfl⟩
    · rw [Heap.get_set] at hgi
      split at hgi
      · cases hgi
      · exact .inr ⟨xs', hgi, rfl⟩
  have hsz : (w.setRow (A.m id) q).heap.size = w.heap.size := setRow_size w _ _
  have hqs : q.size = cur.size := by
    rw [← hq]
    simp
    omega
  have hqt : q.toList.take (xs.length * k.sz) = l.take (lo * k.sz) ++ m ++ l.drop (lo * k.sz + m.length) := by
    rw [← hq]
    have := getD_take_drop cur.toList m (lo * k.sz) (xs.length * k.sz) 0 (by omega) (by simp; omega)
    rw [show (cur.toList.take (lo * k.sz) ++ m ++ cur.toList.drop (lo * k.sz + m.length)).toArray.toList = cur.toList.take (lo * k.sz) ++ m ++ cur.toList.drop (lo * k.sz + m.length) from by simp, this, h5]
  have hrow : RowR w K k (putAt xs lo ys) (l.take (lo * k.sz) ++ m ++ l.drop (lo * k.sz + m.length)) := by
    unfold putAt
    rw [List.append_assoc, hml, ← Nat.add_mul]
    exact RowR_app (RowR_take lo hr) (RowR_app hy (RowR_drop _ hr))
  refine ⟨H.update x ⟨l.take (lo * k.sz) ++ m ++ l.drop (lo * k.sz + m.length), ⟨?_, .inr ⟨A.m id, cap, q, fz, ?_, by omega, setRow_heap w _ cur _ e _ hc, by unfold fzOK at *; rw [hqs]; exact hz0, by rw [hpl]; exact h2, h3, by rw [hqs]; exact h4, ?_⟩⟩, x.rowR hrow, .inr (by rw [hv]; exact ownB_pos (by omega)), hz⟩
    (fun _ => ⟨hnk, by rw [hsz]; exact hlt, hbl, fun i hi hu e => hi (H.inj i id hu hu0 e)⟩)
    (fun i hi hu => hne q _ fun e => hi (H.inj i id hu hu0 e)) rfl rfl rfl (Nat.le_of_eq hsz.symm) (fun b hb hl => hne q b fun e => ?_), x⟩
  · have := RowR_len hrow
    simpa using this
  · rw [hpl]; exact hv
  · rw [hpl]; exact hqt
  · rcases hbl with hbl | hbl
    · omega
    · exact hl (e ▸ hbl)
theorem elems_R (H : HR C w K A h) {k : Kd} {l : Leaf} {v : Value} {ys : List k.T} (hl : LeafR w K A h l v) (he : elems h k l = some ys) :
    ∃ A0 c news, v = .slice A0 ys.length c ∧ RowR w K k ys news ∧ (ys.length = 0 ∨ ∃ ad, A0 = some ad ∧ ∀ j u, news[j]? = some u → w.cell? (ad.add j) = some u) := by
  have go : ∀ {k' : Kd} {xs : List k'.T}, Kd.R w K (.sl k') xs [v] → castK (k := .sl k') (.sl k) xs = some ys →
      ∃ A0 c news, v = .slice A0 ys.length c ∧ RowR w K k ys news ∧ (ys.length = 0 ∨ ∃ ad, A0 = some ad ∧ ∀ j u, news[j]? = some u → w.cell? (ad.add j) = some u) := fun {k' xs} hR hc => by
    have hR2 : Kd.R w K (.sl k) ys [v] := R_cast (k := .sl k') (k' := .sl k) hc hR
    have hR3 := hR2
    obtain ⟨a, c, e, _⟩ := hR3
    cases e
    obtain ⟨_, _, news, h1, h2⟩ := R_row hR2
    exact ⟨a, c, news, rfl, h1, h2⟩
  cases l with
  | dat kk xs =>
    cases kk with
    | sl k' => exact go hl he
    | _ => cases he
  | clip k' xs => exact go hl.1 he
  | nn b k' xs => exact go hl.1 he
  | nils =>
    simp only [elems, Option.some.injEq] at he
    subst he
    exact ⟨none, 0, [], hl, rfl, .inl rfl⟩
  | emp =>
    simp only [elems, Option.some.injEq] at he
    subst he
    obtain ⟨a1, hl⟩ := hl
    exact ⟨a1, 0, [], hl, rfl, .inl rfl⟩
  | row id =>
    simp only [elems] at he
    split at he
    · rename_i e k' xs hg
      obtain ⟨e0, he⟩ := castK_eq he
      injection e0 with e0
      subst e0
      subst he
      obtain ⟨l', ⟨hl', h1 | ⟨g, cap, cur, fz, hv', hb', hc', _, hle', hm', hcs', ht'⟩⟩, hr', hb, hz⟩ := H.blk id _ hg
      · have : xs = [] := List.eq_nil_of_length_eq_zero h1.1
        subst this
        obtain ⟨_, a1, h1⟩ := h1
        exact ⟨a1, 0, [], by rw [hl.2.1, h1]; rfl, rfl, .inl rfl⟩
      · refine ⟨_, cap, l', by rw [hl.2.1, hv'], hr', .inr ⟨_, rfl, fun j u hj => ?_⟩⟩
        rw [add_plain', Nat.zero_add]
        simp only [World.cell?, hc']
        have hj2 : j < xs.length * k'.sz := by
          have := (List.getElem?_eq_some_iff.1 hj).1
          omega
        rw [← ht', List.getElem?_take_of_lt hj2] at hj
        simpa using hj
    · rename_i k' xs hg
      have hB := (H.blk id _ hg).1
      rw [← hl.2.1] at hB
      exact go hB he
    · cases he
  | vw id sz lo n =>
    simp only [elems] at he
    split at he
    · rename_i e k' xs hg
      obtain ⟨hk, he2⟩ := bif_some he
      clear he
      have hk := Nat.eq_of_beq_eq_true hk
      subst hk
      obtain ⟨e0, he2⟩ := castK_eq he2
      injection e0 with e0
      subst e0
      subst he2
      obtain ⟨_, h0, h1, a, c, rfl, hle, hN⟩ := hl
      have hsl : (sub (α := k'.T) xs lo.toNat (lo.toNat + n.toNat)).length = n.toNat ∧ (n.toNat = 0 ∨ ∃ cap cur l' fz, A.hd id = .slice (some ⟨A.m id, 0, none⟩) xs.length cap ∧ w.heap[A.m id]? = some (.cells cur e fz) ∧ cur.toList.take (xs.length * k'.sz) = l' ∧ RowR w K k' xs l' ∧ lo.toNat + n.toNat ≤ xs.length ∧ a = some ⟨A.m id, lo.toNat * k'.sz, none⟩) := by
        rcases hN with hN | ⟨N, M, hhd, hNle, ha⟩
        · exact ⟨by simp [sub]; omega, .inl hN⟩
        · obtain ⟨l', ho, _⟩ := H.blk id _ hg
          obtain ⟨a1, c1, hsl⟩ := ho.slice
          rw [hhd] at hsl
          simp only [Value.slice.injEq] at hsl
          obtain ⟨_, rfl, _⟩ := hsl
          refine ⟨by simp [sub]; omega, ?_⟩
          by_cases hz : n.toNat = 0
          · exact .inl hz
          · obtain ⟨cap, cur, l2, fz, hv, hc, _, _, _, _, h5, hr⟩ := row_at H hg (by omega)
            exact .inr ⟨cap, cur, l2, fz, hv, hc, h5, hr, hNle, ha⟩
      obtain ⟨hlen, hsl⟩ := hsl
      rcases hsl with hz | ⟨cap, cur, l', fz, hv, hc, h5, hr, hNle, rfl⟩
      · have hnil : sub (α := k'.T) xs lo.toNat (lo.toNat + n.toNat) = [] := List.eq_nil_of_length_eq_zero (by rw [hlen]; exact hz)
        rw [hnil]
        exact ⟨a, c, [], by rw [hz]; rfl, rfl, .inl rfl⟩
      · refine ⟨_, c, (l'.take ((lo.toNat + n.toNat) * k'.sz)).drop (lo.toNat * k'.sz), by rw [hlen], RowR_drop _ (RowR_take _ hr), .inr ⟨_, rfl, fun j u hj => ?_⟩⟩
        rw [add_plain']
        simp only [World.cell?, hc]
        rw [List.getElem?_drop, ← h5] at hj
        have hj2 := (List.getElem?_eq_some_iff.1 hj).1
        simp only [List.length_take] at hj2
        rw [List.getElem?_take_of_lt (by omega), List.getElem?_take_of_lt (by omega)] at hj
        simpa using hj
    · cases he
  | _ => cases he
theorem HR.setSame (H : HR C w K A h) {id : Nat} {b : Blk} (hg : h.get id = some b) : HR C w K A (h.set id b) ∧ Ext K A h w K A (h.set id b) w := by
  have hs : ∀ i, (h.set id b).get i = h.get i := fun i => by
    rw [Heap.get_set]
    split
    · rename_i e; rw [e, hg]
    · rfl
  have x : Ext K A h w K A (h.set id b) w := ⟨fun b hb => ⟨hb, rfl⟩, fun i hi => ⟨by unfold Ev.has at *; rw [hs]; exact hi, rfl, rfl⟩, fun i e k xs' _ hgi => ⟨xs', by rw [← hs]; exact hgi, rfl⟩, fun i k xs' _ hgi => .inr ⟨xs', by rw [← hs]; exact hgi, rfl⟩⟩
  have hus : ∀ i, Uses A (h.set id b) i ↔ Uses A h i := fun i => by unfold Uses; rw [hs]
  refine ⟨⟨fun i b' hb => BlkR.keep x (by rw [← hs]; exact hb) (fun _ => rfl) (H.blk i b' (by rw [← hs]; exact hb)), fun i j hi hj => H.inj i j ((hus i).1 hi) ((hus j).1 hj), fun i hu => H.own i ((hus i).1 hu), H.kset, H.k0, fun g p hp => x.leaf (H.glob g p hp), H.os, H.tape, H.output, H.size, H.frame⟩, x⟩
theorem append_zero {t ty e : TypeId} {i : TypeInfo} (ht : P.underlying t = some (.slice e)) (hi : P.info? e = some i) {base : Option Addr} {n cap c : Nat} (hle : n ≤ cap) (A0 : Option Addr) :
    (Builtin.append_ #[t, t] ty #[.slice base n cap, .slice A0 0 c]).run P w = .ok (.slice base n cap) w := by
  cases A0 <;> cases base <;> simp [Builtin.append_, run_underlying ht, sizeOf, typeInfo, hi, Builtin.lenOf, Builtin.firstCells, hle, storeCells, loadCells, loadCellsFrom]
theorem copy_run {t tyo e : TypeId} {i : TypeInfo} (ht : P.underlying t = some (.slice e)) (hi : P.info? e = some i) {base A0 : Option Addr} {n cap m c : Nat} {news : List Value}
    (hl : news.length = m * i.size) (hnews : m = 0 ∨ ∃ ad, A0 = some ad ∧ ∀ j u, news[j]? = some u → w.cell? (ad.add j) = some u) {w' : World}
    (hst : Nat.min m n = 0 ∨ ∃ a, base = some a ∧ (storeCells a (news.take (Nat.min m n * i.size)) 0).run P w = .ok () w') (hw : Nat.min m n = 0 → w' = w) :
    (Builtin.copy_ #[t, t] tyo #[.slice base n cap, .slice A0 m c]).run P w = .ok (goInt (Nat.min m n)) w' := by
  have hf : (Builtin.firstCells i.size (Nat.min m n) (.slice A0 m c)).run P w = .ok (news.take (Nat.min m n * i.size)).toArray w := by
    by_cases h0 : Nat.min m n = 0
    · rw [h0, Nat.zero_mul, List.take_zero]
      cases A0 with
      | none => exact run_firstCells_none w i.size 0 m c
      | some a => exact run_firstCells_some w i.size 0 a m c [] (by simp) (fun j u hj => by simp at hj)
    · have hm0 : ¬ m = 0 := fun e => h0 (by rw [e]; exact Nat.zero_min n)
      obtain ⟨ad, rfl, hc⟩ := hnews.resolve_left hm0
      refine run_firstCells_some w i.size _ ad m c _ ?_ fun j u hj => ?_
      · rw [List.length_take, hl, Nat.min_eq_left (Nat.mul_le_mul_right _ (Nat.min_le_left m n))]
      · have hj2 := (List.getElem?_eq_some_iff.1 hj).1
        simp only [List.length_take] at hj2
        rw [List.getElem?_take_of_lt (by omega)] at hj
        exact hc j u hj
  have hg : ∀ {q : Nat} {vs : Array Value}, Nat.min m n = q → (Builtin.firstCells i.size q (.slice A0 m c)).run P w = .ok vs w →
      (∀ a, base = some a → (storeCells a vs.toList 0).run P w = .ok () w') → (base = none → w' = w) →
      (Builtin.copy_ #[t, t] tyo #[.slice base n cap, .slice A0 m c]).run P w = .ok (goInt q) w' := fun {q vs} hq hf hs hn => by
    cases base with
    | none =>
      cases hn rfl
      simp [Builtin.copy_, run_underlying ht, Builtin.lenOf, sizeOf, typeInfo, hi, hq, hf]
    | some a =>
      simp [Builtin.copy_, run_underlying ht, Builtin.lenOf, sizeOf, typeInfo, hi, hq, hf, hs a rfl]
  refine hg rfl hf (fun a ha => ?_) (fun hb => ?_)
  · by_cases h0 : Nat.min m n = 0
    · rw [h0, Nat.zero_mul, List.take_zero, hw h0]
      rfl
    · obtain ⟨a', ha', hs⟩ := hst.resolve_left h0
      rw [ha] at ha'
      cases ha'
      exact hs
  · rcases hst with h0 | ⟨a, ha, _⟩
    · exact hw h0
    · rw [hb] at ha
      cases ha
theorem copy_core (H : HR C w K A h) {t tyo e : TypeId} {k : Kd} {inf : TypeInfo} (hu : P.underlying t = some (.slice e)) (hinf : P.info? e = some inf) (hsz : inf.size = k.sz) {id : Nat} {e' : TypeId} {xs : List k.T} (hg : h.get id = some (.row e' k xs))
    {n lo cap : Nat} {base : Option Addr} (hb : n = 0 ∨ (lo + n ≤ xs.length ∧ base = some ⟨A.m id, lo * k.sz, none⟩)) {ys : List k.T} {A0 : Option Addr} {c : Nat} {news : List Value} (hnews : RowR w K k ys news)
    (hcell : ys.length = 0 ∨ ∃ ad, A0 = some ad ∧ ∀ j u, news[j]? = some u → w.cell? (ad.add j) = some u) :
    ∃ w', (Builtin.copy_ #[t, t] tyo #[.slice base n cap, .slice A0 ys.length c]).run P w = .ok (goInt (Nat.min ys.length n)) w' ∧ HR C w' K A (h.set id (.row e' k (putAt xs lo (ys.take n)))) ∧ Ext K A h w K A (h.set id (.row e' k (putAt xs lo (ys.take n)))) w' := by
  have hl := RowR_len hnews
  by_cases h0 : Nat.min ys.length n = 0
  · have hnil : ys.take n = [] := List.eq_nil_of_length_eq_zero (by rw [List.length_take]; exact (Nat.min_comm n ys.length).trans h0)
    have hput : putAt xs lo (ys.take n) = xs := by rw [hnil]; simp [putAt]
    rw [hput]
    obtain ⟨H1, x1⟩ := H.setSame hg
    exact ⟨w, copy_run hu hinf (by rw [hsz]; exact hl) hcell (.inl h0) (fun _ => rfl), H1, x1⟩
  · have hn0 : ¬ n = 0 := fun e => h0 (by rw [e]; exact Nat.min_zero _)
    obtain ⟨hle, rfl⟩ := hb.resolve_left hn0
    have htl : (ys.take n).length = Nat.min ys.length n := by rw [List.length_take]; exact Nat.min_comm _ _
    have hmn : Nat.min ys.length n ≤ n := Nat.min_le_right _ _
    have hrt : RowR w K k (ys.take n) (news.take (Nat.min ys.length n * k.sz)) := by
      have h1 := RowR_take (Nat.min ys.length n) hnews
      have h2 : ys.take (Nat.min ys.length n) = ys.take n := by
        by_cases h3 : n ≤ ys.length
        · rw [show Nat.min ys.length n = n from Nat.min_eq_right h3]
        · rw [show Nat.min ys.length n = ys.length from Nat.min_eq_left (by omega), List.take_length, List.take_of_length_le (by omega)]
      rw [h2] at h1
      exact h1
    obtain ⟨cur, fz, cap', hv, hc, hz, hfit, H1, x1⟩ := H.setElems hg (by omega) (lo := lo) (by omega) hrt
    have hs := storeCells_fz (P := P) (o := lo * k.sz) (news.take (Nat.min ys.length n * k.sz)) 0 cur w hc hz (by simpa using hfit) (RowR_cell hrt)
    simp only [Nat.add_zero] at hs
    exact ⟨_, copy_run hu hinf (by rw [hsz]; exact hl) hcell (.inr ⟨_, rfl, by rw [hsz]; exact hs⟩) (fun h => absurd h h0), H1, x1⟩
theorem copyR_R (H : HR C w K A h) {t tyo : TypeId} {ty : Ty} (T : TyOK P t ty) {d x : Leaf} {vd vx : Value} (hd : LeafR w K A h d vd) (hx : LeafR w K A h x vx) (hr : copyR ty h d x = some r) :
    ∃ v w', (Builtin.copy_ #[t, t] tyo #[vd, vx]).run P w = .ok v w' ∧ HR C w' K A (h.sets r.u) ∧ Ext K A h w K A (h.sets r.u) w' ∧ SlotR w' K A (h.sets r.u) r.v v := by
  unfold copyR at hr
  split at hr
  · rename_i e k bts he
    obtain ⟨hu, inf, z, hinf, hz, hsz, hby, hzc, hpos, hbp, hdf⟩ := slice_ty T he
    split at hr
    · rename_i ys hys
      obtain ⟨A0, cx, news, rfl, hnews, hcell⟩ := elems_R H hx hys
      cases d with
      | row id =>
        simp only at hr
        split at hr
        · rename_i e' k' xs hg
          split at hr
          · rename_i zs hzs
            obtain ⟨e0, he0⟩ := castK_eq hzs
            injection e0 with e0
            subst e0
            subst he0
            replace hr := Option.some.inj hr
            subst hr
            have hb : ∃ base cap, A.hd id = .slice base xs.length cap ∧ (xs.length = 0 ∨ (0 + xs.length ≤ xs.length ∧ base = some ⟨A.m id, 0 * k.sz, none⟩)) := by
              by_cases h0 : xs.length = 0
              · obtain ⟨l', ho, _⟩ := H.blk id _ hg
                obtain ⟨a1, c1, hsl⟩ := ho.slice
                exact ⟨a1, c1, hsl, .inl h0⟩
              · obtain ⟨cap', cur, l', fz', hv', _⟩ := row_at H hg (by omega)
                exact ⟨_, _, hv', .inr ⟨by omega, by rw [Nat.zero_mul]⟩⟩
            obtain ⟨base, cap, hhd, hb⟩ := hb
            obtain ⟨w', h1, h2, h3⟩ := copy_core (tyo := tyo) (cap := cap) H hu hinf hsz hg hb hnews hcell
            rw [hd.2.1, hhd]
            exact ⟨_, w', h1, h2, h3, rfl⟩
          · cases hr
        · cases hr
      | srow id =>
        simp only at hr
        split at hr
        · rename_i e' k' xs hg
          split at hr
          · rename_i zs hzs
            obtain ⟨e0, he0⟩ := castK_eq hzs
            injection e0 with e0
            subst e0
            subst he0
            replace hr := Option.some.inj hr
            subst hr
            have hb : ∃ base cap, A.hd id = .slice base xs.length cap ∧ (xs.length = 0 ∨ (0 + xs.length ≤ xs.length ∧ base = some ⟨A.m id, 0 * k.sz, none⟩)) := by
              by_cases h0 : xs.length = 0
              · obtain ⟨l', ho, _⟩ := H.blk id _ hg
                obtain ⟨a1, c1, hsl⟩ := ho.slice
                exact ⟨a1, c1, hsl, .inl h0⟩
              · obtain ⟨cap', cur, l', fz', hv', _⟩ := row_at H hg (by omega)
                exact ⟨_, _, hv', .inr ⟨by omega, by rw [Nat.zero_mul]⟩⟩
            obtain ⟨base, cap, hhd, hb⟩ := hb
            obtain ⟨w', h1, h2, h3⟩ := copy_core (tyo := tyo) (cap := cap) H hu hinf hsz hg hb hnews hcell
            rw [hd.1.2.1, hhd]
            exact ⟨_, w', h1, h2, h3, rfl⟩
          · cases hr
        · cases hr
      | vw id sz lo n =>
        simp only at hr
        split at hr
        · rename_i e' k' xs hg
          obtain ⟨hk, hr2⟩ := bif_some hr
          clear hr
          have hk := Nat.eq_of_beq_eq_true hk
          subst hk
          split at hr2
          · rename_i zs hzs
            obtain ⟨e0, he0⟩ := castK_eq hzs
            injection e0 with e0
            subst e0
            subst he0
            replace hr2 := Option.some.inj hr2
            subst hr2
            obtain ⟨_, h0, h1, a, c, rfl, hle, hN⟩ := hd
            have hb : n.toNat = 0 ∨ (lo.toNat + n.toNat ≤ xs.length ∧ a = some ⟨A.m id, lo.toNat * k.sz, none⟩) := by
              refine hN.imp (fun e => e) fun ⟨N, M, hhd, hNle, ha⟩ => ⟨?_, ha⟩
              obtain ⟨l', ho, _⟩ := H.blk _ _ hg
              obtain ⟨a1, c1, hsl⟩ := ho.slice
              rw [hhd] at hsl
              simp only [Value.slice.injEq] at hsl
              obtain ⟨_, rfl, _⟩ := hsl
              exact hNle
            obtain ⟨w', h1, h2, h3⟩ := copy_core (tyo := tyo) (cap := c) H hu hinf hsz hg hb hnews hcell
            exact ⟨_, w', h1, h2, h3, rfl⟩
          · cases hr2
        · cases hr
      | _ => cases hr
    · cases hr
  · cases hr
theorem HR.addK {w' : World} (H : HR C w K A h) (hg : w.grownBy w' none) {g : Nat} (h1 : w.heap.size ≤ g) (h2 : g < w'.heap.size) :
    HR C w' (fun b => K b ∨ b = g) A h ∧ Ext K A h w (fun b => K b ∨ b = g) A h w' := by
  have hw : ∀ b, b < w.heap.size → w'.heap[b]? = w.heap[b]? := fun b hb => hg.block b hb (by simp)
  have x : Ext K A h w (fun b => K b ∨ b = g) A h w' :=
    ⟨fun b hb => ⟨.inl hb, hw b (H.kset b hb).1⟩, fun i hi => ⟨hi, rfl, rfl⟩, fun i e k xs' _ hgi => ⟨xs', hgi, rfl⟩, fun i k xs' _ hgi => .inr ⟨xs', hgi, rfl⟩⟩
  refine ⟨⟨fun i b hb => BlkR.keep x hb (fun hu => hw _ (H.own i hu).2.1) (H.blk i b hb), H.inj, fun i hu => ?_, fun b hb => ?_, fun b hb => .inl (H.k0 b hb), fun g l hl => x.leaf (H.glob g l hl),
    hg.os.trans H.os, hg.tape.trans H.tape, hg.output.trans H.output, Nat.le_trans H.size hg.size, fun b hb hl => (hw b (Nat.lt_of_lt_of_le hb H.size)).trans (H.frame b hb hl)⟩, x⟩
  · obtain ⟨a, b, c⟩ := H.own i hu
    refine ⟨fun hk => ?_, Nat.lt_of_lt_of_le b hg.size, c⟩
    rcases hk with hk | hk
    · exact a hk
    · omega
  · rcases hb with hb | hb
    · obtain ⟨a, c⟩ := H.kset b hb
      exact ⟨Nat.lt_of_lt_of_le a hg.size, c⟩
    · rw [hb]
      exact ⟨h2, .inr (.inl (Nat.le_trans H.size h1))⟩
theorem isNew_ok {k : Nat} {α : Type} {f : Unit → Option α} {y : α} (hb : (isNew h k).bind f = some y) : h.get k = none ∧ f () = some y := by
  unfold isNew at hb
  split at hb
  · rename_i hg
    exact ⟨hg, hb⟩
  · cases hb
theorem limit {n bytes : Nat} (hb : 0 < bytes) (hl : n * bytes ≤ capLimit) : n ≤ maxLen ∧ n * bytes ≤ 140737488355328 := by
  have : n ≤ n * bytes := Nat.le_mul_of_pos_right n hb
  unfold capLimit at hl
  unfold maxLen
  omega
theorem grown_refl (ob : Option Nat) : w.grownBy w ob := ⟨rfl, rfl, rfl, Nat.le_refl _, fun _ _ _ => rfl⟩
theorem append_own (t ty e : TypeId) (i : TypeInfo) (z : Value) (size bytes : Nat) (ht : P.underlying t = some (.slice e)) (hi : P.info? e = some i) (hz : i.zero = some z) (hsize : i.size = size) (hby : i.bytes = bytes) (hzs : z.cells.size = size) (hsz : 0 < size)
    (v : Value) (n : Nat) (xs : List Value) (hown : Owns w e size v n xs) (a : Addr) (m c : Nat) (news : List Value) (hl : news.length = m * size) (hnews : ∀ j u, news[j]? = some u → w.cell? (a.add j) = some u) (h1 : ∀ u ∈ news, u.oneCell' = true)
    (hm : 0 < m) (h63 : n + m ≤ maxLen) (hbytes : (n + m) * bytes ≤ 140737488355328) :
    ∃ v' w', (Builtin.append_ #[t, t] ty #[v, .slice (some a) m c]).run P w = .ok v' w' ∧ Owns w' e size v' (n + m) (xs ++ news) ∧ w.grownBy w' (ownB v) ∧ ∀ g, ownB v' = some g → ownB v = some g ∨ w.heap.size ≤ g := by
  have key : ∀ {v' : Value} {w' : World}, w'.ownsRow w.heap.size e size v' (n + m) (xs ++ news) → w.grownBy w' none →
      Owns w' e size v' (n + m) (xs ++ news) ∧ w.grownBy w' (ownB v) ∧ ∀ g, ownB v' = some g → ownB v = some g ∨ w.heap.size ≤ g := fun {v' w'} ho hg => by
    refine ⟨Owns.of ho, ⟨hg.os, hg.tape, hg.output, hg.size, fun k hk _ => hg.block k hk (by simp)⟩, fun g' hg' => .inr ?_⟩
    rcases ho.2 with ⟨hv, _⟩ | ⟨g, cap, cur, hv, hb, _, h2, _⟩
    · rw [hv] at hg'
      cases hg'
    · rw [hv, ownB_pos (by omega)] at hg'
      cases hg'
      exact hb
  rcases hown.2 with ⟨rfl, a0, rfl⟩ | ⟨g, cap, cur, fz, rfl, h0, hg, hzz, hle, hcm, hcs, htk⟩
  · have hx : xs = [] := List.eq_nil_of_length_eq_zero (by simpa using hown.1)
    subst hx
    cases a0 with
    | none =>
      obtain ⟨v', w', hrun, ho', hg', _, hb'⟩ := run_append_own_at (P := P) w w.heap.size t ty e i z size bytes ht hi hz hsize hby hzs hsz (.slice none 0 0) 0 [] (World.ownsRow_nil w _ e size) a m c news hl hnews h1 h63 hbytes (Nat.le_refl _)
      exact ⟨v', w', hrun, key ho' (by simpa [Value.ownBlock] using hg')⟩
    | some a1 =>
      obtain ⟨v', w', hrun, ho', hg'⟩ := run_append_arg_grows (P := P) (w := w) t ty e i z size bytes ht hi hz hsize hby hzs hsz a1 0 0 [] (by simp) (fun j u hj => by simp at hj) a m c news hl hnews (by omega) h63 hbytes
      exact ⟨v', w', hrun, key ho' hg'⟩
  · have hcell : ∀ j u, xs[j]? = some u → w.cell? ((⟨g, 0, none⟩ : Addr).add j) = some u := fun j u hj => by
      rw [add_plain', Nat.zero_add]
      simp only [World.cell?, hg]
      have hj2 : j < n * size := by
        have := (List.getElem?_eq_some_iff.1 hj).1
        rw [hown.1] at this
        exact this
      rw [← htk, List.getElem?_take_of_lt hj2] at hj
      simpa using hj
    by_cases hroom : n + m ≤ cap
    · subst hsize
      have hfit : n * i.size + news.length ≤ cur.size := by
        rw [hl, hcs, ← Nat.add_mul]
        exact Nat.mul_le_mul_right _ hroom
      have hf := run_firstCells_some (P := P) w i.size m a m c news hl hnews
      have hst := storeCells_fz (P := P) (o := n * i.size) news 0 cur w hg hzz (by simpa using hfit) h1
      simp only [Nat.add_zero] at hst
      refine ⟨.slice (some ⟨g, 0, none⟩) (n + m) cap, w.setRow g (cur.toList.take (n * i.size) ++ news ++ cur.toList.drop (n * i.size + news.length)).toArray, ?_, ⟨?_, .inr ⟨g, cap, _, fz, rfl, h0, setRow_heap w g cur _ e _ hg, ?_, hroom, hcm, ?_, ?_⟩⟩,
        ⟨rfl, rfl, rfl, by simp, fun k _ hk => setRow_other w g k _ fun ee => hk (by rw [ee, ownB_pos h0])⟩, fun g' hg' => .inl (by rw [ownB_pos h0] at hg' ⊢; exact hg')⟩
      · simp [Builtin.append_, run_underlying ht, sizeOf, typeInfo, hi, Builtin.lenOf, hroom, hf, add_plain', hst]
      · rw [List.length_append, hown.1, hl, Nat.add_mul]
      · unfold fzOK at *
        refine hzz.imp id fun hh => ?_
        simp only [List.size_toArray, List.length_append, List.length_take, List.length_drop, Array.length_toList]
        omega
      · simp only [List.size_toArray, List.length_append, List.length_take, List.length_drop, Array.length_toList]
        omega
      · rw [htk]
        have : (n + m) * i.size = (xs ++ news).length := by rw [List.length_append, hown.1, hl, Nat.add_mul]
        rw [this]
        exact List.take_left
    · obtain ⟨v', w', hrun, ho', hg'⟩ := run_append_arg_grows (P := P) (w := w) t ty e i z size bytes ht hi hz hsize hby hzs hsz ⟨g, 0, none⟩ n cap xs hown.1 hcell a m c news hl hnews (by omega) h63 hbytes
      exact ⟨v', w', hrun, key ho' hg'⟩
theorem appendR_R (H : HR C w K A h) {t tyo : TypeId} {ty : Ty} (T : TyOK P t ty) {key : Nat} {s x : Leaf} {vs vx : Value} (hs : LeafR w K A h s vs) (hx : LeafR w K A h x vx) (hr : appendR ty key h s x = some r) (hc : r.c ≠ some false) :
    ∃ v w' K' A', (Builtin.append_ #[t, t] tyo #[vs, vx]).run P w = .ok v w' ∧ HR C w' K' A' (h.sets r.u) ∧ Ext K A h w K' A' (h.sets r.u) w' ∧ SlotR w' K' A' (h.sets r.u) r.v v := by
  unfold appendR at hr
  split at hr
  · rename_i e k bts he
    obtain ⟨hu, inf, z, hinf, hz, hsz, hby, hzc, hpos, hbp, hdf⟩ := slice_ty T he
    split at hr
    · rename_i ys hys
      obtain ⟨hnew, hr⟩ := isNew_ok hr
      obtain ⟨A0, cx, news, rfl, hnews, hcell⟩ := elems_R H hx hys
      have own : ∀ {h1 : Heap} {K1 : KSet} {v : Value} {zs : List k.T} {l : List Value}, HR C w K1 A h1 → Ext K A h w K1 A h1 w → h1.get key = none → Owns w e k.sz v zs.length l → RowR w K1 k zs l →
          (∀ g, ownB v = some g → ¬ K1 g ∧ g < w.heap.size ∧ (C.w0.heap.size ≤ g ∨ C.lent g) ∧ ∀ i, Uses A h1 i → A.m i ≠ g) → (zs.length + ys.length) * bts ≤ capLimit →
          ∃ v' w' K' A', (Builtin.append_ #[t, t] tyo #[v, .slice A0 ys.length cx]).run P w = .ok v' w' ∧ HR C w' K' A' (h1.set key (.row e k (zs ++ ys))) ∧
            Ext K A h w K' A' (h1.set key (.row e k (zs ++ ys))) w' ∧ LeafR w' K' A' (h1.set key (.row e k (zs ++ ys))) (.row key) v' := fun {h1 K1 v zs l} H1 x1 hn ho hr1 hob hlim => by
        have hr2 : RowR w K1 k (zs ++ ys) (l ++ news) := RowR_app hr1 (x1.rowR hnews)
        obtain ⟨hl1, hl2⟩ := limit hbp hlim
        have hlen : (zs ++ ys).length = zs.length + ys.length := List.length_append
        have fin : ∀ {v' : Value} {w' : World}, Owns w' e k.sz v' (zs.length + ys.length) (l ++ news) → w.grownBy w' (ownB v) → (∀ g, ownB v' = some g → ownB v = some g ∨ w.heap.size ≤ g) →
            ∃ K' A', HR C w' K' A' (h1.set key (.row e k (zs ++ ys))) ∧ Ext K A h w K' A' (h1.set key (.row e k (zs ++ ys))) w' ∧ LeafR w' K' A' (h1.set key (.row e k (zs ++ ys))) (.row key) v' := fun {v' w'} ho' hg' hb' => by
          obtain ⟨A', H2, x2, hd⟩ := H1.addRow (k := k) (xs := zs ++ ys) (ownB v) hn hg' hob (by rw [hlen]; exact ho') hr2 hpos hb'
          obtain ⟨a1, c1, hsl⟩ := ho'.slice
          refine ⟨K1, A', H2, x1.trans x2, ?_, hd.symm, _, _, _, hsl⟩
          unfold Ev.has
          rw [Heap.get_set, if_pos rfl]
          rfl
        by_cases h0 : ys.length = 0
        · have hy : ys = [] := List.eq_nil_of_length_eq_zero h0
          subst hy
          have hn0 : news = [] := hnews
          subst hn0
          have ho0 : Owns w e k.sz v (zs.length + ([] : List k.T).length) (l ++ []) := by simpa using ho
          obtain ⟨K', A', a, b, c⟩ := fin ho0 (grown_refl _) (fun g hg => .inl hg)
          refine ⟨v, w, K', A', ?_, a, b, c⟩
          rcases ho.2 with ⟨_, a1, h1⟩ | ⟨g, cap, cur, fz, hv, _, _, _, hle, _⟩
          · rw [h1]
            exact append_zero hu hinf (Nat.le_refl _) A0
          · rw [hv]
            exact append_zero hu hinf hle A0
        · obtain ⟨ad, rfl, hcell'⟩ := hcell.resolve_left h0
          obtain ⟨v', w', hrun, ho', hg', hb'⟩ := append_own (P := P) (w := w) t tyo e inf z k.sz bts hu hinf hz hsz hby hzc hpos v zs.length l ho ad ys.length cx news (RowR_len hnews) hcell'
            (RowR_cell hnews) (by omega) hl1 hl2
          obtain ⟨K', A', a, b, c⟩ := fin ho' hg' hb'
          exact ⟨v', w', K', A', hrun, a, b, c⟩
      cases s with
      | nils =>
        cases hr
        have hlim : (([] : List k.T).length + ys.length) * bts ≤ capLimit := by
          simpa using of_decide_eq_true (not_false_of hc)
        rw [show vs = _ from hs]
        obtain ⟨v', w', K', A', a, b, c, d⟩ := own (zs := []) (l := []) H (Ext.refl _ _ _ _) hnew ⟨by simp, .inl ⟨rfl, none, rfl⟩⟩ rfl (fun g hg => by cases hg) hlim
        exact ⟨v', w', K', A', a, b, c, d⟩
      | emp =>
        cases hr
        have hlim : (([] : List k.T).length + ys.length) * bts ≤ capLimit := by
          simpa using of_decide_eq_true (not_false_of hc)
        obtain ⟨a1, hs⟩ := hs
        rw [hs]
        obtain ⟨v', w', K', A', a, b, c, d⟩ := own (zs := []) (l := []) H (Ext.refl _ _ _ _) hnew ⟨by simp, .inl ⟨rfl, a1, rfl⟩⟩ rfl (fun g hg => by rw [ownB_zero] at hg; cases hg) hlim
        exact ⟨v', w', K', A', a, b, c, d⟩
      | clip k' xs =>
        simp only at hr
        split at hr
        · rename_i zs hzs
          cases hr
          have hlim := of_decide_eq_true (not_false_of hc)
          obtain ⟨hl1, hl2⟩ := limit hbp hlim
          obtain ⟨hR, a0, hvs⟩ := hs
          have hR2 : Kd.R w K (.sl k) zs [vs] := R_cast (k := .sl k') (k' := .sl k) hzs hR
          have hlz : zs.length = xs.length := by
            obtain ⟨e0, he0⟩ := castK_eq hzs
            injection e0 with e0
            subst e0
            rw [← he0]
          subst hvs
          obtain ⟨hn0, _, olds, holds, hoc⟩ := R_row hR2
          by_cases h0 : ys.length = 0
          · have hy : ys = [] := List.eq_nil_of_length_eq_zero h0
            subst hy
            refine ⟨_, w, K, A, append_zero hu hinf (Nat.le_refl _) A0, H, Ext.refl _ _ _ _, ?_⟩
            show Kd.R w K (.sl k) (zs ++ []) _
            rw [List.append_nil]
            exact hR2
          · obtain ⟨ad, rfl, hcell'⟩ := hcell.resolve_left h0
            have fin : ∀ {v' : Value} {w' : World} {base : Nat}, w.heap.size ≤ base → w'.ownsRow base e k.sz v' (zs.length + ys.length) (olds ++ news) → w.grownBy w' none →
                ∃ K', HR C w' K' A h ∧ Ext K A h w K' A h w' ∧ Kd.R w' K' (.sl k) (zs ++ ys) [v'] := fun {v' w' base} hbase ho' hg' => by
              rcases ho'.2 with h1 | ⟨g, cap, cur, hv, hb, hcc, h2, h3, h4, h5⟩
              · omega
              · obtain ⟨H2, x2⟩ := H.addK hg' (Nat.le_trans hbase hb) (Array.getElem?_eq_some_iff.1 hcc).1
                refine ⟨_, H2, x2, ?_⟩
                refine owns_R (e := e) (l := olds ++ news) (K := fun b => K b ∨ b = g) ?_ (RowR_app (x2.rowR holds) (x2.rowR hnews)) (fun b hb => hb) (fun g' hg'' => ?_)
                · rw [List.length_append]
                  exact Owns.of (base := base) ⟨ho'.1, .inr ⟨g, cap, cur, hv, hb, hcc, h2, h3, h4, h5⟩⟩
                · rw [hv, ownB_pos (by omega)] at hg''
                  cases hg''
                  exact .inr rfl
            cases a0 with
            | none =>
              have hz0 : zs.length = 0 := by
                rcases hoc with h | ⟨_, h, _⟩
                · exact h
                · cases h
              have hx0 : xs.length = 0 := by omega
              have hz1 : zs = [] := List.eq_nil_of_length_eq_zero hz0
              subst hz1
              have ho1 : olds = [] := holds
              subst ho1
              rw [hx0]
              obtain ⟨v', w', hrun, ho', hg', _, hb'⟩ := run_append_own_at (P := P) w w.heap.size t tyo e inf z k.sz bts hu hinf hz hsz hby hzc hpos (.slice none 0 0) 0 [] (World.ownsRow_nil w _ e k.sz) ad ys.length cx news (RowR_len hnews) hcell'
                (RowR_cell hnews) (by simpa using hl1) (by simpa using hl2) (Nat.le_refl _)
              obtain ⟨K', H2, x2, R2⟩ := fin (Nat.le_refl _) (by simpa using ho') (by simpa [Value.ownBlock] using hg')
              exact ⟨v', w', K', A, hrun, H2, x2, R2⟩
            | some b0 =>
              have holds2 : ∀ j u, olds[j]? = some u → w.cell? (b0.add j) = some u := by
                rcases hoc with h | ⟨ad', e', h⟩
                · intro j u hj
                  have : olds.length = 0 := by rw [RowR_len holds, h]; simp
                  have hj' := (List.getElem?_eq_some_iff.1 hj).1
                  omega
                · cases e'
                  exact h
              rw [← hlz] at *
              obtain ⟨v', w', hrun, ho', hg'⟩ := run_append_arg_grows (P := P) (w := w) t tyo e inf z k.sz bts hu hinf hz hsz hby hzc hpos b0 zs.length zs.length olds (RowR_len holds) holds2 ad ys.length cx news (RowR_len hnews) hcell'
                (by omega) hl1 hl2
              obtain ⟨K', H2, x2, R2⟩ := fin (Nat.le_refl _) ho' hg'
              exact ⟨v', w', K', A, hrun, H2, x2, R2⟩
        · cases hr
      | row id =>
        simp only at hr
        split at hr
        · rename_i e' k' xs hg
          have hee := Nat.eq_of_beq_eq_true (bif_some hr).1
          replace hr := (bif_some hr).2
          subst hee
          split at hr
          · rename_i zs hzs
            obtain ⟨e0, he0⟩ := castK_eq hzs
            injection e0 with e0
            subst e0
            subst he0
            cases hr
            have hlim := of_decide_eq_true (not_false_of hc)
            obtain ⟨l', ho, hr', hb, hz'⟩ := H.blk id _ hg
            obtain ⟨H1, x1⟩ := H.kill (has_of_get hg)
            have hne : key ≠ id := fun e => by rw [e, hg] at hnew; cases hnew
            rw [hs.2.1]
            obtain ⟨v', w', K', A', a, b, c, d⟩ := own H1 x1 (by rw [Heap.get_set, if_neg hne]; exact hnew) ho hr' (fun g hgo => by
              have hgm : g = A.m id := by
                rcases hb with hb | hb
                · rw [hb] at hgo; cases hgo
                · rw [hb] at hgo; cases hgo; rfl
              subst hgm
              have hu0 := uses_row hg hgo
              obtain ⟨p, q, s⟩ := H.own id hu0
              refine ⟨p, q, s, fun i hui hm => ?_⟩
              unfold Uses at hui
              rw [Heap.get_set] at hui
              by_cases ei : i = id
              · rw [if_pos ei] at hui; exact hui
              · rw [if_neg ei] at hui
                exact ei (H.inj i id hui hu0 hm)) hlim
            exact ⟨v', w', K', A', a, b, c, d⟩
          · cases hr
        · cases hr
      | _ => cases hr
    · cases hr
  · cases hr
theorem new_row (H : HR C w K A h) {key : Nat} {e : TypeId} {k : Kd} {xs : List k.T} {l : List Value} {v : Value} {w' : World} (hn : h.get key = none) (hg : w.grownBy w' none) (ho : Owns w' e k.sz v xs.length l) (hr : RowR w K k xs l) (hz : 0 < k.sz)
    (hv : ∀ g, ownB v = some g → w.heap.size ≤ g) :
    ∃ K' A', HR C w' K' A' (h.sets [(key, .row e k xs)]) ∧ Ext K A h w K' A' (h.sets [(key, .row e k xs)]) w' ∧ SlotR w' K' A' (h.sets [(key, .row e k xs)]) (one (.row key)) v := by
  obtain ⟨A', H2, x2, hd⟩ := H.addRow (k := k) (xs := xs) none hn hg (fun g hg => by cases hg) ho hr hz (fun g hg => .inr (hv g hg))
  obtain ⟨a1, c1, hsl⟩ := ho.slice
  refine ⟨K, A', H2, x2, ?_, hd.symm, _, _, _, hsl⟩
  unfold Ev.has
  show ((h.set key (.row e k xs)).get key).isSome = true
  rw [Heap.get_set, if_pos rfl]
  rfl
def Steps1 (P : Program) (C : Ctx) (K : KSet) (A : Asg) (h : Heap) (w : World) (x : Sem Value) (r : OR) : Prop :=
  r.c ≠ some false → ∃ v w' K' A', x.run P w = .ok v w' ∧ HR C w' K' A' (h.sets r.u) ∧ Ext K A h w K' A' (h.sets r.u) w' ∧ SlotR w' K' A' (h.sets r.u) r.v v
theorem Pure1.steps {x : Sem Value} (H : HR C w K A h) (p : Pure1 P w K A h x r) : Steps1 P C K A h w x r := fun hc => by
  obtain ⟨hu, hf⟩ := p
  obtain ⟨v, hrun, hR⟩ := hf hc
  rw [hu]
  exact ⟨v, w, K, A, hrun, H, Ext.refl _ _ _ _, hR⟩
theorem sliceR_S (H : HR C w K A h) {t : TypeId} {ty : Ty} (T : TyOK P t ty) {l : Leaf} {v : Value} {lo hi mx : Option Int} {vlo vhi vmx : Option Value} (hlo : OptR lo vlo) (hhi : OptR hi vhi) (hmx : OptR mx vmx)
    (hl : LeafR w K A h l v) {key : Nat} {cz lz : Bool} (hr : sliceR cz lz ty key h l lo hi mx = some r) : Steps1 P C K A h w (Instr.sliceAt t v vlo vhi vmx) r := by
  by_cases hrow : ∃ id e k xs, l = .row id ∧ h.get id = some (.row e k xs)
  · obtain ⟨id, e, k, xs, rfl, hg⟩ := hrow
    simp only [sliceR, hg] at hr
    split at hr
    · rename_i e' k' b he
      cases mx with
      | some m => cases hr
      | none =>
        cases vmx with
        | some _ => exact hmx.elim
        | none =>
          cases lz with
          | false =>
          simp only [cond_false] at hr
          split at hr
          · rename_i r' hr'
            cases hr
            obtain ⟨K1, H1, x1, hR⟩ := freeze1 H hg
            have hv : v = A.hd id := hl.2.1
            obtain ⟨_, hp⟩ := sliceData_R (A := A) (h := h.set id (.frz k xs)) T hlo hhi (vmx := none) (by trivial) hR hr'
            intro hc
            obtain ⟨v', h1, h2⟩ := hp hc
            exact ⟨v', w, K1, A, by rw [hv]; exact h1, H1, x1, h2⟩
          · cases hr
          | true =>
          simp only [cond_true] at hr
          have hz := (bif_some hr).1
          replace hr := (bif_some hr).2
          simp only [Bool.and_eq_true] at hz
          obtain ⟨hz, hee, hkk⟩ := hz
          have hee := Nat.eq_of_beq_eq_true hee
          have hkk := Kd.eq_of_beq hkk
          subst hee
          subst hkk
          obtain ⟨hnew, hr⟩ := isNew_ok hr
          cases hr
          intro hc
          obtain ⟨hu, inf, z, hinf, _, hsz, _⟩ := slice_ty T he
          obtain ⟨l', ho, hr', hb, hz'⟩ := H.blk id _ hg
          obtain ⟨H1, x1⟩ := H.kill (has_of_get hg)
          have hne : key ≠ id := fun e => by rw [e, hg] at hnew; cases hnew
          obtain ⟨hc1, hc2⟩ := bounds_lo hz hc
          generalize hn2 : (bounds xs.length none hi).2.2 = n2 at *
          have hmax : n2 ≤ xs.length := by
            obtain ⟨_, _, h2⟩ := bounds_run (P := P) (w := w) (isS := true) hlo hhi (Nat.le_refl xs.length) hc1
            rw [hc2] at h2
            exact h2
          have hlen : (xs.take n2).length = n2 := by simp; omega
          obtain ⟨A0, cap, hv0, hrun, ho2, hob⟩ : ∃ A0 cap, v = .slice A0 xs.length cap ∧ (Instr.sliceAt t v vlo vhi none).run P w = .ok (.slice A0 n2 cap) w ∧ Owns w e k.sz (.slice A0 n2 cap) n2 (l'.take (n2 * k.sz)) ∧ ownB (.slice A0 n2 cap) = ownB (A.hd id) := by
            rw [hl.2.1]
            have hll : (l'.take (n2 * k.sz)).length = n2 * k.sz := by
              rw [List.length_take, ho.1, Nat.min_eq_left (Nat.mul_le_mul_right _ hmax)]
            rcases ho.2 with ⟨h0, a, hv⟩ | ⟨g, cap, cur, fz, hv, h0, hcc, hfz, hle, hcm, hcs, htk⟩
            · have h00 : n2 = 0 := by omega
              have hr0 := slice_run (P := P) (w := w) (A0 := a) (cap := 0) hu (size_e hinf hsz) hlo hhi (show xs.length ≤ 0 by omega) hc1
              rw [hc2] at hr0
              rw [hv]
              refine ⟨a, 0, by rw [h0], ?_, ⟨hll, .inl ⟨h00, a, by rw [h00]⟩⟩, by rw [ownB_zero, ownB_zero]⟩
              rw [h0] at hr0
              simpa using hr0
            · have hr0 := slice_run (P := P) (w := w) (A0 := some ⟨g, 0, none⟩) (cap := cap) hu (size_e hinf hsz) hlo hhi hle hc1
              rw [hc2] at hr0
              rw [hv]
              refine ⟨_, cap, rfl, ?_, ⟨hll, .inr ⟨g, cap, cur, fz, rfl, h0, hcc, hfz, by omega, hcm, hcs, ?_⟩⟩, by rw [ownB_pos h0, ownB_pos h0]⟩
              · have : ¬ cap = 0 := by omega
                simpa [add_plain', this] using hr0
              · rw [← htk, List.take_take, Nat.min_eq_left (Nat.mul_le_mul_right _ hmax)]
          obtain ⟨A', H2, x2, hd⟩ := H1.addRow (k := k) (xs := xs.take n2) (e := e) (l := l'.take (n2 * k.sz)) (v := .slice A0 n2 cap) (w' := w) (ownB (A.hd id)) (id := key) (by rw [Heap.get_set, if_neg hne]; exact hnew) (grown_refl _) (fun g hgo => by
              have hgm : g = A.m id := by
                rcases hb with hb | hb
                · rw [hb] at hgo; cases hgo
                · rw [hb] at hgo; cases hgo; rfl
              subst hgm
              have hu0 := uses_row hg hgo
              obtain ⟨p, q, s⟩ := H.own id hu0
              refine ⟨p, q, s, fun i hui hm => ?_⟩
              unfold Uses at hui
              rw [Heap.get_set] at hui
              by_cases ei : i = id
              · rw [if_pos ei] at hui; exact hui
              · rw [if_neg ei] at hui
                exact ei (H.inj i id hui hu0 hm)) (by rw [hlen]; exact ho2) (x1.rowR (RowR_take n2 hr')) hz' (fun g hg => .inl (by rw [← hob]; exact hg))
          refine ⟨_, w, K, A', hrun, H2, x1.trans x2, ?_, hd.symm, _, _, _, rfl⟩
          unfold Ev.has
          show (((h.set id .dead).set key (.row e k (xs.take n2))).get key).isSome = true
          rw [Heap.get_set, if_pos rfl]
          rfl
    · cases hr
  · exact Pure1.steps H (sliceR_R H T hlo hhi hmx hl hr fun id e k xs h1 h2 => hrow ⟨id, e, k, xs, h1, h2⟩)
theorem made_cells {k : Kd} {z : Array Value} (hd : Kd.R w K k k.dflt z.toList) (hz : z.size = k.sz) (n : Nat) : RowR w K k (List.replicate n k.dflt) (madeCells z (n * k.sz)).toList := by
  refine RowR_of (by simp [madeCells]) fun i hi => ?_
  have hi' : i < n := by simpa using hi
  have e1 : ((madeCells z (n * k.sz)).toList.drop (i * k.sz)).take k.sz = z.toList := by
    apply List.ext_getElem?
    intro j
    have hle : i * k.sz + k.sz ≤ n * k.sz := by rw [← Nat.succ_mul]; exact Nat.mul_le_mul_right _ hi'
    by_cases hj : j < k.sz
    · rw [List.getElem?_take_of_lt hj, List.getElem?_drop]
      have h1 : i * k.sz + j < n * k.sz := by omega
      have h2 : (i * k.sz + j) % k.sz = j := by rw [Nat.mul_comm, Nat.mul_add_mod, Nat.mod_eq_of_lt hj]
      have h3 : j < z.size := by omega
      have h4 : z[j]! = z[j] := getElem!_pos z j h3
      have h5 : z[j]? = some z[j] := getElem?_pos z j h3
      simp [madeCells, h1, hz, h2, h4, h5]
    · rw [List.getElem?_eq_none (by simp [List.length_take]; omega), List.getElem?_eq_none (by simp; omega)]
  have e2 : (List.replicate n k.dflt).getD i k.dflt = k.dflt := by simp [List.getD, hi']
  rw [e1, e2]
  exact hd
theorem growR_R (H : HR C w K A h) {t t' tyo : TypeId} {ty ty' : Ty} {ik : IntKind} (T : TyOK P t ty) (T' : TyOK P t' ty') (hik : ty'.d = .int ik) {key : Nat} {s : Leaf} {vs : Value} {n : Int} (hs : LeafR w K A h s vs) (hr : growR ty key h s n = some r) (hc : r.c ≠ some false) :
    ∃ v w' K' A', (Builtin.append_ #[t, t'] tyo #[vs, .int .i64 n]).run P w = .ok v w' ∧ HR C w' K' A' (h.sets r.u) ∧ Ext K A h w K' A' (h.sets r.u) w' ∧ SlotR w' K' A' (h.sets r.u) r.v v := by
  unfold growR at hr
  split at hr
  · rename_i e k bts he
    obtain ⟨hu, inf, z, hinf, hz, hsz, hby, hzc, hpos, hbp, hdf⟩ := slice_ty T he
    split at hr
    · obtain ⟨hnew, hr⟩ := isNew_ok hr
      cases hr
      have hc' := of_decide_eq_true (not_false_of hc)
      obtain ⟨h0, h2⟩ := hc'
      obtain ⟨hm1, hm2⟩ := limit hbp h2
      obtain ⟨m, rfl⟩ := Int.eq_ofNat_of_zero_le h0
      simp only [Int.toNat_natCast] at h2 hm1 hm2 ⊢
      have hu' : P.underlying t' = some (.int ik) := by
        have := T'.desc
        rw [hik] at this
        exact this
      have hm1' : m ≤ 140737488355328 := Nat.le_trans (Nat.le_mul_of_pos_right m hbp) hm2
      rw [show vs = _ from hs]
      have hw : IntKind.i64.wrap (m : Int) = (m : Int) := by
        simp [IntKind.wrap, IntKind.signed, IntKind.bits]
        omega
      have hb1 : ¬ (281474976710656 < (m : Int) * (inf.bytes : Int)) := by
        have h6 : ((m * bts : Nat) : Int) ≤ 140737488355328 := by omega
        rw [Int.natCast_mul] at h6
        rw [hby]
        omega
      by_cases hz0 : m = 0
      · subst hz0
        have hrun : (Builtin.append_ #[t, t'] tyo #[.slice none 0 0, .int .i64 ((0 : Nat) : Int)]).run P w = .ok (.slice none 0 0) w := by
          have hw0 : IntKind.i64.wrap 0 = 0 := by decide
          simp [Builtin.append_, run_underlying hu, run_underlying hu', sizeOf, typeInfo, hinf, asInt, asIntOf, hw0]
        obtain ⟨K', A', a, b, d⟩ := new_row (e := e) (k := k) (xs := []) (l := []) (v := .slice none 0 0) H hnew (grown_refl none) ⟨by simp, .inl ⟨rfl, none, rfl⟩⟩ rfl hpos (fun g hg => by rw [ownB_zero] at hg; cases hg)
        exact ⟨_, _, K', A', hrun, a, b, d⟩
      · have hg : 0 < m := by omega
        have hge := grownCap_ge w m 0 e
        have hcm : grownCap w m 0 e ≤ maxLen := grownCap_le_maxLen w m 0 e hm1
        have hfit : ¬ (281474976710656 < Builtin.nextslicecap m 0 * inf.bytes) := by
          have : Builtin.nextslicecap m 0 = m := by simp [Builtin.nextslicecap, hg]
          rw [this, hby]
          omega
        have hsz0 : ¬ (inf.size = 0) := by omega
        have hms : ¬ (m * inf.size = 0) := by
          have := Nat.mul_pos hg (by omega : 0 < inf.size)
          omega
        have hneg : ¬ ((m : Int) < 0) := by omega
        have h63' : ¬ (9223372036854775807 < (m : Int)) := by omega
        have hrun : (Builtin.append_ #[t, t'] tyo #[.slice none 0 0, .int .i64 (m : Int)]).run P w =
            .ok (.slice (some ⟨w.heap.size, 0, none⟩) m (grownCap w m 0 e)) (w.drew.alloc (.cells (Builtin.zeroCells z.cells m ++ Builtin.zeroCells z.cells (grownCap w m 0 e - m)) e)) := by
          simp [Builtin.append_, run_underlying hu, run_underlying hu', sizeOf, typeInfo, zeroValue, hinf, hz, asInt, asIntOf, hw, hb1, hz0, hms, hneg, hfit, h63', Question.forced, Builtin.firstCells, newRow, grownCap]
        have hcells := made_cells (w := w) (K := K) (z := z.cells) (hdf w K) hzc m
        have e1 : Builtin.zeroCells z.cells m = madeCells z.cells (m * k.sz) := by rw [← hzc]; rfl
        have ho : Owns (w.drew.alloc (.cells (Builtin.zeroCells z.cells m ++ Builtin.zeroCells z.cells (grownCap w m 0 e - m)) e)) e k.sz (.slice (some ⟨w.heap.size, 0, none⟩) m (grownCap w m 0 e)) (List.replicate m k.dflt).length (madeCells z.cells (m * k.sz)).toList := by
          refine Owns.of (base := 0) ⟨?_, .inr ⟨w.heap.size, _, _, by simp, Nat.zero_le _, heap_alloc_new w.drew _, ?_, hcm, ?_, ?_⟩⟩
          · simp [size_madeCells]
          · simpa using hge
          · simp only [Array.size_append, size_zeroCells, hzc, ← Nat.add_mul]
            congr 1
            omega
          · rw [Array.toList_append, e1, List.length_replicate]
            exact List.take_left' (by simp [size_madeCells])
        have hgb : w.grownBy (w.drew.alloc (.cells (Builtin.zeroCells z.cells m ++ Builtin.zeroCells z.cells (grownCap w m 0 e - m)) e)) none := ⟨rfl, rfl, rfl, by simp, fun b hb _ => RowKit.Below.heap_alloc w.drew _ b hb⟩
        obtain ⟨K', A', a, b, d⟩ := new_row (e := e) H hnew hgb ho hcells hpos (fun g hg => by
          rw [ownB_pos (by omega)] at hg; cases hg; exact Nat.le_refl _)
        exact ⟨_, _, K', A', hrun, a, b, d⟩
    · cases hr
  · cases hr
theorem makeR_S (H : HR C w K A h) {t : TypeId} {ty : Ty} (T : TyOK P t ty) {key : Nat} {n c : Int} {kn kc : IntKind} (hr : makeR ty key h n c = some r) : Steps1 P C K A h w (Instr.makeSlice t (.int kn n) (.int kc c)) r := by
  unfold makeR at hr
  split at hr
  · rename_i e k bts he
    obtain ⟨hu, inf, z, hinf, hz, hsz, hby, hzc, hpos, hbp, hdf⟩ := slice_ty T he
    obtain ⟨hnew, hr⟩ := isNew_ok hr
    cases hr
    intro hc
    have hc' := of_decide_eq_true (not_false_of hc)
    obtain ⟨h0, h1, h2⟩ := hc'
    obtain ⟨hm1, hm2⟩ := limit hbp h2
    have hcb : (inf.bytes : Int) * c ≤ 281474976710656 := by
      have h5 : inf.bytes * c.toNat ≤ 281474976710656 := by
        rw [hby, Nat.mul_comm]
        omega
      have h6 : ((inf.bytes * c.toNat : Nat) : Int) ≤ 281474976710656 := by omega
      rw [Int.natCast_mul, Int.toNat_of_nonneg (by omega)] at h6
      exact h6
    have hrun := run_make (P := P) w t e inf z hu hinf hz kn kc n c h0 h1 hcb (by unfold maxLen at hm1; omega)
    have hcells := made_cells (w := w) (K := K) (z := z.cells) (hdf w K) hzc c.toNat
    have ho : Owns (w.alloc (.cells (madeCells z.cells (c.toNat * inf.size)) e)) e k.sz (.slice (some ⟨w.heap.size, 0, none⟩) n.toNat c.toNat) (List.replicate n.toNat k.dflt).length ((madeCells z.cells (c.toNat * k.sz)).toList.take (n.toNat * k.sz)) := by
      refine Owns.of (base := 0) ⟨?_, .inr ⟨w.heap.size, c.toNat, _, by simp, Nat.zero_le _, alloc_heap_new _, ?_, hm1, ?_, ?_⟩⟩
      · simp only [List.length_replicate, List.length_take, Array.length_toList, size_madeCells]
        exact Nat.min_eq_left (Nat.mul_le_mul_right _ (by omega))
      · simp only [List.length_replicate]
        omega
      · rw [size_madeCells, hsz]
      · rw [List.length_replicate, hsz]
    have hrr : RowR w K k (List.replicate n.toNat k.dflt) ((madeCells z.cells (c.toNat * k.sz)).toList.take (n.toNat * k.sz)) := by
      have := RowR_take n.toNat hcells
      rw [List.take_replicate, Nat.min_eq_left (by omega)] at this
      exact this
    obtain ⟨K', A', a, b, d⟩ := new_row H hnew (World.grownBy_alloc w _ none) ho hrr hpos (fun g hg => by
      by_cases hc0 : c.toNat = 0
      · rw [hc0, ownB_zero] at hg; cases hg
      · rw [ownB_pos (by omega)] at hg; cases hg; exact Nat.le_refl _)
    exact ⟨_, _, K', A', hrun, a, b, d⟩
  · cases hr
end
end Go.Ev
end
section
set_option linter.unusedVariables false
namespace Go.Ev
open Go.RowKit
theorem zip_splice (off : Nat) : ∀ (vs : List Value) (s : Nat) (cs : Array Value), off + s + vs.length ≤ cs.size →
    ((vs.zipIdx s).foldl (fun cs (x : Value × Nat) => cs.setIfInBounds (off + x.2) x.1) cs).toList = cs.toList.take (off + s) ++ vs ++ cs.toList.drop (off + s + vs.length)
  | [], s, cs, _ => by simp
  | v :: vs, s, cs, hle => by
    simp only [List.zipIdx_cons, List.foldl_cons]
    rw [zip_splice off vs (s + 1) (cs.setIfInBounds (off + s) v) (by simp at hle ⊢; omega)]
    rw [Array.toList_setIfInBounds]
    have hlt : off + s < cs.toList.length := by simp at hle ⊢; omega
    apply List.ext_getElem?
    intro j
    simp only [List.getElem?_append, List.length_append, List.length_take, List.length_set, List.getElem?_take, List.getElem?_drop, List.getElem?_set, List.length_cons, List.getElem?_cons]
    have h1 : min (off + (s + 1)) cs.toList.length = off + s + 1 := by omega
    have h2 : min (off + s) cs.toList.length = off + s := by omega
    rw [h1, h2]
    by_cases c1 : j < off + s
    · have c2 : j < off + s + 1 := by omega
      have c3 : j < off + (s + 1) := by omega
      have c4 : j < off + s + (vs.length + 1) := by omega
      have c5 : ¬ off + s = j := by omega
      have c6 : j < off + s + 1 + vs.length := by omega
      simp [c1, c2, c3, c4, c5, c6]
    · by_cases c2 : j = off + s
      · subst c2
        have c4 : off + s < off + s + 1 + vs.length := by omega
        have hlt' : off + s < cs.size := by simpa using hlt
        simp [c4, hlt', show off + s < off + (s + 1) by omega]
      · by_cases c3 : j < off + s + 1 + vs.length
        · have c5 : ¬ j < off + s + 1 := by omega
          have c6 : j < off + s + (vs.length + 1) := by omega
          have c7 : ¬ j - (off + s) = 0 := by omega
          simp [c1, c3, c5, c6, c7]
          congr 1
        · have c5 : ¬ j < off + s + 1 := by omega
          have c6 : ¬ j < off + s + (vs.length + 1) := by omega
          have c7 : ¬ off + s = off + (s + 1) + vs.length + (j - (off + s + 1 + vs.length)) := by omega
          simp [c3, c6, c7]
          congr 1
          omega
section
variable {P : Program} {C : Ctx} {w : World} {K : KSet} {A : Asg} {h : Heap} {r : OR}
theorem fillR_R {place : Nat → Option (Nat × Nat)} {fl : List (Nat × Nat)} (hp : ∀ i p, nth fl i = some p → place i = some p) :
    ∀ {ps : List (Nat × AV)} {vs : List (Nat × Value)} {ls m : List Leaf} {cells : Array Value}, All2 (fun (x : Nat × AV) (y : Nat × Value) => x.1 = y.1 ∧ AVR w K A h x.2 y.2) ps vs →
    All2 (LeafR w K A h) ls cells.toList → fillR fl ls ps = some m → ∃ cells', Instr.fill place cells vs = some cells' ∧ All2 (LeafR w K A h) m cells'.toList
  | [], _, ls, m, cells, .nil, hl, hf => by
    simp only [fillR, Option.some.injEq] at hf
    subst hf
    exact ⟨cells, rfl, hl⟩
  | (i, av) :: ps, (j, v) :: vs, ls, m, cells, .cons ⟨hij, hav⟩ hps, hl, hf => by
    simp only at hij hav
    subst hij
    simp only [fillR] at hf
    split at hf
    · rename_i off size hnth
      have hc := (bif_some hf).1
      replace hf := (bif_some hf).2
      simp only [Bool.and_eq_true] at hc
      have hlen : av.leafs.length = size := by rw [← len_eq]; exact Nat.eq_of_beq_eq_true hc.1.1
      obtain ⟨cs, hvc, hall, hone⟩ := av_cells hav hc.1.2
      have hle0 : off + size ≤ ls.length := by have := Nat.le_of_ble_eq_true hc.2; rw [len_eq] at this; exact this
      split at hf
      · rename_i m1 hs
        obtain ⟨e1, e2⟩ := splice_eq hs
        have hcl : cs.length = size := by rw [← hall.len]; exact hlen
        have hsz : v.cells.size = size := by rw [hvc]; simpa using hcl
        have hz : off + cs.length ≤ cells.size := by
          have := hl.len
          simp at this
          omega
        · have hzs := zip_splice off cs 0 cells (by omega)
          simp only [Nat.add_zero] at hzs
          obtain ⟨cells', h1, h2⟩ := fillR_R hp (cells := (cs.zipIdx.foldl (fun cs (x : Value × Nat) => cs.setIfInBounds (off + x.2) x.1) cells)) hps (by
            rw [hzs, e1, ← hall.len]
            exact ((hl.take off).app hall).app (hl.drop _)) hf
          refine ⟨cells', ?_, h2⟩
          simp only [Instr.fill, hp i _ hnth]
          have c1 : ¬ (v.cells.size ≠ size ∨ off + v.cells.size > cells.size) := by
            rw [hsz]
            rw [hcl] at hz
            omega
          rw [if_neg (by simpa using c1)]
          have e9 : v.cells.zipIdx.foldl (fun cs (x : Value × Nat) => cs.setIfInBounds (off + x.2) x.1) cells = cs.zipIdx.foldl (fun cs (x : Value × Nat) => cs.setIfInBounds (off + x.2) x.1) cells := by
            rw [hvc]
            simp
          exact (congrArg (fun q => Instr.fill place q vs) e9).trans h1
      · cases hf
    · cases hf
theorem partsAV_R {σ : St} {a : Act} (H : HR C w K A σ.h) (S : SlotsR w K A σ.h σ.t a) : ∀ {ps : List (Nat × Operand)} {vs : List (Nat × AV)}, partsAV C.E σ ps = some vs →
    All2 (fun (x : Nat × AV) (y : Nat × Value) => x.1 = y.1 ∧ AVR w K A σ.h x.2 y.2) vs (ps.map fun (i, x) => (i, a.eval x))
  | [], vs, h => by
    simp only [partsAV, Option.some.injEq] at h
    subst h
    exact .nil
  | (i, o) :: ps, vs, h => by
    simp only [partsAV] at h
    split at h
    · rename_i v hv
      split at h
      · rename_i vs' hvs
        cases h
        exact .cons ⟨rfl, opAV_R H S hv⟩ (partsAV_R H S hvs)
      · cases h
    · cases h
theorem nth_arrFl : ∀ (n : Nat) (off sz i : Nat) (p : Nat × Nat), nth (arrFl off sz n) i = some p → p = (off + i * sz, sz)
  | 0, off, sz, i, p, h => by simp [arrFl, nth] at h
  | n + 1, off, sz, 0, p, h => by
    simp [arrFl, nth] at h
    simp [← h]
  | n + 1, off, sz, i + 1, p, h => by
    simp only [arrFl, nth] at h
    rw [nth_arrFl n _ sz i p h]
    simp [Nat.add_mul]
    omega
theorem build_R {t : TypeId} {ty : Ty} (T : TyOK P t ty) {ps : List (Nat × AV)} {vs : Array (Nat × Value)} {ls : List Leaf} (hag : ty.agg = true) (hk : known ty.z = true)
    (hps : All2 (fun (x : Nat × AV) (y : Nat × Value) => x.1 = y.1 ∧ AVR w K A h x.2 y.2) ps vs.toList) (hf : fillR ty.fl ty.z ps = some ls) :
    ∃ v, (Instr.build t vs).run P w = .ok v w ∧ AVR w K A h (.agg ls) v := by
  obtain ⟨it, zv, hit, hz, hzl⟩ := T.zero hk
  have hd := T.desc
  have fin : ∀ {place : Nat → Option (Nat × Nat)}, (∀ i p, nth ty.fl i = some p → place i = some p) → (∀ cells, Instr.fill place zv.cells vs.toList = some cells → P.built t vs.toList = some cells) →
      ∃ v, (Instr.build t vs).run P w = .ok v w ∧ AVR w K A h (.agg ls) v := fun {place} hp hb => by
    obtain ⟨cells, h1, h2⟩ := fillR_R hp hps (hzl w K A h) hf
    refine ⟨.agg cells, run_build w t vs cells (hb cells h1), cells.toList, by simp, h2⟩
  unfold Ty.agg at hag
  split at hag
  · rename_i fl e hty
    rw [hty] at hd
    obtain ⟨fs, hu, hm, _⟩ := hd
    refine fin (place := (fl.toArray[·]?)) (fun i p hp => ?_) fun cells hc => ?_
    · simp only [Ty.fl, hty, nth_eq] at hp
      simpa using hp
    · simp [Program.built, hit, hu, hz, hm]
      simpa using hc
  · rename_i n e k hty
    rw [hty] at hd
    obtain ⟨hu, hsz, _⟩ := hd
    obtain ⟨ie, hie, hs⟩ := Option.map_eq_some_iff.1 hsz
    refine fin (place := fun i => some (i * ie.size, ie.size)) (fun i p hp => ?_) fun cells hc => ?_
    · simp only [Ty.fl, hty] at hp
      rw [nth_arrFl _ _ _ _ _ hp, hs]
      simp
    · simp [Program.built, hit, hu, hz, hie]
      exact hc
  · cases hag
theorem replicate_eq (k : Kd) (x : k.T) : ∀ n, replicateK k x n = List.replicate n x
  | 0 => rfl
  | n + 1 => by simp [replicateK, replicate_eq k x n, List.replicate_succ]
theorem made_R {k : Kd} {z : Value} (hz : Kd.R w K k k.dflt z.cells.toList) (hs : z.cells.size = k.sz) (hpos : 0 < k.sz) (n : Nat) :
    RowR w K k (List.replicate n k.dflt) ((Array.range (n * k.sz)).map (z.cells[· % z.cells.size]!)).toList := by
  refine RowR_of (by simp) fun i hi => ?_
  have hi' : i < n := by simpa using hi
  have e1 : (List.replicate n k.dflt).getD i k.dflt = k.dflt := by simp [List.getD_eq_getElem?_getD, hi']
  rw [e1]
  have e2 : (((Array.range (n * k.sz)).map (z.cells[· % z.cells.size]!)).toList.drop (i * k.sz)).take k.sz = z.cells.toList := by
    apply List.ext_getElem?
    intro j
    by_cases hj : j < k.sz
    · have hlt : i * k.sz + j < n * k.sz := by
        have : i * k.sz + k.sz ≤ n * k.sz := by
          rw [← Nat.succ_mul]
          exact Nat.mul_le_mul_right _ hi'
        omega
      have hm : (i * k.sz + j) % k.sz = j := by
        rw [Nat.mul_comm, Nat.mul_add_mod, Nat.mod_eq_of_lt hj]
      rw [List.getElem?_take_of_lt hj, List.getElem?_drop]
      simp [hlt, hs, hm, hj]
    · have : z.cells.toList.length ≤ j := by simp; omega
      rw [List.getElem?_eq_none (by simp; omega), List.getElem?_eq_none this]
  rw [e2]
  exact hz
theorem packAV_R {K' : KSet} (hk : ∀ b, K b → K' b) (H : HR C w K A h) {k : Kd} {av : AV} {v : Value} {x : k.T} {f : List Nat} (hv : AVR w K A h av v) (hp : packAV h k av = some (x, f))
    (hf : ∀ id ∈ f, ∀ e k xs, h.get id = some (.row e k xs) → Kd.R w K' (.sl k) xs [A.hd id]) : Kd.R w K' k x v.cells.toList ∧ (k.isAgg = true → ∃ cs, v = .agg cs) ∧ (k.isAgg = false → v.oneCell' = true) := by
  unfold packAV at hp
  cases hb : bxor av.isAgg k.isAgg with
  | true => rw [hb] at hp; cases hp
  | false =>
    rw [hb] at hp
    simp only [cond_false] at hp
    split at hp
    · rename_i y f' hq
      cases hp
      cases av with
      | one l =>
        have hag : k.isAgg = false := by
          cases hh : k.isAgg with
          | false => rfl
          | true => rw [hh] at hb; cases hb
        obtain ⟨c1, c2, e, R1, r1⟩ := packL_R hk H (ls := [l]) (cs := [v]) (.cons hv .nil) hq hf
        cases r1
        rw [List.append_nil] at e
        rw [← e] at R1
        have h1 : v.oneCell' = true := Kd.R_cell R1 v (by simp)
        have hc : v.cells = #[v] := by cases v <;> first | rfl | cases h1
        refine ⟨by rw [hc]; exact R1, fun hh => (by rw [hag] at hh; cases hh), fun _ => h1⟩
      | agg ls =>
        obtain ⟨cs, rfl, hl⟩ := hv
        have hag : k.isAgg = true := by
          cases hh : k.isAgg with
          | true => rfl
          | false => rw [hh] at hb; cases hb
        obtain ⟨c1, c2, e, R1, r1⟩ := packL_R hk H hl hq hf
        cases r1
        rw [List.append_nil] at e
        rw [← e] at R1
        exact ⟨R1, fun _ => ⟨_, rfl⟩, fun hh => (by rw [hag] at hh; cases hh)⟩
    · cases hp
theorem fillRow_R {K' : KSet} (hk : ∀ b, K b → K' b) (H : HR C w K A h) {k : Kd} : ∀ {ps : List (Nat × AV)} {vs : List (Nat × Value)} {xs ys : List k.T} {f : List Nat} {cells : Array Value},
    All2 (fun (x : Nat × AV) (y : Nat × Value) => x.1 = y.1 ∧ AVR w K A h x.2 y.2) ps vs → RowR w K' k xs cells.toList → fillRow h k xs ps = some (ys, f) →
    (∀ id ∈ f, ∀ e k xs, h.get id = some (.row e k xs) → Kd.R w K' (.sl k) xs [A.hd id]) →
    ∃ cells', Instr.fill (fun i => some (i * k.sz, k.sz)) cells vs = some cells' ∧ RowR w K' k ys cells'.toList ∧ ys.length = xs.length
  | [], _, xs, ys, f, cells, .nil, hl, hf, _ => by
    simp only [fillRow, Option.some.injEq, Prod.mk.injEq] at hf
    obtain ⟨rfl, rfl⟩ := hf
    exact ⟨cells, rfl, hl, rfl⟩
  | (i, av) :: ps, (j, v) :: vs, xs, ys, f, cells, .cons ⟨hij, hav⟩ hps, hl, hf, hfr => by
    simp only at hij hav
    subst hij
    simp only [fillRow] at hf
    have hi : i < xs.length := by
      have := Nat.le_of_ble_eq_true (bif_some hf).1
      rw [len_eq] at this
      omega
    replace hf := (bif_some hf).2
    split at hf
    · rename_i y f1 hp
      split at hf
      · rename_i zs f2 hq
        simp only [Option.some.injEq, Prod.mk.injEq, app_eq] at hf
        obtain ⟨rfl, rfl⟩ := hf
        obtain ⟨hR, _, _⟩ := packAV_R hk H hav hp fun id hi => hfr id (List.mem_append_left _ hi)
        have hsz : v.cells.size = k.sz := by have := Kd.R_len hR; simpa using this
        have hle : i * k.sz + k.sz ≤ cells.size := by
          have h1 := RowR_len hl
          have h2 : i * k.sz + k.sz ≤ xs.length * k.sz := by
            rw [← Nat.succ_mul]
            exact Nat.mul_le_mul_right _ hi
          simp at h1
          omega
        have hzs := zip_splice (i * k.sz) v.cells.toList 0 cells (by simp; omega)
        simp only [Nat.add_zero] at hzs
        have hl' : RowR w K' k (setNth xs i y) ((v.cells.toList.zipIdx.foldl (fun cs (x : Value × Nat) => cs.setIfInBounds (i * k.sz + x.2) x.1) cells)).toList := by
          rw [hzs, setNth_eq]
          have := RowR_set hR hl i hi
          rw [show v.cells.toList.length = k.sz from Kd.R_len hR]
          exact this
        obtain ⟨cells', h1, h2, h3⟩ := fillRow_R hk H hps hl' hq fun id hi => hfr id (List.mem_append_right _ hi)
        refine ⟨cells', ?_, h2, by rw [h3, setNth_eq]; simp⟩
        simp only [Instr.fill]
        have c1 : ¬ (v.cells.size ≠ k.sz ∨ i * k.sz + v.cells.size > cells.size) := by
          rw [hsz]
          omega
        rw [if_neg (by simpa using c1)]
        have e9 : v.cells.zipIdx.foldl (fun cs (x : Value × Nat) => cs.setIfInBounds (i * k.sz + x.2) x.1) cells = v.cells.toList.zipIdx.foldl (fun cs (x : Value × Nat) => cs.setIfInBounds (i * k.sz + x.2) x.1) cells := by
          obtain ⟨cs, hcs⟩ : ∃ cs : List Value, v.cells = cs.toArray := ⟨v.cells.toList, by simp⟩
          rw [hcs]
          simp
        exact (congrArg (fun q => Instr.fill (fun i => some (i * k.sz, k.sz)) q vs) e9).trans h1
      · cases hf
    · cases hf
theorem get_none_frozenUpd : ∀ (f : List Nat) (h : Heap) (id : Nat), h.get id = none → (h.sets (frozenUpd h f)).get id = none
  | [], _, _, hn => hn
  | j :: f, h, id, hn => by
    simp only [frozenUpd]
    split
    · rename_i e k xs hg
      have hne : id ≠ j := fun ee => by rw [ee, hg] at hn; cases hn
      rw [Heap.sets]
      exact get_none_frozenUpd f _ id (by rw [Heap.get_set, if_neg hne]; exact hn)
    · exact get_none_frozenUpd f h id hn
theorem buildSlice_R (H : HR C w K A h) {t : TypeId} {ty : Ty} (T : TyOK P t ty) {e : TypeId} {k : Kd} {b : Nat} (he : ty.el = some (e, k, b)) {ps : List (Nat × AV)} {vs : Array (Nat × Value)} {len key : Nat} {xs : List k.T} {f : List Nat}
    (hps : All2 (fun (x : Nat × AV) (y : Nat × Value) => x.1 = y.1 ∧ AVR w K A h x.2 y.2) ps vs.toList) (hsm : len * k.sz ≤ 16777216) (hf : fillRow h k (replicateK k k.dflt len) ps = some (xs, f)) (hn : h.get key = none) :
    ∃ v w' K' A', (Instr.buildSlice t len vs).run P w = .ok v w' ∧ HR C w' K' A' (h.sets (app (frozenUpd h f) [(key, .row e k xs)])) ∧ Ext K A h w K' A' (h.sets (app (frozenUpd h f) [(key, .row e k xs)])) w' ∧
      LeafR w' K' A' (h.sets (app (frozenUpd h f) [(key, .row e k xs)])) (.row key) v := by
  obtain ⟨hu, inf, z, hinf, hz, hsz, hby, hzc, hpos, hbp, hdf⟩ := slice_ty T he
  obtain ⟨K', H1, x1, hfr⟩ := freezes f H
  rw [replicate_eq] at hf
  obtain ⟨cells, h1, h2, h3⟩ := fillRow_R (fun b hb => (x1.kk b hb).1) H hps (made_R (hdf w K') hzc hpos len) hf hfr
  have hlen : xs.length = len := by rw [h3]; simp
  have hcs : cells.size = len * k.sz := by have := RowR_len h2; rw [hlen] at this; simpa using this
  have hrun : (Instr.buildSlice t len vs).run P w = .ok (.slice (some ⟨w.heap.size, 0, none⟩) len len) (w.alloc (.cells cells e)) := by
    by_cases h0 : len = 0
    · subst h0
      have hc0 : (Array.range (0 * k.sz)).map (z.cells[· % z.cells.size]!) = #[] := by simp
      rw [hc0] at h1
      simp [Instr.buildSlice, run_underlying hu w, sizeOf, typeInfo, hinf, newRow, hsz, Array.range_zero', h1]
    · refine run_buildSlice w t e len vs cells inf z hu hinf hz (by rw [hsz]; omega) (by rw [hsz]; exact fun hh => by rcases Nat.mul_eq_zero.1 hh with hh | hh <;> omega) (by rw [hsz]; exact h1)
  have hml : len ≤ maxLen := by
    have : len ≤ len * k.sz := Nat.le_mul_of_pos_right _ hpos
    unfold maxLen
    omega
  obtain ⟨A', H2, x2, hd⟩ := H1.addRow (w' := w.alloc (.cells cells e)) (k := k) (xs := xs) (e := e) (l := cells.toList) (v := .slice (some ⟨w.heap.size, 0, none⟩) len len) none (get_none_frozenUpd f h key hn) (World.grownBy_alloc w _ none)
    (fun g hg => by cases hg) (Owns.of (base := 0) ⟨RowR_len h2, .inr ⟨w.heap.size, len, cells, by rw [hlen], Nat.zero_le _, alloc_heap_new _, by omega, hml, hcs, by rw [hlen, ← hcs, List.take_of_length_le (by simp)]⟩⟩) h2 hpos
    (fun g hg => .inr (by
      by_cases h0 : len = 0
      · rw [h0, ownB_zero] at hg; cases hg
      · rw [ownB_pos (by omega)] at hg; cases hg; exact Nat.le_refl _))
  rw [Heap.sets_app]
  refine ⟨_, _, K', A', hrun, H2, x1.trans x2, ?_, hd.symm, _, _, _, rfl⟩
  unfold Ev.has
  show (((h.sets (frozenUpd h f)).set key (.row e k xs)).get key).isSome = true
  rw [Heap.get_set, if_pos rfl]
  rfl
end
end Go.Ev
end
section
set_option linter.unusedVariables false
namespace Go.Ev
open Go.RowKit
section
variable {P : Program} {C : Ctx} {w : World} {K : KSet} {A : Asg} {h : Heap} {r : OR}
theorem run_eql_ptr {tp te : TypeId} {j : TypeInfo} (p q : Option Addr) (hp : P.underlying tp = some (.pointer te)) (hte : P.info? te = some j) (hpq : p = q ∨ p = none ∨ q = none) (op : BinOp) (ho : op = .eql ∨ op = .neq) (x y : Operand) :
    (do eqGuard op tp x y (.pointer p) (.pointer q); binOp op tp (.pointer p) (.pointer q) : Sem Value).run P w = .ok (.bool (if op = .eql then decide (p = q) else !decide (p = q))) w := by
  have h : ∀ d : Nat, (Op.equalIn (d + 1) tp (.pointer p) (.pointer q)).run P w = .ok (decide (p = q)) w := fun d => by
    cases p with
    | none => cases q <;> simp [Op.equalIn, run_underlying hp, sizeOf, typeInfo]
    | some a =>
      cases q with
      | none => simp [Op.equalIn, run_underlying hp, sizeOf, typeInfo]
      | some b =>
        have e : a = b := by
          rcases hpq with h | h | h
          · exact Option.some.inj h
          · cases h
          · cases h
        subst e
        simp [Op.equalIn, run_underlying hp, sizeOf, typeInfo, hte, run_sameAddr_same]
  have hg : (eqGuard op tp x y (.pointer p) (.pointer q)).run P w = .ok () w := by
    unfold eqGuard
    rcases ho with rfl | rfl <;> rfl
  rw [Sem.run_bind, hg, Result.andThen_ok]
  rcases ho with rfl | rfl
  · simp only [binOp]
    simp [Op.equal, Op.maxDepth, h 9999]
  · simp only [binOp]
    simp [Op.equal, Op.maxDepth, h 9999]
theorem ptrBin_R (T : TabOK P C.E.tt) {op : BinOp} {t : TypeId} {x y : AV} {ox oy : Operand} {vx vy : Value} (hx : AVR w K A h x vx) (hy : AVR w K A h y vy) (hr : ptrBin C.E op t x y = some r) :
    Pure1 P w K A h (do eqGuard op t ox oy vx vy; binOp op t vx vy) r := by
  unfold ptrBin at hr
  split at hr
  · rename_i ty hty
    split at hr
    · rename_i te n hd
      have hD := (T t ty hty).desc
      rw [hd] at hD
      obtain ⟨hp, ⟨j, hj, _⟩, _⟩ := hD
      split at hr
      · rename_i i u
        have hx : LeafR w K A h (.optp i u) vx := hx
        obtain ⟨_, rfl⟩ := hx
        split at hr
        · have hy : vy = .pointer none := hy
          subst hy
          have go : ∀ (o : BinOp), o = .eql ∨ o = .neq → r = { v := one (.dat .bool (if o = .eql then !u else u)) } → op = o → Pure1 P w K A h (do eqGuard op t ox oy (.pointer (if u = true then some ⟨A.m i, 0, none⟩ else none)) (.pointer none); binOp op t (.pointer (if u = true then some ⟨A.m i, 0, none⟩ else none)) (.pointer none)) r := by
            rintro o ho rfl rfl
            refine ⟨rfl, fun _ => ⟨_, run_eql_ptr _ _ hp hj (.inr (.inr rfl)) op ho ox oy, ?_⟩⟩
            show [_] = [_]
            rcases ho with rfl | rfl <;> cases u <;> rfl
          split at hr
          · cases hr; exact go .eql (.inl rfl) rfl rfl
          · cases hr; exact go .neq (.inr rfl) rfl rfl
          · cases hr
        · rename_i j' o'
          have hy : LeafR w K A h (.ptr j' o') vy := hy
          obtain ⟨hcd, hr2⟩ := bif_some hr
          clear hr
          simp only [Bool.and_eq_true] at hcd
          have e1 := Nat.eq_of_beq_eq_true hcd.1
          have e2 := Nat.eq_of_beq_eq_true hcd.2
          subst e1; subst e2
          obtain ⟨_, rfl⟩ := hy
          have go : ∀ (o : BinOp), o = .eql ∨ o = .neq → r = { v := one (.dat .bool (if o = .eql then u else !u)) } → op = o → Pure1 P w K A h (do eqGuard op t ox oy (.pointer (if u = true then some ⟨A.m i, 0, none⟩ else none)) (.pointer (some ⟨A.m i, 0, none⟩)); binOp op t (.pointer (if u = true then some ⟨A.m i, 0, none⟩ else none)) (.pointer (some ⟨A.m i, 0, none⟩))) r := by
            rintro o ho rfl rfl
            refine ⟨rfl, fun _ => ⟨_, run_eql_ptr _ _ hp hj (by cases u; exact .inr (.inl rfl); exact .inl rfl) op ho ox oy, ?_⟩⟩
            show [_] = [_]
            rcases ho with rfl | rfl <;> cases u <;> simp
          split at hr2
          · cases hr2; exact go .eql (.inl rfl) rfl rfl
          · cases hr2; exact go .neq (.inr rfl) rfl rfl
          · cases hr2
        · cases hr
      · cases hr
    · cases hr
  · cases hr
theorem ifcBin_R (T : TabOK P C.E.tt) {op : BinOp} {t : TypeId} {x : AV} {ox oy : Operand} {vx vy : Value} (hx : AVR w K A h x vx) (hy : ∀ c, oy = .const c → vy = c) (hr : ifcBin C.E op t x oy = some r) :
    Pure1 P w K A h (do eqGuard op t ox oy vx vy; binOp op t vx vy) r := by
  unfold ifcBin at hr
  split at hr
  · have hy := hy _ rfl
    subst hy
    split at hr
    · rename_i ty hty
      split at hr
      · rename_i hd
        have hD := (T t ty hty).desc
        rw [hd] at hD
        split at hr
        · rename_i b
          obtain ⟨v, e, hv⟩ := (show Kd.R w K .ifc b [vx] from hx)
          cases e
          have go : ∀ (o : BinOp), o = .eql ∨ o = .neq → op = o → r = { v := one (.dat .bool (if o = .eql then b else !b)) } → Pure1 P w K A h (do eqGuard op t ox (.const .nilIface) vx .nilIface; binOp op t vx .nilIface) r := by
            rintro o ho rfl rfl
            rcases hv with ⟨rfl, rfl⟩ | ⟨rfl, u, z, rfl⟩
            · have he : (Op.equal t .nilIface .nilIface).run P w = .ok true w := run_equalIn_nil_nil w _ t hD
              refine Pure1.guard (by rw [eqGuard_nil_constR]; rfl) ?_
              rcases ho with rfl | rfl
              · refine pure1 (v := .bool true) rfl ?_ rfl
                show (do pure (Value.bool (← Op.equal t .nilIface .nilIface))).run P w = _
                rw [Sem.run_bind, he]
                rfl
              · refine pure1 (v := .bool false) rfl ?_ rfl
                show (do pure (Value.bool (!(← Op.equal t .nilIface .nilIface)))).run P w = _
                rw [Sem.run_bind, he]
                rfl
            · have he : (Op.equal t (.iface u z) .nilIface).run P w = .ok false w := run_equalIn_held_nil w _ t u z hD
              refine Pure1.guard (by rw [eqGuard_at_iface]; rfl) ?_
              rcases ho with rfl | rfl
              · refine pure1 (v := .bool false) rfl ?_ rfl
                show (do pure (Value.bool (← Op.equal t (.iface u z) .nilIface))).run P w = _
                rw [Sem.run_bind, he]
                rfl
              · refine pure1 (v := .bool true) rfl ?_ rfl
                show (do pure (Value.bool (!(← Op.equal t (.iface u z) .nilIface)))).run P w = _
                rw [Sem.run_bind, he]
                rfl
          split at hr
          · cases hr; exact go .eql (.inl rfl) rfl rfl
          · cases hr; exact go .neq (.inr rfl) rfl rfl
          · cases hr
        · cases hr
      · cases hr
    · cases hr
  · cases hr
theorem convP_R (T : TabOK P C.E.tt) (H : HR C w K A h) {src dst : TypeId} {x : AV} {v : Value} (hx : AVR w K A h x v) (hr : convP C.E h src dst x = some r) : Pure1 P w K A h (convert src dst v) r := by
  unfold convP at hr
  split at hr
  · rename_i sy hsy
    split at hr
    · rename_i dy hdy
      split at hr
      · rename_i id
        have hx : LeafR w K A h (.ptr id 0) v := hx
        split at hr
        · rename_i t0 u ls hg
          obtain ⟨cs, hc, hl, _⟩ := H.blk id _ hg
          have hsh : w.shape? (⟨A.m id, 0, none⟩ : Addr).block = some (t0, cs.length + 1) := by simp [World.shape?, hc]
          have hS := (T src sy hsy).desc
          have hD := (T dst dy hdy).desc
          obtain ⟨hh, rfl⟩ := hx
          split at hr
          · rename_i te n hsd
            rw [hsd] at hS
            obtain ⟨hp, ⟨j, hj, hj0⟩, _⟩ := hS
            split at hr
            · rename_i hdd
              rw [hdd] at hD
              cases hr
              refine ⟨rfl, fun _ => ⟨_, Lib.run_to_unsafe w _ hp hD hj hj0 hsh (Nat.zero_lt_succ _), ?_⟩⟩
              exact ⟨hh, rfl⟩
            · cases hr
          · rename_i hsd
            rw [hsd] at hS
            split at hr
            · rename_i t' n hdd
              rw [hdd] at hD
              obtain ⟨hp, ⟨j, hj, hj0⟩, hn, hlies⟩ := hD
              obtain ⟨hcd, hr⟩ := bif_some hr
              cases hr
              simp only [Bool.and_eq_true] at hcd
              have e1 := Nat.eq_of_beq_eq_true hcd.1
              have e2 : n = cs.length + 1 := by
                have := Nat.eq_of_beq_eq_true hcd.2
                rw [this, len_eq, hl.len]
              subst e1
              refine ⟨rfl, fun _ => ⟨_, Lib.run_from_unsafe w _ hS hp hj hsh (by rw [← e2]; exact hlies), ?_⟩⟩
              exact ⟨hh, rfl⟩
            · cases hr
          · cases hr
        · cases hr
      · cases hr
    · cases hr
  · cases hr
theorem append_ownS (t u ty e : TypeId) (i : TypeInfo) (ht : P.underlying t = some (.slice e)) (hu : P.underlying u = some .string) (hi : P.info? e = some i) {z : Value} (hz : i.zero = some z) (hzc : z.cells.size = 1) (hsize : i.size = 1) (hby : i.bytes = 1)
    (v : Value) (n : Nat) (xs : List Value) (hown : Owns w e 1 v n xs) (s : ByteArray) (h63 : n + s.size ≤ maxLen) (hbytes : n + s.size ≤ 140737488355328) :
    ∃ v' w', (Builtin.append_ #[t, u] ty #[v, .string s]).run P w = .ok v' w' ∧ Owns w' e 1 v' (n + s.size) (xs ++ Lib.strCells s) ∧ w.grownBy w' (ownB v) ∧ ∀ g, ownB v' = some g → ownB v = some g ∨ w.heap.size ≤ g := by
  have hxl : xs.length = n := by simpa using hown.1
  have hsmall : n + s.size ≤ 9223372036854775807 := by simp only [maxLen] at h63; omega
  have key : ∀ {v' : Value} {w' : World}, w'.ownsRow w.heap.size e 1 v' (n + s.size) (xs ++ Lib.strCells s) → w.grownBy w' none →
      Owns w' e 1 v' (n + s.size) (xs ++ Lib.strCells s) ∧ w.grownBy w' (ownB v) ∧ ∀ g, ownB v' = some g → ownB v = some g ∨ w.heap.size ≤ g := fun {v' w'} ho hg => by
    refine ⟨Owns.of ho, ⟨hg.os, hg.tape, hg.output, hg.size, fun k hk _ => hg.block k hk (by simp)⟩, fun g' hg' => .inr ?_⟩
    rcases ho.2 with ⟨hv, _⟩ | ⟨g, cap, cur, hv, hb, _, h2, h3, _⟩
    · rw [hv] at hg'
      cases hg'
    · rw [hv] at hg'
      by_cases hc : cap = 0
      · subst hc; rw [ownB_zero] at hg'; cases hg'
      · rw [ownB_pos (by omega)] at hg'
        cases hg'
        exact hb
  have fresh : ∀ (old : Nat), old < n + s.size →
      (w.drew.alloc (.cells (xs.toArray ++ (Lib.strCells s).toArray ++ Builtin.zeroCells z.cells (grownCap w (n + s.size) old e - (n + s.size))) e)).ownsRow w.heap.size e 1 (.slice (some ⟨w.heap.size, 0, none⟩) (n + s.size) (grownCap w (n + s.size) old e)) (n + s.size) (xs ++ Lib.strCells s) ∧
      w.grownBy (w.drew.alloc (.cells (xs.toArray ++ (Lib.strCells s).toArray ++ Builtin.zeroCells z.cells (grownCap w (n + s.size) old e - (n + s.size))) e)) none := by
    intro old ho
    have hge := grownCap_ge w (n + s.size) old e
    have hcm : grownCap w (n + s.size) old e ≤ maxLen := grownCap_le_maxLen w (n + s.size) old e h63
    have hlen : (xs ++ Lib.strCells s).length = (n + s.size) * 1 := by rw [List.length_append, hxl, Lib.strCells_length, Nat.mul_one]
    refine ⟨⟨hlen, .inr ⟨w.heap.size, _, _, rfl, Nat.le_refl _, heap_alloc_new w.drew _, hge, hcm, ?_, ?_⟩⟩, ⟨rfl, rfl, rfl, by simp, fun k hk _ => alloc_heap_lt (w := w.drew) _ hk⟩⟩
    · simp only [Array.size_append, List.size_toArray, size_zeroCells, hzc, hxl, Lib.strCells_length]
      omega
    · simp only [Array.toList_append, List.append_assoc]
      rw [← List.append_assoc, ← hlen]
      exact List.take_left
  have grown : ∀ (b : Addr) (old : Nat), old < n + s.size → (∀ j v, xs[j]? = some v → w.cell? (b.add j) = some v) → ∃ v' w', (Builtin.append_ #[t, u] ty #[.slice (some b) n old, .string s]).run P w = .ok v' w' ∧ w'.ownsRow w.heap.size e 1 v' (n + s.size) (xs ++ Lib.strCells s) ∧ w.grownBy w' none := by
    intro b old ho holds
    have hr := Lib.run_append_grow_string (P := P) w t u ty e i z ht hu hi hz b n old xs (by rw [hsize]; simpa using hxl) holds s (by omega) (by omega) (by rw [hby]; exact growslice_fits (by omega) (by omega))
    exact ⟨_, _, hr, fresh old ho⟩
  rcases hown.2 with ⟨rfl, a0, rfl⟩ | ⟨g, cap, cur, fz, rfl, h0, hg, hzz, hle, hcm, hcs, htk⟩
  · have hx : xs = [] := List.eq_nil_of_length_eq_zero hxl
    subst hx
    cases a0 with
    | none =>
      by_cases hm : s.size = 0
      · have hn : Lib.strCells s = [] := List.eq_nil_of_length_eq_zero (by rw [Lib.strCells_length]; exact hm)
        have hf := Lib.run_firstCells_string (P := P) w 1 s
        rw [hm] at hf
        refine ⟨.slice none 0 0, w, ?_, ⟨by rw [hn, hm]; rfl, .inl ⟨by omega, _, rfl⟩⟩, grown_refl _, fun g hg => .inl hg⟩
        simp [Builtin.append_, run_underlying ht, run_underlying hu, sizeOf, typeInfo, hi, hsize, Builtin.lenOf, hm, hf]
      · have hr := run_append_nil_string (P := P) w t u ty e i z ht hu hi hz s (by omega) (by omega) (by rw [hby]; omega)
        have hgr := fresh 0 (by omega)
        simp only [Nat.zero_add, List.nil_append, Array.empty_append] at hgr key ⊢
        have e1 : (s.data.map fun b => Value.int .u8 b.toNat) = (Lib.strCells s).toArray := by
          apply Array.ext'
          simp [Lib.strCells]
        rw [e1] at hr
        exact ⟨_, _, hr, key hgr.1 hgr.2⟩
    | some a1 =>
      by_cases hs : s.size = 0
      · have hn : Lib.strCells s = [] := List.eq_nil_of_length_eq_zero (by rw [Lib.strCells_length]; exact hs)
        have hf := Lib.run_firstCells_string (P := P) w 1 s
        rw [hs, hn] at hf
        refine ⟨.slice (some a1) 0 0, w, ?_, ⟨by rw [hn, hs]; rfl, .inl ⟨by omega, _, rfl⟩⟩, grown_refl _, fun g hg => .inl hg⟩
        simp [Builtin.append_, run_underlying ht, run_underlying hu, sizeOf, typeInfo, hi, hsize, Builtin.lenOf, hs, hf, storeCells]
      · obtain ⟨v', w', hrun, ho', hg'⟩ := grown a1 0 (by omega) (fun j v hj => by simp at hj)
        exact ⟨v', w', hrun, key ho' hg'⟩
  · have hcell : ∀ j u, xs[j]? = some u → w.cell? ((⟨g, 0, none⟩ : Addr).add j) = some u := fun j u hj => by
      rw [add_plain', Nat.zero_add]
      simp only [World.cell?, hg]
      have hj2 : j < n * 1 := by
        have := (List.getElem?_eq_some_iff.1 hj).1
        rw [hown.1] at this
        exact this
      rw [← htk, List.getElem?_take_of_lt hj2] at hj
      simpa using hj
    by_cases hroom : n + s.size ≤ cap
    · have hfit : n * 1 + (Lib.strCells s).length ≤ cur.size := by
        rw [hcs, Lib.strCells_length]; omega
      have hf := Lib.run_firstCells_string (P := P) w 1 s
      have hst := storeCells_fz (P := P) (o := n * 1) (Lib.strCells s) 0 cur w hg hzz (by simpa using hfit) (Lib.strCells_oneCell s)
      simp only [Nat.add_zero] at hst
      refine ⟨.slice (some ⟨g, 0, none⟩) (n + s.size) cap, w.setRow g (cur.toList.take (n * 1) ++ Lib.strCells s ++ cur.toList.drop (n * 1 + (Lib.strCells s).length)).toArray, ?_, ⟨?_, .inr ⟨g, cap, _, fz, rfl, h0, setRow_heap w g cur _ e _ hg, ?_, hroom, hcm, ?_, ?_⟩⟩,
        ⟨rfl, rfl, rfl, by simp, fun k _ hk => setRow_other w g k _ fun ee => hk (by rw [ee, ownB_pos h0])⟩, fun g' hg' => .inl (by rw [ownB_pos h0] at hg' ⊢; exact hg')⟩
      · rw [Nat.mul_one] at hst ⊢
        simp [Builtin.append_, run_underlying ht, run_underlying hu, sizeOf, typeInfo, hi, hsize, Builtin.lenOf, hroom, hf, add_plain', hst]
      · rw [List.length_append, hown.1, Lib.strCells_length]; omega
      · unfold fzOK at *
        refine hzz.imp id fun hh => ?_
        simp only [List.size_toArray, List.length_append, List.length_take, List.length_drop, Array.length_toList]
        omega
      · simp only [List.size_toArray, List.length_append, List.length_take, List.length_drop, Array.length_toList]
        omega
      · rw [htk]
        have : (n + s.size) * 1 = (xs ++ Lib.strCells s).length := by rw [List.length_append, hown.1, Lib.strCells_length]; omega
        rw [this]
        exact List.take_left
    · obtain ⟨v', w', hrun, ho', hg'⟩ := grown ⟨g, 0, none⟩ cap (by omega) hcell
      exact ⟨v', w', hrun, key ho' hg'⟩
theorem bytes_R {w : World} {K : KSet} (s : ByteArray) : RowR w K (.int .u8) (bytesL s) (Lib.strCells s) := by
  unfold bytesL Lib.strCells
  induction s.data.toList with
  | nil => rfl
  | cons x l ih => exact ⟨[.int .u8 x.toNat], _, rfl, rfl, ih⟩
theorem bytesL_size (s : ByteArray) : (bytesL s).length = s.size := by
  unfold bytesL
  rw [List.length_map]
  exact Array.length_toList
theorem appendS_R (H : HR C w K A h) {t t' tyo : TypeId} {ty ty' : Ty} (T : TyOK P t ty) (T' : TyOK P t' ty') (hst : ty'.d = .str) {key : Nat} {s : Leaf} {b : ByteArray} {vs : Value} (hs : LeafR w K A h s vs) (hr : appendS ty key h s b = some r) (hc : r.c ≠ some false) :
    ∃ v w' K' A', (Builtin.append_ #[t, t'] tyo #[vs, .string b]).run P w = .ok v w' ∧ HR C w' K' A' (h.sets r.u) ∧ Ext K A h w K' A' (h.sets r.u) w' ∧ SlotR w' K' A' (h.sets r.u) r.v v := by
  have hu' : P.underlying t' = some .string := by
    have := T'.desc
    rw [hst] at this
    exact this
  unfold appendS at hr
  split at hr
  · rename_i e k bts he
    obtain ⟨hu, inf, z, hinf, hz, hsz, hby, hzc, hpos, hbp, hdf⟩ := slice_ty T he
    split at hr
    · obtain ⟨hb1, hr⟩ := bif_some hr
      have hb1 : bts = 1 := Nat.eq_of_beq_eq_true hb1
      subst hb1
      obtain ⟨hnew, hr⟩ := isNew_ok hr
      have own : ∀ {h1 : Heap} {v : Value} {zs : List Int} {l : List Value}, HR C w K A h1 → Ext K A h w K A h1 w → h1.get key = none → Owns w e 1 v zs.length l → RowR w K (.int .u8) zs l →
          (∀ g, ownB v = some g → ¬ K g ∧ g < w.heap.size ∧ (C.w0.heap.size ≤ g ∨ C.lent g) ∧ ∀ i, Uses A h1 i → A.m i ≠ g) → zs.length + b.size ≤ capLimit →
          ∃ v' w' K' A', (Builtin.append_ #[t, t'] tyo #[v, .string b]).run P w = .ok v' w' ∧ HR C w' K' A' (h1.set key (.row e (.int .u8) (zs ++ bytesL b))) ∧
            Ext K A h w K' A' (h1.set key (.row e (.int .u8) (zs ++ bytesL b))) w' ∧ LeafR w' K' A' (h1.set key (.row e (.int .u8) (zs ++ bytesL b))) (.row key) v' := fun {h1 v zs l} H1 x1 hn ho hr1 hob hlim => by
        have hr2 : RowR w K (.int .u8) (zs ++ bytesL b) (l ++ Lib.strCells b) := RowR_app hr1 (bytes_R b)
        have hlen : (zs ++ bytesL b).length = zs.length + b.size := by rw [List.length_append, bytesL_size]
        obtain ⟨v', w', hrun, ho', hg', hb'⟩ := append_ownS (P := P) (w := w) t t' tyo e inf hu hu' hinf hz hzc hsz hby v zs.length l ho b (by unfold capLimit at hlim; unfold maxLen; omega) hlim
        obtain ⟨A', H2, x2, hd⟩ := H1.addRow (k := .int .u8) (xs := zs ++ bytesL b) (ownB v) hn hg' hob (by rw [hlen]; exact ho') hr2 (by decide) hb'
        obtain ⟨a1, c1, hsl⟩ := ho'.slice
        refine ⟨v', w', K, A', hrun, H2, x1.trans x2, ?_, hd.symm, _, _, _, hsl⟩
        unfold Ev.has
        rw [Heap.get_set, if_pos rfl]
        rfl
      cases s with
      | nils =>
        cases hr
        have hlim : ([] : List Int).length + b.size ≤ capLimit := by
          simpa using of_decide_eq_true (not_false_of hc)
        rw [show vs = _ from hs]
        obtain ⟨v', w', K', A', a, b', c, d⟩ := own (zs := []) (l := []) H (Ext.refl _ _ _ _) hnew ⟨by simp, .inl ⟨rfl, none, rfl⟩⟩ rfl (fun g hg => by cases hg) hlim
        exact ⟨v', w', K', A', a, b', c, d⟩
      | row id =>
        simp only at hr
        split at hr
        · rename_i e' k' xs hg
          have hee := Nat.eq_of_beq_eq_true (bif_some hr).1
          replace hr := (bif_some hr).2
          subst hee
          split at hr
          · rename_i zs hzs
            obtain ⟨e0, he0⟩ := castK_eq hzs
            cases e0
            have he0 : xs = zs := he0
            subst he0
            cases hr
            have hlim := of_decide_eq_true (not_false_of hc)
            obtain ⟨l', ho, hr', hb, hz'⟩ := H.blk id _ hg
            obtain ⟨H1, x1⟩ := H.kill (has_of_get hg)
            have hne : key ≠ id := fun e => by rw [e, hg] at hnew; cases hnew
            rw [hs.2.1]
            obtain ⟨v', w', K', A', a, b, c, d⟩ := own H1 x1 (by rw [Heap.get_set, if_neg hne]; exact hnew) ho hr' (fun g hgo => by
              have hgm : g = A.m id := by
                rcases hb with hb | hb
                · rw [hb] at hgo; cases hgo
                · rw [hb] at hgo; cases hgo; rfl
              subst hgm
              have hu0 := uses_row hg hgo
              obtain ⟨p, q, s⟩ := H.own id hu0
              refine ⟨p, q, s, fun i hui hm => ?_⟩
              unfold Uses at hui
              rw [Heap.get_set] at hui
              by_cases ei : i = id
              · rw [if_pos ei] at hui; exact hui
              · rw [if_neg ei] at hui
                exact ei (H.inj i id hui hu0 hm)) hlim
            exact ⟨v', w', K', A', a, b, c, d⟩
          · cases hr
        · cases hr
      | _ => cases hr
    · cases hr
  · cases hr
theorem append_zeroS {t u ty e : TypeId} {i : TypeInfo} (ht : P.underlying t = some (.slice e)) (hu : P.underlying u = some .string) (hi : P.info? e = some i) {base : Option Addr} {n cap : Nat} (hle : n ≤ cap) {s : ByteArray} (hs : s.size = 0) :
    (Builtin.append_ #[t, u] ty #[.slice base n cap, .string s]).run P w = .ok (.slice base n cap) w := by
  have hf := Lib.run_firstCells_string (P := P) w i.size s
  have hn : Lib.strCells s = [] := List.eq_nil_of_length_eq_zero (by rw [Lib.strCells_length]; exact hs)
  rw [hs, hn] at hf
  cases base <;> simp [Builtin.append_, run_underlying ht, run_underlying hu, sizeOf, typeInfo, hi, Builtin.lenOf, hs, hle, hf, storeCells]
theorem strict_row {w' : World} {K' : KSet} {A' : Asg} {h' : Heap} (H' : HR C w' K' A' h') {key : Nat} {e : TypeId} {k : Kd} {xs : List k.T} {v : Value} (hg : h'.get key = some (.row e k xs)) (hl : LeafR w' K' A' h' (.row key) v) (hz : xs.length = 0 → v = .slice none 0 0 ∨ ownB v ≠ none) : LeafR w' K' A' h' (.srow key) v := by
  refine ⟨hl, ?_⟩
  obtain ⟨l, ho, _⟩ := H'.blk key _ hg
  rw [← hl.2.1] at ho
  rcases ho.2 with ⟨h0, _⟩ | ⟨g, cap, cur, fz, hv, h0, _⟩
  · exact hz h0
  · right
    rw [hv, ownB_pos h0]
    simp
theorem head_slice (H : HR C w K A h) {s : Leaf} {vs : Value} (hst : s = .nils ∨ ∃ id, s = .srow id) (hs : LeafR w K A h s vs) : (vs = .slice none 0 0 ∨ ownB vs ≠ none) ∧ LeafR w K A h (unS s) vs := by
  rcases hst with rfl | ⟨id, rfl⟩
  · exact ⟨.inl hs, hs⟩
  · exact ⟨hs.2, hs.1⟩
theorem appendR_strict (H : HR C w K A h) {t tyo : TypeId} {ty : Ty} (T : TyOK P t ty) {key : Nat} {s x : Leaf} {vs vx : Value} (hst : s = .nils ∨ ∃ id, s = .srow id) (hs : LeafR w K A h s vs) (hx : LeafR w K A h x vx) (hr : appendR ty key h (unS s) x = some r) (hc : r.c ≠ some false) :
    ∃ v w' K' A', (Builtin.append_ #[t, t] tyo #[vs, vx]).run P w = .ok v w' ∧ HR C w' K' A' (h.sets r.u) ∧ Ext K A h w K' A' (h.sets r.u) w' ∧ LeafR w' K' A' (h.sets r.u) (.srow key) v ∧ r.v = one (.row key) := by
  obtain ⟨hstr, hs'⟩ := head_slice H hst hs
  obtain ⟨v, w', K', A', h1, h2, h3, h4⟩ := appendR_R (tyo := tyo) H T hs' hx hr hc
  unfold appendR at hr
  split at hr
  · rename_i e k bts he
    obtain ⟨hu, inf, z, hinf, hz, hsz, hby, hzc, hpos, hbp, hdf⟩ := slice_ty T he
    split at hr
    · rename_i ys hys
      obtain ⟨hnew, hr⟩ := isNew_ok hr
      obtain ⟨A0, cx, news, rfl, hnews, hcell⟩ := elems_R H hx hys
      rcases hst with rfl | ⟨id, rfl⟩
      · simp only [unS] at hr
        cases hr
        refine ⟨v, w', K', A', h1, h2, h3, ?_, rfl⟩
        refine strict_row h2 (e := e) (k := k) (xs := ys) (by simp only [Heap.sets]; rw [Heap.get_set, if_pos rfl]) h4 fun h0 => ?_
        have hv : vs = .slice none 0 0 := hs
        rw [hv, h0, append_zero hu hinf (Nat.le_refl _) A0] at h1
        cases h1
        exact .inl rfl
      · simp only [unS] at hr
        split at hr
        · rename_i e' k' xs hg
          have hee := Nat.eq_of_beq_eq_true (bif_some hr).1
          replace hr := (bif_some hr).2
          subst hee
          split at hr
          · rename_i zs hzs
            cases hr
            refine ⟨v, w', K', A', h1, h2, h3, ?_, rfl⟩
            refine strict_row h2 (e := e) (k := k) (xs := zs ++ ys) (by simp only [Heap.sets]; rw [Heap.get_set, if_pos rfl]) h4 fun h0 => ?_
            rw [List.length_append] at h0
            have hy0 : ys.length = 0 := by omega
            obtain ⟨a, n, c, ha⟩ := hs.1.2.2
            obtain ⟨l', ho, _⟩ := H.blk id _ hg
            rw [← hs.1.2.1] at ho
            have hle : n ≤ c := by
              rcases ho.2 with ⟨_, a', h'⟩ | ⟨g, cap, cur, fz, h', _, _, _, hle, _⟩
              · rw [ha] at h'; cases h'; exact Nat.le_refl _
              · rw [ha] at h'; cases h'; exact hle
            rw [ha, hy0, append_zero hu hinf hle A0] at h1
            cases h1
            rw [← ha]
            exact hstr
          · cases hr
        · cases hr
    · cases hr
  · cases hr
theorem appendS_strict (H : HR C w K A h) {t t' tyo : TypeId} {ty ty' : Ty} (T : TyOK P t ty) (T' : TyOK P t' ty') (hst' : ty'.d = .str) {key : Nat} {s : Leaf} {b : ByteArray} {vs : Value} (hst : s = .nils ∨ ∃ id, s = .srow id) (hs : LeafR w K A h s vs) (hr : appendS ty key h (unS s) b = some r) (hc : r.c ≠ some false) :
    ∃ v w' K' A', (Builtin.append_ #[t, t'] tyo #[vs, .string b]).run P w = .ok v w' ∧ HR C w' K' A' (h.sets r.u) ∧ Ext K A h w K' A' (h.sets r.u) w' ∧ LeafR w' K' A' (h.sets r.u) (.srow key) v ∧ r.v = one (.row key) := by
  obtain ⟨hstr, hs'⟩ := head_slice H hst hs
  obtain ⟨v, w', K', A', h1, h2, h3, h4⟩ := appendS_R (tyo := tyo) H T T' hst' hs' hr hc
  have hu' : P.underlying t' = some .string := by
    have := T'.desc
    rw [hst'] at this
    exact this
  unfold appendS at hr
  split at hr
  · rename_i e k bts he
    obtain ⟨hu, inf, z, hinf, hz, hsz, hby, hzc, hpos, hbp, hdf⟩ := slice_ty T he
    split at hr
    · obtain ⟨_, hr⟩ := bif_some hr
      obtain ⟨hnew, hr⟩ := isNew_ok hr
      rcases hst with rfl | ⟨id, rfl⟩
      · simp only [unS] at hr
        cases hr
        refine ⟨v, w', K', A', h1, h2, h3, ?_, rfl⟩
        refine strict_row h2 (e := e) (k := .int .u8) (xs := bytesL b) (by simp only [Heap.sets]; rw [Heap.get_set, if_pos rfl]) h4 fun h0 => ?_
        rw [bytesL_size] at h0
        have hv : vs = .slice none 0 0 := hs
        rw [hv, append_zeroS hu hu' hinf (Nat.le_refl _) h0] at h1
        cases h1
        exact .inl rfl
      · simp only [unS] at hr
        split at hr
        · rename_i e' k' xs hg
          have hee := Nat.eq_of_beq_eq_true (bif_some hr).1
          replace hr := (bif_some hr).2
          subst hee
          split at hr
          · rename_i zs hzs
            cases hr
            refine ⟨v, w', K', A', h1, h2, h3, ?_, rfl⟩
            refine strict_row h2 (e := e) (k := .int .u8) (xs := zs ++ bytesL b) (by simp only [Heap.sets]; rw [Heap.get_set, if_pos rfl]) h4 fun h0 => ?_
            rw [List.length_append, bytesL_size] at h0
            obtain ⟨a, n, c, ha⟩ := hs.1.2.2
            obtain ⟨l', ho, _⟩ := H.blk id _ hg
            rw [← hs.1.2.1] at ho
            have hle : n ≤ c := by
              rcases ho.2 with ⟨_, a', h'⟩ | ⟨g, cap, cur, fz, h', _, _, _, hle, _⟩
              · rw [ha] at h'; cases h'; exact Nat.le_refl _
              · rw [ha] at h'; cases h'; exact hle
            rw [ha, append_zeroS hu hu' hinf hle (by omega)] at h1
            cases h1
            rw [← ha]
            exact hstr
          · cases hr
        · cases hr
    · cases hr
  · cases hr
theorem run_loadB {cur : Array Value} {e : TypeId} {fz : Nat × Nat} {g : Nat} (hg : w.heap[g]? = some (.cells cur e fz)) : ∀ (xs : List Int) (o : Nat) (acc : ByteArray), (∀ j x, xs[j]? = some x → cur[o + j]? = some (.int .u8 x)) →
    (Go.loadBytes ⟨g, o, none⟩ acc xs.length).run P w = .ok ⟨acc.data ++ (xs.map fun n => UInt8.ofNat n.toNat).toArray⟩ w
  | [], o, acc, _ => by simp [Go.loadBytes]
  | x :: l, o, acc, h => by
    have h0 : w.cell? ⟨g, o, none⟩ = some (.int .u8 x) := by
      have := h 0 x rfl
      simpa [World.cell?, hg] using this
    have e1 : (⟨g, o, none⟩ : Addr).add 1 = ⟨g, o + 1, none⟩ := by simp [Addr.add]
    have ih := run_loadB hg l (o + 1) (acc.push (UInt8.ofNat x.toNat)) (fun j y hy => by
      have := h (j + 1) y (by simpa using hy)
      rw [show o + 1 + j = o + (j + 1) by omega]
      exact this)
    simp only [List.length_cons, Go.loadBytes, Sem.run_bind, run_load, h0, Result.andThen, e1]
    rw [show x.toNat.toUInt8 = UInt8.ofNat x.toNat from rfl, ih]
    congr 1
    apply ByteArray.ext
    simp [ByteArray.push]
theorem unsafeData_R (H : HR C w K A h) {id : Nat} {e : TypeId} {xs : List Int} (hg : h.get id = some (.row e (.int .u8) xs)) {v : Value} (hl : LeafR w K A h (.srow id) v) (ts : Array TypeId) (ty : TypeId) :
    ∃ u, (Builtin.unsafeSliceData_ ts ty #[v]).run P w = .ok u w ∧ LeafR w K A h (.sd id) u := by
  obtain ⟨⟨hh, hv, _⟩, hs⟩ := hl
  obtain ⟨l, ho, _, hb, _⟩ := H.blk id _ hg
  rcases hs with hs | hs
  · rw [hs]
    refine ⟨_, Lib.run_unsafeSliceData_nil w ts ty 0 0, hh, none, rfl, fun n c hd _ => ?_⟩
    rw [← hv, hs] at hd
    cases hd
  · rw [← hv] at ho hb
    have hb := hb.resolve_left hs
    obtain ⟨cap, cur, fz, h1, h2, _⟩ := ho.at hb
    rw [h1]
    exact ⟨_, Lib.run_unsafeSliceData_row w ts ty _ _ _ (by omega), hh, _, rfl, fun n c hd _ => rfl⟩
theorem HR.touch (H : HR C w K A h) {id : Nat} {b : Blk} {g : Nat} {w' : World} (hg : h.get id = some b) (hu : Uses A h id) (hm : A.m id = g) (hh : ∀ k, k ≠ g → w'.heap[k]? = w.heap[k]?) (hos : w'.os = w.os) (htape : w'.tape = w.tape) (hout : w'.output = w.output) (hsize : w'.heap.size = w.heap.size) :
    HR C w' K A (h.set id .dead) ∧ Ext K A h w K A (h.set id .dead) w' := by
  obtain ⟨hnk, hlt, hbl⟩ := H.own id hu
  rw [hm] at hnk hlt hbl
  have x : Ext K A h w K A (h.set id .dead) w' := by
    refine ⟨fun b hb => ⟨hb, hh b fun e => hnk (e ▸ hb)⟩, fun i hi => ⟨?_, rfl, rfl⟩, fun i e k xs' hi hg => ?_, fun i k xs' hi hg => ?_⟩
    · unfold Ev.has at *
      rw [Heap.get_set]
      split
      · rfl
      · exact hi
    · rw [Heap.get_set] at hg
      split at hg
      · cases hg
      · exact ⟨xs', hg, rfl⟩
    · rw [Heap.get_set] at hg
      split at hg
      · cases hg
      · exact .inr ⟨xs', hg, rfl⟩
  exact ⟨H.update x trivial (fun hu => hu.elim) (fun i hi hui => hh _ fun e => hi (H.inj i id hui hu (by rw [e, hm]))) hos htape hout (Nat.le_of_eq hsize.symm) (fun k hk hl => hh k fun e => by
    subst e
    rcases hbl with h' | h'
    · omega
    · exact hl h'), x⟩
theorem unsafeString_R (H : HR C w K A h) {id : Nat} {e : TypeId} {xs : List Int} (hg : h.get id = some (.row e (.int .u8) xs)) {v : Value} (hl : LeafR w K A h (.sd id) v) {pt it ty : TypeId} (hp : P.underlying pt = some (.pointer e)) (hc : P.cellsOf e = 1) :
    ∃ w', (Builtin.unsafeString_ #[pt, it] ty #[v, .int .i64 (xs.length : Int)]).run P w = .ok (.string (strOf xs)) w' ∧ HR C w' K A (h.set id .dead) ∧ Ext K A h w K A (h.set id .dead) w' := by
  obtain ⟨hh, p, rfl, hpp⟩ := hl
  by_cases h0 : xs.length = 0
  · have : xs = [] := List.eq_nil_of_length_eq_zero h0
    subst this
    obtain ⟨H', x⟩ := H.kill hh
    exact ⟨w, Lib.run_unsafeString_none w pt it ty p, H', x⟩
  · obtain ⟨l, ho, hr, hb, _⟩ := H.blk id _ hg
    rcases ho.2 with ⟨h1, _⟩ | ⟨g, cap, cur, fz, hv, hc0, hcur, hz, hle, hcm, hcs, htk⟩
    · exact absurd h1 h0
    have hgm : g = A.m id := by
      rcases hb with hb | hb
      · rw [hv, ownB_pos hc0] at hb; cases hb
      · rw [hv, ownB_pos hc0] at hb; cases hb; rfl
    subst hgm
    have hp1 := hpp _ _ hv hc0
    subst hp1
    have hu : Uses A h id := uses_row hg (g := A.m id) (by rw [hv]; exact ownB_pos hc0)
    have hls : l = xs.map (Value.int .u8) := row_u8' hr
    have hcell : ∀ j x, xs[j]? = some x → cur[0 + j]? = some (.int .u8 x) := fun j x hj => by
      have hj2 : j < xs.length := (List.getElem?_eq_some_iff.1 hj).1
      have h2 : l[j]? = some (.int .u8 x) := by rw [hls, List.getElem?_map, hj]; rfl
      rw [← htk, List.getElem?_take_of_lt (by simpa [Kd.sz] using hj2)] at h2
      simpa using h2
    have hld := run_loadB (P := P) (e := e) (fz := fz) hcur xs 0 ByteArray.empty hcell
    have hsh : w.shape? (A.m id) = some (e, cur.size) := by simp [World.shape?, hcur]
    have hcs1 : cur.size = cap := by simpa [Kd.sz] using hcs
    have hlies := Lib.liesAt_bytes (P := P) hc (cur.size / P.cellsOf e) xs.length (by rw [hc]; omega)
    have h63 : ¬ (9223372036854775807 : Int) < (xs.length : Int) := by unfold maxLen at hcm; omega
    have hdef : Builtin.unsafeString_ #[pt, it] ty #[.pointer (some ⟨A.m id, 0, none⟩), .int .i64 (xs.length : Int)] =
        (do
          let n ← asInt (.int .i64 (xs.length : Int))
          if n < 0 then runtimePanic (.error "unsafe.String: len out of range")
          if n > IntKind.i64.max then unsupported (.unsafePointer "String: a length above the largest int")
          if n = 0 then pure (.string .empty)
          else if ← variablesAt ⟨A.m id, 0, none⟩ (← elemOf pt) n.toNat then do
            let s ← Go.loadBytes ⟨A.m id, 0, none⟩ .empty n.toNat
            freeze ⟨A.m id, 0, none⟩ n.toNat
            pure (.string s)
          else unsupported (.unsafePointer "String: not so many bytes at ptr")) := rfl
    have hmax : IntKind.i64.max = 9223372036854775807 := rfl
    have hneg : ¬ (xs.length : Int) < 0 := by omega
    have h0' : xs ≠ [] := fun h => h0 (by rw [h]; rfl)
    have hrun : (Builtin.unsafeString_ #[pt, it] ty #[.pointer (some ⟨A.m id, 0, none⟩), .int .i64 (xs.length : Int)]).run P w = .ok (.string (strOf xs)) (w.freeze ⟨A.m id, 0, none⟩ xs.length) := by
      rw [hdef]
      simp [asInt, asIntOf, hmax, h63, hneg, h0', variablesAt, hsh, elemOf, run_underlying hp, hlies, hld, strOf]
    have hfr : ∀ k, k ≠ A.m id → (w.freeze ⟨A.m id, 0, none⟩ xs.length).heap[k]? = w.heap[k]? := fun k hk => by
      unfold World.freeze
      rw [if_neg h0]
      simp only [Array.getElem?_modify]
      rw [if_neg (fun h => hk h.symm)]
    have hfs : (w.freeze ⟨A.m id, 0, none⟩ xs.length).os = w.os ∧ (w.freeze ⟨A.m id, 0, none⟩ xs.length).tape = w.tape ∧ (w.freeze ⟨A.m id, 0, none⟩ xs.length).output = w.output ∧ (w.freeze ⟨A.m id, 0, none⟩ xs.length).heap.size = w.heap.size := by
      unfold World.freeze
      rw [if_neg h0]
      exact ⟨rfl, rfl, rfl, by simp⟩
    obtain ⟨H', x⟩ := H.touch (w' := w.freeze ⟨A.m id, 0, none⟩ xs.length) hg hu rfl hfr hfs.1 hfs.2.1 hfs.2.2.1 hfs.2.2.2
    exact ⟨_, hrun, H', x⟩
where row_u8' : ∀ {xs : List Int} {l : List Value}, RowR w K (.int .u8) xs l → l = xs.map (Value.int .u8)
  | [], _, h => h
  | x :: xs, _, ⟨l1, l2, h, h1, h2⟩ => by
    rw [h, show l1 = _ from h1, row_u8' h2]
    rfl
theorem unS_R {s : Leaf} {v : Value} (hs : LeafR w K A h s v) : LeafR w K A h (unS s) v := by
  cases s <;> first | exact hs | exact hs.1
theorem reS_c {b : Bool} {s : Leaf} {r0 : OR} : (reS b s r0).c = r0.c ∧ (reS b s r0).u = r0.u := by
  unfold reS
  cases b with
  | false => exact ⟨rfl, rfl⟩
  | true => cases s <;> first | exact ⟨rfl, rfl⟩ | (dsimp only; split <;> exact ⟨rfl, rfl⟩)
theorem reS_v {b : Bool} {s : Leaf} {r0 : OR} : (reS b s r0).v = r0.v ∨ ((s = .nils ∨ ∃ id, s = .srow id) ∧ ∃ k, r0.v = one (.row k) ∧ (reS b s r0).v = one (.srow k)) := by
  unfold reS
  cases b with
  | false => exact .inl rfl
  | true =>
    cases s with
    | nils =>
      dsimp only
      split
      · rename_i k hk; exact .inr ⟨.inl rfl, k, hk, rfl⟩
      · exact .inl rfl
    | srow id =>
      dsimp only
      split
      · rename_i k hk; exact .inr ⟨.inr ⟨_, rfl⟩, k, hk, rfl⟩
      · exact .inl rfl
    | _ => exact .inl rfl
theorem appendQ_R (H : HR C w K A h) {t tyo : TypeId} {ty : Ty} (T : TyOK P t ty) {b : Bool} {key : Nat} {s x : Leaf} {vs vx : Value} (hs : LeafR w K A h s vs) (hx : LeafR w K A h x vx) (hr : (appendR ty key h (unS s) x).map (reS b s) = some r) (hc : r.c ≠ some false) :
    ∃ v w' K' A', (Builtin.append_ #[t, t] tyo #[vs, vx]).run P w = .ok v w' ∧ HR C w' K' A' (h.sets r.u) ∧ Ext K A h w K' A' (h.sets r.u) w' ∧ SlotR w' K' A' (h.sets r.u) r.v v := by
  obtain ⟨r0, h0, rfl⟩ := Option.map_eq_some_iff.1 hr
  have hc0 : r0.c ≠ some false := by rw [← (reS_c (b := b) (s := s)).1]; exact hc
  rw [(reS_c (b := b) (s := s)).2]
  rcases reS_v (b := b) (s := s) (r0 := r0) with hv | ⟨hst, k, hk, hv⟩
  · rw [hv]
    exact appendR_R (tyo := tyo) H T (unS_R hs) hx h0 hc0
  · obtain ⟨v, w', K', A', h1, h2, h3, h4, h5⟩ := appendR_strict (tyo := tyo) H T hst hs hx h0 hc0
    refine ⟨v, w', K', A', h1, h2, h3, ?_⟩
    have : k = key := by
      rw [hk] at h5
      cases h5
      rfl
    subst this
    rw [hv]
    exact h4
theorem appendT_R (H : HR C w K A h) {t t' tyo : TypeId} {ty ty' : Ty} (T : TyOK P t ty) (T' : TyOK P t' ty') (hst' : ty'.d = .str) {b : Bool} {key : Nat} {s : Leaf} {x : ByteArray} {vs : Value} (hs : LeafR w K A h s vs) (hr : (appendS ty key h (unS s) x).map (reS b s) = some r) (hc : r.c ≠ some false) :
    ∃ v w' K' A', (Builtin.append_ #[t, t'] tyo #[vs, .string x]).run P w = .ok v w' ∧ HR C w' K' A' (h.sets r.u) ∧ Ext K A h w K' A' (h.sets r.u) w' ∧ SlotR w' K' A' (h.sets r.u) r.v v := by
  obtain ⟨r0, h0, rfl⟩ := Option.map_eq_some_iff.1 hr
  have hc0 : r0.c ≠ some false := by rw [← (reS_c (b := b) (s := s)).1]; exact hc
  rw [(reS_c (b := b) (s := s)).2]
  rcases reS_v (b := b) (s := s) (r0 := r0) with hv | ⟨hst, k, hk, hv⟩
  · rw [hv]
    exact appendS_R (tyo := tyo) H T T' hst' (unS_R hs) h0 hc0
  · obtain ⟨v, w', K', A', h1, h2, h3, h4, h5⟩ := appendS_strict (tyo := tyo) H T T' hst' hst hs h0 hc0
    refine ⟨v, w', K', A', h1, h2, h3, ?_⟩
    have : k = key := by
      rw [hk] at h5
      cases h5
      rfl
    subst this
    rw [hv]
    exact h4
end
end Go.Ev
end
section
set_option linter.unusedVariables false
set_option linter.unusedSimpArgs false
namespace Go.Ev
open Go.RowKit
section
variable {P : Program} {C : Ctx} {w : World} {K : KSet} {A : Asg} {h : Heap} {r : OR} {σ : St} {a : Act}
theorem optI_R (H : HR C w K A σ.h) (S : SlotsR w K A σ.h σ.t a) {o : Option Operand} {n : Option Int} (ho : optI C.E σ o = some n) : OptR n (o.map a.eval) := by
  cases o with
  | none => simp only [optI, Option.some.injEq] at ho; subst ho; trivial
  | some o =>
    simp only [optI] at ho
    split at ho
    · rename_i l hl
      split at ho
      · rename_i n' hn
        cases ho
        have hR := opLeaf_R H S hl
        unfold asI at hn
        split at hn
        · cases hn
          exact ⟨_, int_R hR⟩
        · cases hn
      · cases ho
    · cases ho
theorem asI_R {l : Leaf} {v : Value} {n : Int} (hl : LeafR w K A h l v) (hn : asI l = some n) : ∃ k, v = .int k n := by
  unfold asI at hn
  split at hn
  · cases hn
    exact ⟨_, int_R hl⟩
  · cases hn
theorem pickR_R {c : Bool} {x y : Leaf} {vx vy : Value} (hx : LeafR w K A h x vx) (hy : LeafR w K A h y vy) (hr : pickR c x y = some r) : r.c = none ∧ r.u = [] ∧ SlotR w K A h r.v (if c then vx else vy) := by
  unfold pickR at hr
  split at hr
  · rename_i k x k' y
    split at hr
    · rename_i z hz
      have hna := (bif_some hr).1
      replace hr := (bif_some hr).2
      cases hr
      refine ⟨rfl, rfl, ?_⟩
      have hy' : Kd.R w K k z [vy] := R_cast hz hy
      cases c with
      | true => exact hx
      | false => exact hy'
    · cases hr
  · cases hr
    refine ⟨rfl, rfl, ?_⟩
    cases c with
    | true => show Kd.R w K .bool _ [vx]; rw [kb_R hx]; exact rfl
    | false => show Kd.R w K .bool _ [vy]; rw [kb_R hy]; exact rfl
  · cases hr
    refine ⟨rfl, rfl, ?_⟩
    cases c with
    | true => show Kd.R w K .bool _ [vx]; rw [kb_R hx]; exact rfl
    | false => show Kd.R w K .bool _ [vy]; rw [bool_R hy]; exact rfl
  · cases hr
    refine ⟨rfl, rfl, ?_⟩
    cases c with
    | true => show Kd.R w K .bool _ [vx]; rw [bool_R hx]; exact rfl
    | false => show Kd.R w K .bool _ [vy]; rw [kb_R hy]; exact rfl
  · cases hr
theorem lenR_R (H : HR C w K A h) {l : Leaf} {v : Value} {n : Int} (hl : LeafR w K A h l v) (hn : lenR h l = some n) : (∃ s, l = .dat .str s ∧ v = .string s ∧ n = s.size) ∨ (∃ a m c, v = .slice a m c ∧ n = m) := by
  have go : ∀ {k : Kd} {xs : List k.T}, Kd.R w K (.sl k) xs [v] → n = (xs.length : Int) → ∃ a m c, v = .slice a m c ∧ n = m := fun {k xs} hR e => by
    obtain ⟨a, c, e0, _⟩ := hR
    cases e0
    exact ⟨a, _, c, rfl, e⟩
  cases l with
  | dat kk xs =>
    cases kk with
    | str => simp only [lenR, Option.some.injEq] at hn; exact .inl ⟨xs, rfl, str_R hl, hn.symm⟩
    | sl k => simp only [lenR, Option.some.injEq] at hn; exact .inr (go hl hn.symm)
    | _ => cases hn
  | clip k xs => simp only [lenR, Option.some.injEq] at hn; exact .inr (go hl.1 hn.symm)
  | nn b k xs => simp only [lenR, Option.some.injEq] at hn; exact .inr (go hl.1 hn.symm)
  | nils => simp only [lenR, Option.some.injEq] at hn; exact .inr ⟨none, 0, 0, hl, hn.symm⟩
  | emp =>
    simp only [lenR, Option.some.injEq] at hn
    obtain ⟨a1, hl⟩ := hl
    exact .inr ⟨a1, 0, 0, hl, hn.symm⟩
  | row id =>
    simp only [lenR] at hn
    split at hn
    · rename_i e k xs hg
      cases hn
      obtain ⟨l', ho, _⟩ := H.blk id _ hg
      obtain ⟨a1, c1, hsl⟩ := ho.slice
      exact .inr ⟨a1, _, c1, by rw [hl.2.1, hsl], rfl⟩
    · rename_i k xs hg
      cases hn
      have hB := (H.blk id _ hg).1
      rw [← hl.2.1] at hB
      exact .inr (go hB rfl)
    · cases hn
  | srow id =>
    simp only [lenR] at hn
    split at hn
    · rename_i e k xs hg
      cases hn
      obtain ⟨l', ho, _⟩ := H.blk id _ hg
      obtain ⟨a1, c1, hsl⟩ := ho.slice
      exact .inr ⟨a1, _, c1, by rw [hl.1.2.1, hsl], rfl⟩
    · cases hn
  | vw id sz lo m =>
    simp only [lenR, Option.some.injEq] at hn
    obtain ⟨_, _, h0, a, c, hv, _⟩ := hl
    exact .inr ⟨a, _, c, hv, by omega⟩
  | _ => cases hn
theorem min_fold (k : IntKind) : ∀ {vs : List AV} {us : List Value} {x z : Int}, All2 (AVR w K A h) vs us → minmax minI k x vs = some z → (us.foldlM Builtin.min2 (.int k x)).run P w = .ok (.int k z) w
  | [], _, x, z, .nil, hm => by
    simp only [minmax, Option.some.injEq] at hm
    subst hm
    rfl
  | v :: vs, u :: us, x, z, .cons hv hvs, hm => by
    unfold minmax at hm
    split at hm
    · rename_i heq
      cases heq
    · rename_i k' y r' heq
      cases heq
      have hk := (bif_some hm).1
      replace hm := (bif_some hm).2
      cases ik_eq hk
      rw [List.foldlM_cons, int_R (show LeafR w K A h (.dat (.int k) y) u from hv)]
      have := min_fold k hvs hm
      simpa [Builtin.min2, minI] using this
    · cases hm
theorem max_fold (k : IntKind) : ∀ {vs : List AV} {us : List Value} {x z : Int}, All2 (AVR w K A h) vs us → minmax maxI k x vs = some z → (us.foldlM Builtin.max2 (.int k x)).run P w = .ok (.int k z) w
  | [], _, x, z, .nil, hm => by
    simp only [minmax, Option.some.injEq] at hm
    subst hm
    rfl
  | v :: vs, u :: us, x, z, .cons hv hvs, hm => by
    unfold minmax at hm
    split at hm
    · rename_i heq
      cases heq
    · rename_i k' y r' heq
      cases heq
      have hk := (bif_some hm).1
      replace hm := (bif_some hm).2
      cases ik_eq hk
      rw [List.foldlM_cons, int_R (show LeafR w K A h (.dat (.int k) y) u from hv)]
      have := max_fold k hvs hm
      simpa [Builtin.max2, maxI] using this
    · cases hm
def isCall (o : Oper) : Bool :=
  match o.op with
  | .call c => match c.callee with
    | .value _ => true
    | _ => false
  | _ => false
theorem good_u {nx : Sem Next} {v : Slot} {u : List (Nat × Blk)} (hrun : ∃ x w' K' A', nx.run P w = .ok (.value x) w' ∧ HR C w' K' A' (h.sets u) ∧ Ext K A h w K' A' (h.sets u) w' ∧ SlotR w' K' A' (h.sets u) v x) : Good P C K A h w nx { v := v, u := u } := fun _ => by
  obtain ⟨x, w', K', A', h1, h2, h3, h4⟩ := hrun
  exact ⟨_, x, w', K', A', h1, .inl rfl, h2, h3, h4⟩
theorem Steps1.good {x : Sem Value} {nx : Sem Next} (s : Steps1 P C K A h w x r) (e : nx = (do let v ← x; pure (Next.value v))) : Good P C K A h w nx r := fun hc => by
  obtain ⟨v, w', K', A', hrun, h2, h3, h4⟩ := s hc
  exact ⟨_, v, w', K', A', by rw [e]; simp [hrun], .inl rfl, h2, h3, h4⟩
theorem newVar_R (H : HR C w K A h) {t : TypeId} {key : Nat} {ls : List Leaf} {cs : Array Value} (hn : h.get key = none) (hl : All2 (LeafR w K A h) ls cs.toList) (hk : known ls = true) :
    ∃ x w' K' A', (Value.pointer (some ⟨w.heap.size, 0, none⟩)) = x ∧ w' = w.alloc (.cells cs t) ∧ HR C w' K' A' (h.sets [(key, .box ls)]) ∧ Ext K A h w K' A' (h.sets [(key, .box ls)]) w' ∧ SlotR w' K' A' (h.sets [(key, .box ls)]) (Ev.one (.ptr key 0)) x := by
  obtain ⟨A', H', x', hm⟩ := H.newBox t hn hl hk
  have e : (Obj.cells cs.toList.toArray t : Obj) = .cells cs t := by simp
  rw [e] at H' x'
  refine ⟨_, _, K, A', rfl, rfl, H', x', ?_, by rw [hm]⟩
  unfold Ev.has
  show ((h.set key (.box ls)).get key).isSome = true
  rw [Heap.get_set, if_pos rfl]
  rfl
theorem capIds_R : ∀ {vs : List AV} {us : List Value} {cs : List Nat}, opRun.capIds vs = some cs → All2 (AVR w K A h) vs us → (∀ id ∈ cs, has h id) ∧ us = cs.map fun id => Value.pointer (some ⟨A.m id, 0, none⟩)
  | [], us, cs, hc, hall => by
    simp only [opRun.capIds, Option.some.injEq] at hc
    subst hc
    cases hall
    exact ⟨(fun _ h => by cases h), rfl⟩
  | v :: vs, us, cs, hc, hall => by
    unfold opRun.capIds at hc
    split at hc
    · rename_i heq
      cases heq
    · rename_i id r heq
      cases heq
      split at hc
      · rename_i cs' hcs
        cases hc
        cases hall with
        | cons h0 h1 =>
          obtain ⟨a, b⟩ := capIds_R hcs h1
          have h0' : LeafR w K A h (.ptr id 0) _ := h0
          refine ⟨fun i hi => ?_, by rw [b, h0'.2]; rfl⟩
          rcases List.mem_cons.1 hi with e | e
          · rw [e]; exact h0'.1
          · exact a i e
      · cases hc
    · cases hc
theorem row_u8 : ∀ {xs : List Int} {l : List Value}, RowR w K (.int .u8) xs l → l = xs.map (Value.int .u8)
  | [], _, h => h
  | x :: xs, _, ⟨l1, l2, h, h1, h2⟩ => by
    rw [h, show l1 = _ from h1, row_u8 h2]
    rfl
theorem foldl_push : ∀ (ns : List Int) (b : ByteArray), ns.foldl (fun r n => r.push (UInt8.ofNat n.toNat)) b = ⟨b.data ++ (ns.map fun n => UInt8.ofNat n.toNat).toArray⟩
  | [], b => by simp
  | n :: ns, b => by
    rw [List.foldl_cons, foldl_push ns]
    simp [ByteArray.push]
theorem row_bytes {s : ByteArray} : RowR w K (.int .u8) (bytesL s) (s.data.toList.map fun b => Value.int .u8 b.toNat) := by
  unfold bytesL
  induction s.data.toList with
  | nil => rfl
  | cons b l ih => exact ⟨[_], _, rfl, rfl, ih⟩
theorem bytesL_len {s : ByteArray} : (bytesL s).length = s.size := by simp [bytesL]
theorem bytes_S (H : HR C w K A h) {src dst e : TypeId} {s : ByteArray} {key : Nat} (hn : h.get key = none) (hs : P.underlying src = some .string) (hd : P.underlying dst = some (.slice e)) (he : P.underlying e = some (.int .u8)) (hm : s.size ≤ maxLen) :
    ∃ v w' K' A', (convert src dst (.string s)).run P w = .ok v w' ∧ HR C w' K' A' (h.sets [(key, .row e (.int .u8) (bytesL s))]) ∧ Ext K A h w K' A' (h.sets [(key, .row e (.int .u8) (bytesL s))]) w' ∧
      SlotR w' K' A' (h.sets [(key, .row e (.int .u8) (bytesL s))]) (one (.row key)) v := by
  have hrun := Lib.run_convert_string_bytes (P := P) w src dst e s hs hd he
  have hge := grownCap_ge w s.size 0 e
  have hle := grownCap_le_maxLen w s.size 0 e hm
  have hsz : s.data.toList.length = s.size := by simp
  have ho : Owns (Lib.bytesWorld w e s) e (Kd.int .u8).sz (.slice (some ⟨w.heap.size, 0, none⟩) s.size (grownCap w s.size 0 e)) (bytesL s).length (s.data.toList.map fun b => Value.int .u8 b.toNat) := by
    rw [bytesL_len]
    refine ⟨by simp [Kd.sz], ?_⟩
    by_cases h0 : grownCap w s.size 0 e = 0
    · have h1 : s.size = 0 := by omega
      exact .inl ⟨h1, _, by rw [h0, h1]⟩
    · refine .inr ⟨w.heap.size, _, _, _, rfl, by omega, Lib.bytesWorld_at_new w e s, .inr (Nat.le_refl _), hge, hle, ?_, ?_⟩
      · simp [Lib.bytesCells, Kd.sz]
        omega
      · simp only [Kd.sz, Nat.mul_one, Lib.bytesCells, Array.toList_append, Array.toList_map]
        rw [List.take_append_of_le_length (by simp), List.take_of_length_le (by simp)]
  obtain ⟨K', A', a, b, d⟩ := new_row (w' := Lib.bytesWorld w e s) H hn ⟨rfl, rfl, rfl, by rw [Lib.bytesWorld_size]; omega, fun k hk _ => Lib.bytesWorld_at_old w e s k hk⟩ ho row_bytes (by simp [Kd.sz]) (fun g hg => by
    by_cases h0 : grownCap w s.size 0 e = 0
    · rw [h0, ownB_zero] at hg; cases hg
    · rw [ownB_pos (by omega)] at hg; cases hg; exact Nat.le_refl _)
  exact ⟨_, _, K', A', hrun, a, b, d⟩
theorem convR_S (T : TabOK P C.E.tt) (H : HR C w K A h) {src dst : TypeId} {x : AV} {v : Value} (hx : AVR w K A h x v) {key : Nat} (hr : convR C.E key h src dst x = some r) : Steps1 P C K A h w (convert src dst v) r := by
  unfold convR at hr
  split at hr
  · cases hr
  · rename_i sty hsty
    obtain ⟨sd, hsd, _⟩ := Option.map_eq_some_iff.1 (T src sty hsty).row
    split at hr
    · rename_i ty hty
      have hd := (T dst ty hty).desc
      split at hr
      · rename_i k' hk
        rw [hk] at hd
        have hd' : P.underlying dst = some (.int k') := hd
        split at hr
        · rename_i ik n
          rw [int_R (show LeafR w K A h (.dat (.int ik) n) v from hx)]
          refine Pure1.steps H (pure1 hr ?_ rfl)
          cases sd <;> simp [convert, run_underlying hsd w, run_underlying hd' w, Conv.intToInt]
        · cases hr
      · rename_i hk
        rw [hk] at hd
        have hd' : P.underlying dst = some .string := hd
        split at hr
        · rename_i ik n
          rw [int_R (show LeafR w K A h (.dat (.int ik) n) v from hx)]
          refine Pure1.steps H (pure1 hr ?_ rfl)
          cases sd <;> simp [convert, run_underlying hsd w, run_underlying hd' w, Conv.intToString]
        · rename_i s
          rw [str_R (show LeafR w K A h (.dat .str s) v from hx)]
          refine Pure1.steps H (pure1 hr ?_ rfl)
          cases sd <;> simp [convert, run_underlying hsd w, run_underlying hd' w]
        · rename_i l _ _
          have hu := (bif_some hr).1
          replace hr := (bif_some hr).2
          split at hr
          · rename_i xs hxs
            unfold isU8 at hu
            rw [hsty] at hu
            simp only at hu
            split at hu
            · rename_i e k b hse
              split at hu
              · rename_i te hte
                split at hu
                · rename_i htd
                  have h1 := (T src sty hsty).desc
                  rw [hse] at h1
                  have h2 := (T e te hte).desc
                  rw [htd] at h2
                  have h2' : P.underlying e = some (.int .u8) := h2
                  obtain ⟨A0, c, news, rfl, hnews, hcell⟩ := elems_R H (show LeafR w K A h l v from hx) hxs
                  have hn := row_u8 hnews
                  refine Pure1.steps H (pure1 hr ?_ rfl)
                  have hconv : (convert src dst (.slice A0 xs.length c)).run P w = (Conv.bytesToString (.slice A0 xs.length c)).run P w := by
                    simp [convert, run_underlying h1.1 w, run_underlying hd' w, run_underlying h2' w]
                  rw [hconv]
                  cases A0 with
                  | none =>
                    have : xs = [] := by
                      rcases hcell with h | ⟨_, h, _⟩
                      · exact List.eq_nil_of_length_eq_zero h
                      · cases h
                    subst this
                    simp [Conv.bytesToString, strOf]
                    rfl
                  | some ad =>
                    have hl : (loadCells ad xs.length).run P w = .ok (xs.map (Value.int .u8)).toArray w := by
                      have hlen : (xs.map (Value.int .u8)).length = xs.length := by simp
                      rw [← hlen]
                      refine run_loadCells_list w ad _ fun j u hj => ?_
                      rcases hcell with h | ⟨ad', e', h⟩
                      · have : xs = [] := List.eq_nil_of_length_eq_zero h
                        subst this
                        simp at hj
                      · cases e'
                        exact h j u (by rw [hn]; exact hj)
                    rw [run_bytesToString w ad _ _ xs hl, foldl_push]
                    simp [strOf]
                · cases hu
              · cases hu
            · cases hu
          · cases hr
        · cases hr
      · rename_i e k b hk
        split at hr
        · rename_i s
          have hu := (bif_some hr).1
          replace hr := (bif_some hr).2
          simp only [Bool.and_eq_true] at hu
          obtain ⟨hu, hst⟩ := hu
          obtain ⟨hn, hr⟩ := isNew_ok hr
          cases hr
          intro hc
          have hm := of_decide_eq_true (not_false_of hc)
          unfold isU8 at hu
          rw [hty] at hu
          simp only [hk] at hu
          split at hu
          · rename_i te hte
            split at hu
            · rename_i htd
              rw [hk] at hd
              have h2 := (T e te hte).desc
              rw [htd] at h2
              have h2' : P.underlying e = some (.int .u8) := h2
              rw [str_R (show LeafR w K A h (.dat .str s) v from hx)]
              have hss : P.underlying src = some .string := by
                unfold isStrTy at hst
                rw [hsty] at hst
                simp only at hst
                split at hst
                · rename_i hk2
                  have := (T src sty hsty).desc
                  rw [hk2] at this
                  exact this
                · cases hst
              exact bytes_S H hn hss hd.1 h2' hm
            · cases hu
          · cases hu
        · cases hr
      · cases hr
    · cases hr
theorem indexR_R {t : TypeId} {ty : Ty} (T : TyOK P t ty) {x : AV} {v : Value} {ik : IntKind} {i : Int} (hx : AVR w K A h x v) (hr : indexR ty x i = some r) : Pure1 P w K A h (Instr.index t v (.int ik i)) r := by
  have hd := T.desc
  unfold indexR at hr
  split at hr
  · rename_i s
    split at hr
    · rename_i hk
      rw [hk] at hd
      cases hr
      refine ⟨rfl, fun hc => ⟨.int .u8 (bt s i), ?_, rfl⟩⟩
      rw [str_R (show LeafR w K A h (.dat .str s) v from hx)]
      exact indexR_str hd (not_false_of hc)
    · cases hr
  · rename_i ls
    obtain ⟨cs, rfl, hall⟩ := hx
    split at hr
    · rename_i n hn
      have hin : i = (n : Int) := by
        unfold intLit at hn
        split at hn
        · cases hn; rfl
        · cases hn
      split at hr
      · rename_i off size hf
        split at hr
        · rename_i e k hk
          have hty : ∃ m, ty.d = .array m e k := by
            unfold Ty.arr at hk
            split at hk
            · cases hk; exact ⟨_, by assumption⟩
            · cases hk
          obtain ⟨m, hty⟩ := hty
          rw [hty] at hd
          obtain ⟨hu, hsz, hrow⟩ := hd
          simp only [Ty.fl, hty] at hf
          have hlt : n < m := by
            have h2 : ∀ (q off sz i : Nat) (p : Nat × Nat), nth (arrFl off sz q) i = some p → i < q := by
              intro q
              induction q with
              | zero => intro off sz i p h; simp [arrFl, nth] at h
              | succ q ih =>
                intro off sz i p h
                cases i with
                | zero => omega
                | succ i =>
                  simp only [arrFl, nth] at h
                  have := ih _ _ _ _ h
                  omega
            exact h2 _ _ _ _ _ hf
          have := nth_arrFl _ _ _ _ _ hf
          simp only [Nat.zero_add, Prod.mk.injEq] at this
          obtain ⟨rfl, rfl⟩ := this
          split at hr
          · rename_i mm hm
            obtain ⟨rfl, hml⟩ := cut_eq hm
            obtain ⟨ie, hie, hs⟩ := Option.map_eq_some_iff.1 hsz
            obtain ⟨ed, hed, her⟩ := Option.map_eq_some_iff.1 hrow
            have hagg : (isAgg e).run P w = .ok k.isAgg w := by
              unfold Go.isAgg
              rw [Sem.run_bind, run_underlying hed w, ← her]
              cases ed <;> rfl
            have hcells := (hall.drop (n * k.sz)).take k.sz
            have hin1 : 0 ≤ i ∧ i < (m : Int) := by omega
            have htn : i.toNat = n := by omega
            cases hag : k.isAgg with
            | true =>
              rw [hag] at hr hagg
              cases hr
              refine ⟨rfl, fun _ => ⟨_, ?_, _, rfl, hcells⟩⟩
              simp only [Instr.index, Sem.run_bind, asIntOf, Sem.run_pure, Result.andThen_ok, run_underlying hu w, hin1, and_self, if_true, part, hagg, sizeOf, typeInfo, hs, htn]
              simp [hie, hs, sizeOf, typeInfo, hagg]
            | false =>
              rw [hag] at hr hagg
              simp only [cond_false] at hr
              split at hr
              · rename_i l hl
                rw [hl] at hcells
                cases hcells' : (cs.drop (n * k.sz)).take k.sz with
                | nil => rw [hcells'] at hcells; cases hcells
                | cons u us =>
                  rw [hcells'] at hcells
                  cases hcells with
                  | cons h0 h1 =>
                    refine pure1 hr ?_ h0
                    have hu1 : cs[n * k.sz]? = some u := by
                      have := congrArg (fun q : List Value => q[0]?) hcells'
                      simp only [List.getElem?_cons_zero] at this
                      rw [List.getElem?_take] at this
                      split at this
                      · simpa using this
                      · cases this
                    simp only [Instr.index, Sem.run_bind, asIntOf, Sem.run_pure, Result.andThen_ok, run_underlying hu w, hin1, and_self, if_true, part, hagg, sizeOf, typeInfo, hs, htn]
                    simp [hie, hs, sizeOf, typeInfo, hagg, hu1]
              · cases hr
          · cases hr
        · cases hr
      · cases hr
    · cases hr
  · cases hr
theorem all2_one {v : AV} {us : List Value} (H : All2 (AVR w K A h) [v] us) : ∃ u, us = [u] ∧ AVR w K A h v u := by
  cases H with
  | cons h0 h1 =>
    cases h1
    exact ⟨_, rfl, h0⟩
theorem all2_two {v v' : AV} {us : List Value} (H : All2 (AVR w K A h) [v, v'] us) : ∃ u u', us = [u, u'] ∧ AVR w K A h v u ∧ AVR w K A h v' u' := by
  cases H with
  | cons h0 h1 =>
    obtain ⟨u', rfl, h2⟩ := all2_one h1
    exact ⟨_, u', rfl, h0, h2⟩
theorem opRun_R (T : TabOK P C.E.tt) (H : HR C w K A σ.h) (S : SlotsR w K A σ.h σ.t a) {o : Oper} (hr : opRun C.E σ o = some r) (hnc : isCall o = false) :
    Good P C K A σ.h w (execOp a.eval o) r := by
  unfold opRun at hr
  cases hop : o.op with
  | move x =>
    simp only [hop] at hr
    split at hr
    · rename_i v hv
      cases hr
      exact Good.pure H rfl fun _ => ⟨a.eval x, by simp [execOp, hop], opnd_R H S hv⟩
    · cases hr
  | assign x =>
    simp only [hop] at hr
    split at hr
    · rename_i v hv
      cases hr
      exact Good.pure H rfl fun _ => ⟨a.eval x, by simp [execOp, hop], opnd_R H S hv⟩
    · cases hr
  | pick c x y =>
    simp only [hop] at hr
    split at hr
    · rename_i hc
      have hcv := kb_R (opLeaf_R H S hc)
      split at hr
      · rename_i v hv
        cases hr
        exact Good.pure H rfl fun _ => ⟨a.eval x, by simp [execOp, hop, hcv, asBool], opnd_R H S hv⟩
      · cases hr
    · rename_i hc
      have hcv := kb_R (opLeaf_R H S hc)
      split at hr
      · rename_i v hv
        cases hr
        exact Good.pure H rfl fun _ => ⟨a.eval y, by simp [execOp, hop, hcv, asBool], opnd_R H S hv⟩
      · cases hr
    · rename_i b hc
      have hcv := bool_R (opLeaf_R H S hc)
      split at hr
      · rename_i lx hx
        split at hr
        · rename_i ly hy
          obtain ⟨_, hu, hR⟩ := pickR_R (opLeaf_R H S hx) (opLeaf_R H S hy) hr
          exact Good.pure H hu fun _ => ⟨_, by simp [execOp, hop, hcv, asBool], hR⟩
        · cases hr
      · cases hr
    · cases hr
  | alloc t =>
    simp only [hop] at hr
    split at hr
    · rename_i ty hty
      split at hr
      · rename_i l hself
        have hk := (bif_some hr).1
        replace hr := (bif_some hr).2
        obtain ⟨hn, hr⟩ := isNew_ok hr
        cases hr
        obtain ⟨i, zv, hi, hz, hzl⟩ := (T t ty hty).zero hk
        have hz2 : ty.z = .nilp :: l := by
          unfold selfT at hself
          split at hself
          · split at hself
            · rename_i hz'; cases hself; exact hz'
            · cases hself
          · cases hself
        have hall := hzl w K A σ.h
        rw [hz2] at hall hk
        cases hcz : zv.cells.toList with
        | nil => rw [hcz] at hall; cases hall
        | cons c0 cs =>
          rw [hcz] at hall
          cases hall with
          | cons r0 rs =>
            have hk2 : known l = true := hk
            obtain ⟨A', h1, h2, h3⟩ := H.newTb t hn rs hk2
            have hc0 : c0 = .pointer none := r0
            have e0 : zv.cells = (Value.pointer none :: cs).toArray := by
              apply Array.toList_inj.1
              rw [hcz, hc0]
            refine good_u ⟨.pointer (some ⟨w.heap.size, 0, none⟩), _, K, A', ?_, h1, h2, ?_⟩
            · simp [execOp, hop, Instr.alloc, zeroValue, typeInfo, hi, hz, newVar, newRow, e0]
            · refine ⟨?_, by rw [h3]⟩
              unfold Ev.has
              simp only [Heap.sets]
              rw [Heap.get_set, if_pos rfl]
              rfl
      · have hk := (bif_some hr).1
        replace hr := (bif_some hr).2
        obtain ⟨hn, hr⟩ := isNew_ok hr
        cases hr
        obtain ⟨i, zv, hi, hz, hzl⟩ := (T t ty hty).zero hk
        obtain ⟨x, w', K', A', rfl, rfl, h1, h2, h3⟩ := newVar_R H (t := t) hn (hzl w K A σ.h) hk
        refine good_u ⟨_, _, K', A', ?_, h1, h2, h3⟩
        simp [execOp, hop, Instr.alloc, zeroValue, typeInfo, hi, hz, newVar, newRow]
    · cases hr
  | box t x =>
    simp only [hop] at hr
    split at hr
    · rename_i v hv
      split at hr
      · rename_i ty hty
        have hk := (bif_some hr).1
        replace hr := (bif_some hr).2
        simp only [Bool.and_eq_true] at hk
        obtain ⟨hn, hr⟩ := isNew_ok hr
        cases hr
        obtain ⟨cs, hvc, hall, _⟩ := av_cells (opAV_R H S hv) hk.1
        obtain ⟨x', w', K', A', rfl, rfl, h1, h2, h3⟩ := newVar_R H (t := t) (cs := cs.toArray) hn (by simpa using hall) hk.1
        refine good_u ⟨_, _, K', A', ?_, h1, h2, h3⟩
        simp [execOp, hop, Instr.box, newVar, newRow, hvc]
      · cases hr
    · cases hr
  | build t parts =>
    simp only [hop] at hr
    split at hr
    · rename_i ty hty
      have hk := (bif_some hr).1
      replace hr := (bif_some hr).2
      simp only [Bool.and_eq_true] at hk
      split at hr
      · rename_i ps hps
        split at hr
        · rename_i ls hls
          cases hr
          obtain ⟨v, h1, h2⟩ := build_R (vs := parts.map fun (i, x) => (i, a.eval x)) (T t ty hty) hk.1 hk.2 (by simpa using partsAV_R H S hps) hls
          exact Good.pure H rfl fun _ => ⟨v, by simp [execOp, hop, h1], h2⟩
        · cases hr
      · cases hr
    · cases hr
  | buildSlice t len parts =>
    simp only [hop] at hr
    split at hr
    · rename_i ty hty
      split at hr
      · rename_i e k b he
        split at hr
        · rename_i ps hps
          have hk := (bif_some hr).1
          replace hr := (bif_some hr).2
          split at hr
          · rename_i xs f hf
            obtain ⟨hn, hr⟩ := isNew_ok hr
            cases hr
            obtain ⟨v, w', K', A', h1, h2, h3, h4⟩ := buildSlice_R (vs := parts.map fun (i, x) => (i, a.eval x)) H (T t ty hty) he (by simpa using partsAV_R H S hps) (Nat.le_of_ble_eq_true hk) hf hn
            exact good_u ⟨v, w', K', A', by simp [execOp, hop, h1], h2, h3, h4⟩
          · cases hr
        · cases hr
      · cases hr
    · cases hr
  | load t x =>
    simp only [hop] at hr
    split at hr
    · rename_i ty hty
      split at hr
      · rename_i l hl
        split at hr
        · rename_i v hv
          cases hr
          obtain ⟨u, h1, h2⟩ := loadR_R H (T t ty hty) (opLeaf_R H S hl) hv
          exact Good.pure H rfl fun _ => ⟨u, by simp [execOp, hop, h1], h2⟩
        · cases hr
      · cases hr
    · cases hr
  | store t x y =>
    simp only [hop] at hr
    split at hr
    · rename_i ty hty
      split at hr
      · rename_i l hl
        split at hr
        · rename_i v hv
          split at hr
          · rename_i u hu
            cases hr
            obtain ⟨w', K', h1, h2, h3⟩ := storeT_R H (T t ty hty) (opLeaf_R H S hl) (opAV_R H S hv) hu
            exact fun _ => ⟨.skip, undef, w', K', A, by simp [execOp, hop, h1], .inr ⟨rfl, rfl⟩, h2, h3, trivial⟩
          · split at hr
            · rename_i u hu
              cases hr
              obtain ⟨w', K', h1, h2, h3⟩ := storeR_R H (T t ty hty) (opLeaf_R H S hl) (opAV_R H S hv) hu
              exact fun _ => ⟨.skip, undef, w', K', A, by simp [execOp, hop, h1], .inr ⟨rfl, rfl⟩, h2, h3, trivial⟩
            · cases hr
        · cases hr
      · cases hr
    · cases hr
  | nilCheck x =>
    simp only [hop] at hr
    split at hr
    · rename_i id off hl
      cases hr
      have hR := opLeaf_R H S hl
      refine Good.pure H rfl fun _ => ⟨_, ?_, hR⟩
      have hR2 := hR.2
      simp [execOp, hop, hR2]
    · rename_i id i off hl
      have hR := opLeaf_R H S hl
      split at hr
      · rename_i e k xs hg
        cases hr
        obtain ⟨_, e2⟩ := hR.2.1 e k xs hg
        exact Good.pure H rfl fun _ => ⟨_, by simp [execOp, hop, e2], hR⟩
      · rename_i k xs hg
        cases hr
        obtain ⟨_, e2⟩ := hR.2.2 k xs hg
        exact Good.pure H rfl fun _ => ⟨_, by simp [execOp, hop, e2], hR⟩
      · cases hr
    · rename_i k x' hl
      cases hr
      have hR := opLeaf_R H S hl
      refine Good.pure H rfl fun _ => ⟨_, ?_, hR⟩
      obtain ⟨b, off, _, _, _, e, _⟩ := hR
      simp [execOp, hop, e]
    · rename_i f cs hl
      cases hr
      have hR := opLeaf_R H S hl
      refine Good.pure H rfl fun _ => ⟨_, ?_, hR⟩
      have hR2 := hR.2
      simp [execOp, hop, hR2]
    · cases hr
  | binOp op t x y t' =>
    simp only [hop] at hr
    split at hr
    · rename_i lx hx
      split at hr
      · rename_i ly hy
        split at hr
        · rename_i r0 hr0
          cases hr
          have := binR_R (ox := x) (oy := y) T (opAV_R H S hx) (opAV_R H S hy) hr0
          exact this.good H (by simp [execOp, hop])
        · split at hr
          · rename_i r0 hr0
            cases hr
            have := ptrBin_R (ox := x) (oy := y) T (opAV_R H S hx) (opAV_R H S hy) hr0
            exact this.good H (by simp [execOp, hop])
          · have := ifcBin_R (ox := x) (oy := y) (vy := a.eval y) T (opAV_R H S hx) (fun c e => by subst e; rfl) hr
            exact this.good H (by simp [execOp, hop])
      · cases hr
    · cases hr
  | unOp op t x =>
    simp only [hop] at hr
    split at hr
    · rename_i l hl
      exact (unR_R (opLeaf_R H S hl) hr).good H (by simp [execOp, hop])
    · cases hr
  | fieldAddr t x f =>
    simp only [hop] at hr
    split at hr
    · rename_i ty hty
      split at hr
      · rename_i l hl
        split at hr
        · rename_i l' hl'
          cases hr
          obtain ⟨u, h1, h2⟩ := fieldAddrR_R (T t ty hty) (opLeaf_R H S hl) hl'
          exact Good.pure H rfl fun _ => ⟨u, by simp [execOp, hop, h1], h2⟩
        · cases hr
      · cases hr
    · cases hr
  | field t x f =>
    simp only [hop] at hr
    split at hr
    · rename_i ty hty
      split at hr
      · rename_i v hv
        split at hr
        · rename_i v' hv'
          cases hr
          obtain ⟨u, h1, h2⟩ := fieldR_R T (T t ty hty) (opAV_R H S hv) hv'
          exact Good.pure H rfl fun _ => ⟨u, by simp [execOp, hop, h1], h2⟩
        · cases hr
      · cases hr
    · cases hr
  | slice t x lo hi mx =>
    simp only [hop] at hr
    split at hr
    · rename_i ty hty
      split at hr
      · rename_i l hl
        split at hr
        · rename_i lo' hlo
          split at hr
          · rename_i hi' hhi
            split at hr
            · rename_i mx' hmx
              cases hvz : isView C.E o.dst with
              | true =>
                rw [hvz, cond_true] at hr
                split at hr
                · have hm := optI_R H S hmx
                  have hm' : mx.map a.eval = none := by
                    generalize mx.map a.eval = q at hm
                    cases q with
                    | none => rfl
                    | some _ => exact hm.elim
                  exact (Pure1.steps H (viewR_R H (T t ty hty) (optI_R H S hlo) (optI_R H S hhi) (opLeaf_R H S hl) hr)).good (by simp [execOp, hop, hm'])
                · cases hr
              | false =>
                rw [hvz, cond_false] at hr
                exact (sliceR_S H (T t ty hty) (optI_R H S hlo) (optI_R H S hhi) (optI_R H S hmx) (opLeaf_R H S hl) hr).good (by simp [execOp, hop])
            · cases hr
          · cases hr
        · cases hr
      · cases hr
    · cases hr
  | indexAddr t x i =>
    simp only [hop] at hr
    split at hr
    · rename_i ty hty
      split at hr
      · rename_i l hl
        split at hr
        · rename_i il hil
          split at hr
          · rename_i n hn
            obtain ⟨k, hk⟩ := asI_R (opLeaf_R H S hil) hn
            have := indexAddrR_R (ik := k) H (T t ty hty) (opLeaf_R H S hl) hr
            rw [← hk] at this
            exact this.good H (by simp [execOp, hop])
          · cases hr
        · cases hr
      · cases hr
    · cases hr
  | makeSlice t n c =>
    simp only [hop] at hr
    split at hr
    · rename_i ty hty
      split at hr
      · rename_i nl hnl
        split at hr
        · rename_i cl hcl
          split at hr
          · rename_i n' hn
            split at hr
            · rename_i c' hc
              obtain ⟨kn, hkn⟩ := asI_R (opLeaf_R H S hnl) hn
              obtain ⟨kc, hkc⟩ := asI_R (opLeaf_R H S hcl) hc
              exact (makeR_S (kn := kn) (kc := kc) H (T t ty hty) hr).good (by simp [execOp, hop, hkn, hkc])
            · cases hr
          · cases hr
        · cases hr
      · cases hr
    · cases hr
  | range t x =>
    simp only [hop] at hr
    split at hr
    · rename_i ty hty
      split at hr
      · rename_i hd
        split at hr
        · rename_i s hx
          obtain ⟨hn, hr⟩ := isNew_ok hr
          cases hr
          have hD := (T t ty hty).desc
          rw [hd] at hD
          have hR := opLeaf_R H S hx
          have hv : a.eval x = .string s := str_R hR
          obtain ⟨A', h1, h2, h3⟩ := H.newSit s hn
          refine fun _ => ⟨.value _, .pointer (some ⟨w.heap.size, 0, none⟩), w.alloc (.stringIter s 0), K, A', ?_, .inl rfl, h1, h2, ?_, ?_⟩
          · simp only [execOp, hop, hv]
            have := run_range_string (P := P) w t s hD
            simp [this, World.iter]
          · unfold Ev.has
            simp only [Heap.sets]
            rw [Heap.get_set, if_pos rfl]
            rfl
          · rw [h3]
        · cases hr
      · cases hr
    · cases hr
  | next x isS =>
    simp only [hop] at hr
    split at hr
    · split at hr
      · rename_i id off hx
        split at hr
        · split at hr
          · rename_i s p hg
            cases hr
            have hR := opLeaf_R H S hx
            have hv : a.eval x = .pointer (some ⟨A.m id, 0, none⟩) := hR.2
            obtain ⟨hb, hp⟩ := H.blk id _ hg
            have hq : 0 ≤ nxtP s p := by
              unfold nxtP
              cases decide (p < (ByteArray.size s : Int)) <;> simp only [cond_true, cond_false] <;> omega
            obtain ⟨h1, h2⟩ := H.setSit hg hq
            have hob : w.heap[A.m id]? = some (.stringIter s p.toNat) := hb
            refine fun _ => ⟨.value _, (if decide (p < (ByteArray.size s : Int)) = true then .tuple #[.bool true, .int .i64 p, .int .i32 (rnAt s p)] else .tuple #[.bool false]), { w with heap := w.heap.setIfInBounds (A.m id) (.stringIter s (nxtP s p).toNat) }, K, A, ?_, .inl rfl, h1, h2, rfl⟩
            simp only [execOp, hop, hv]
            by_cases hlt : p < (ByteArray.size s : Int)
            · have hlt' : p.toNat < s.size := by omega
              have e1 : (nxtP s p).toNat = p.toNat + (Utf8.decode s p.toNat).2 := by
                unfold nxtP
                rw [decide_eq_true hlt, cond_true]
                omega
              have e2 : ((p.toNat : Nat) : Int) = p := by omega
              simp [Instr.next, getObj, setObj, Sem.run, hob, hlt', Result.andThen, e1, e2, hlt, goInt, rnAt]
            · have hlt' : ¬ p.toNat < s.size := by omega
              have e1 : (nxtP s p).toNat = p.toNat := by
                unfold nxtP
                rw [decide_eq_false hlt, cond_false]
              have e3 : ({ w with heap := w.heap.setIfInBounds (A.m id) (.stringIter s p.toNat) } : World) = w := by
                have : w.heap.setIfInBounds (A.m id) (.stringIter s p.toNat) = w.heap := by
                  apply Array.ext_getElem?
                  intro i
                  by_cases hi : A.m id = i
                  · subst hi
                    obtain ⟨h8, h9⟩ := Array.getElem?_eq_some_iff.1 hob
                    simp [Array.getElem?_setIfInBounds, h8, h9]
                  · rw [Array.getElem?_setIfInBounds_ne hi]
                rw [this]
              simp [Instr.next, getObj, Sem.run, hob, hlt', Result.andThen, e1, e3, hlt]
          · cases hr
        · cases hr
      · cases hr
    · cases hr
  | extract x i =>
    simp only [hop] at hr
    split at hr
    · rename_i b p rn hv
      have hR := opnd_R H S hv
      have hR : a.eval x = if b = true then .tuple #[.bool true, .int .i64 p, .int .i32 rn] else .tuple #[.bool false] := hR
      split at hr
      · cases hr
        exact Good.pure H rfl fun _ => ⟨.bool b, by cases b <;> simp [execOp, hop, Instr.extract, hR], rfl⟩
      · cases hr
        refine Good.pure H rfl fun hc => ?_
        have hb : b = true := by cases b with | true => rfl | false => exact absurd rfl hc
        subst hb
        exact ⟨.int .i64 p, by simp [execOp, hop, Instr.extract, hR], rfl⟩
      · cases hr
        refine Good.pure H rfl fun hc => ?_
        have hb : b = true := by cases b with | true => rfl | false => exact absurd rfl hc
        subst hb
        exact ⟨.int .i32 rn, by simp [execOp, hop, Instr.extract, hR], rfl⟩
      · cases hr
    · rename_i vs hv
      split at hr
      · rename_i v hn
        cases hr
        obtain ⟨us, hu, hall⟩ := opnd_R H S hv
        rw [nth_eq] at hn
        obtain ⟨u, hu2, hR⟩ := hall.nth hn
        exact Good.pure H rfl fun _ => ⟨u, by simp [execOp, hop, Instr.extract, hu, hu2], hR⟩
      · cases hr
    · cases hr
  | makeFunc fn first caps =>
    cases fn with
    | func f =>
      simp only [hop] at hr
      split at hr
      · rename_i hf
        split at hr
        · rename_i vs hvs
          obtain ⟨cs, hcs, hr⟩ := Option.bind_eq_some_iff.1 hr
          cases hr
          have hall := opAVs_R H S hvs
          have hc := capIds_R hcs hall
          refine Good.pure H rfl fun _ => ⟨.func (.func f) #[] (caps.map a.eval), ?_, hc.1, ?_⟩
          · have hf' : first = #[] := by simpa using hf
            simp [execOp, hop, Instr.makeFunc, hf']
          · rw [← hc.2]
            have e5 : caps.map a.eval = (caps.toList.map a.eval).toArray := by
              apply Array.toList_inj.1
              simp
            rw [e5]
        · cases hr
      · cases hr
    | _ => simp only [hop] at hr; cases hr
  | convert src dst x =>
    simp only [hop] at hr
    split at hr
    · rename_i v hv
      split at hr
      · rename_i r0 hr0
        cases hr
        exact (convR_S T H (opAV_R H S hv) hr0).good (by simp [execOp, hop])
      · exact (convP_R T H (opAV_R H S hv) hr).good H (by simp [execOp, hop])
    · cases hr
  | index t x i =>
    simp only [hop] at hr
    split at hr
    · rename_i ty hty
      split at hr
      · rename_i v hv
        split at hr
        · rename_i il hil
          split at hr
          · rename_i n hn
            obtain ⟨k, hk⟩ := asI_R (opLeaf_R H S hil) hn
            have := indexR_R (ik := k) (T t ty hty) (opAV_R H S hv) hr
            rw [← hk] at this
            exact this.good H (by simp [execOp, hop])
          · cases hr
        · cases hr
      · cases hr
    · cases hr
  | call c =>
    cases hcal : c.callee with
    | value f => simp [isCall, hop, hcal] at hnc
    | invoke f m => simp only [hop, hcal] at hr; cases hr
    | builtin bi =>
      simp only [hop, hcal] at hr
      split at hr
      · rename_i vs hvs
        have hall := opAVs_R H S hvs
        have hargs : (c.args.map a.eval).toList = c.args.toList.map a.eval := by simp
        split at hr
        · rename_i l
          rw [← hargs] at hall
          obtain ⟨u, hu, hl⟩ := all2_one hall
          have hl' : LeafR w K A σ.h l u := hl
          split at hr
          · rename_i t hts
            split at hr
            · rename_i ty hty
              have hlt := (bif_some hr).1
              replace hr := (bif_some hr).2
              split at hr
              · rename_i n hn
                cases hr
                have e1 : c.args.map a.eval = #[u] := by
                  apply Array.toList_inj.1
                  simpa using hu
                have e2 : c.argTypes = #[t] := by
                  apply Array.toList_inj.1
                  simpa using hts
                have hd := (T t ty hty).desc
                refine Good.pure H rfl fun _ => ⟨.int .i64 n, ?_, rfl⟩
                unfold lenTy at hlt
                split at hlt
                · rename_i hk
                  rw [hk] at hd
                  have hd' : P.underlying t = some .string := hd
                  rcases lenR_R H hl' hn with ⟨s, rfl, rfl, rfl⟩ | ⟨x, m, c', rfl, rfl⟩
                  · simp [execOp, hop, resolve, hcal, invoke, builtin, e1, e2, Builtin.len_, run_underlying hd' w, goInt]
                  · split at hlt
                    · have := str_R hl'
                      cases this
                    · cases hlt
                · rename_i e k b hk
                  rw [hk] at hd
                  rcases lenR_R H hl' hn with ⟨s, rfl, rfl, rfl⟩ | ⟨x, m, c', rfl, rfl⟩
                  · cases hlt
                  · simp [execOp, hop, resolve, hcal, invoke, builtin, e1, e2, Builtin.len_, run_underlying hd.1 w, goInt]
                · cases hlt
              · cases hr
            · cases hr
          · cases hr
        · rename_i l
          rw [← hargs] at hall
          obtain ⟨u, hu, hl⟩ := all2_one hall
          have hl' : LeafR w K A σ.h l u := hl
          have e1 : c.args.map a.eval = #[u] := by
            apply Array.toList_inj.1
            simpa using hu
          split at hr
          · rename_i t hts
            split at hr
            · rename_i ty hty
              split at hr
              · rename_i q hq
                have e2 : c.argTypes = #[t] := by
                  apply Array.toList_inj.1
                  simpa using hts
                obtain ⟨ee, kk, bb⟩ := q
                have hun := (slice_ty (T t ty hty) hq).1
                split at hr
                · rename_i n hn
                  cases hr
                  have hcap : n = 0 ∧ ∃ a1, u = .slice a1 0 0 := by
                    cases l with
                    | nils => simp only [capR, Option.some.injEq] at hn; exact ⟨hn.symm, none, hl'⟩
                    | emp => simp only [capR, Option.some.injEq] at hn; exact ⟨hn.symm, hl'⟩
                    | _ => cases hn
                  obtain ⟨rfl, a1, rfl⟩ := hcap
                  refine Good.pure H rfl fun _ => ⟨.int .i64 0, ?_, rfl⟩
                  simp [execOp, hop, resolve, hcal, invoke, builtin, e1, e2, Builtin.cap_, run_underlying hun w, goInt]
                · cases hr
              · cases hr
            · cases hr
          · cases hr
        · rename_i k x r'
          split at hr
          · rename_i z hz
            cases hr
            rw [← hargs] at hall
            cases hall' : (c.args.map a.eval).toList with
            | nil => rw [hall'] at hall; cases hall
            | cons u us =>
              rw [hall'] at hall
              cases hall with
              | cons h0 h1 =>
                have hu0 := int_R (show LeafR w K A σ.h (.dat (.int k) x) u from h0)
                have hm := min_fold (P := P) k h1 hz
                refine Good.pure H rfl fun _ => ⟨.int k z, ?_, rfl⟩
                have e3 : (Builtin.min_ c.argTypes o.type (c.args.map a.eval)).run P w = .ok (.int k z) w := by
                  unfold Builtin.min_
                  rw [hall', hu0]
                  exact hm
                simp [execOp, hop, resolve, hcal, invoke, builtin, e3]
          · cases hr
        · rename_i k x r'
          split at hr
          · rename_i z hz
            cases hr
            rw [← hargs] at hall
            cases hall' : (c.args.map a.eval).toList with
            | nil => rw [hall'] at hall; cases hall
            | cons u us =>
              rw [hall'] at hall
              cases hall with
              | cons h0 h1 =>
                have hu0 := int_R (show LeafR w K A σ.h (.dat (.int k) x) u from h0)
                have hm := max_fold (P := P) k h1 hz
                refine Good.pure H rfl fun _ => ⟨.int k z, ?_, rfl⟩
                have e3 : (Builtin.max_ c.argTypes o.type (c.args.map a.eval)).run P w = .ok (.int k z) w := by
                  unfold Builtin.max_
                  rw [hall', hu0]
                  exact hm
                simp [execOp, hop, resolve, hcal, invoke, builtin, e3]
          · cases hr
        · rename_i d x
          rw [← hargs] at hall
          obtain ⟨u1, u2, hu, hs, hx⟩ := all2_two hall
          split at hr
          · rename_i t t' hts
            have e1 : c.args.map a.eval = #[u1, u2] := by
              apply Array.toList_inj.1
              simpa using hu
            have e2 : c.argTypes = #[t, t'] := by
              apply Array.toList_inj.1
              simpa using hts
            cases hbq : Nat.beq t t' with
            | true =>
              have htt := Nat.eq_of_beq_eq_true hbq
              rw [hbq, cond_true] at hr
              subst htt
              split at hr
              · rename_i ty hty
                intro hc
                obtain ⟨v, w', h1, h2, h3, h4⟩ := copyR_R (P := P) (tyo := o.type) H (T t ty hty) hs hx hr
                refine ⟨_, v, w', K, A, ?_, .inl rfl, h2, h3, h4⟩
                simp [execOp, hop, resolve, hcal, invoke, builtin, e1, e2, h1]
              · cases hr
            | false =>
              rw [hbq, cond_false] at hr
              cases hr
          · cases hr
        · rename_i l
          rw [← hargs] at hall
          obtain ⟨u1, hu, hx⟩ := all2_one hall
          have e1 : c.args.map a.eval = #[u1] := by
            apply Array.toList_inj.1
            simpa using hu
          split at hr
          · cases hr
            have hx : u1 = .slice none 0 0 := hx
            subst hx
            refine Good.pure H rfl fun _ => ⟨.pointer none, ?_, rfl⟩
            simp [execOp, hop, resolve, hcal, invoke, builtin, e1, Lib.run_unsafeSliceData_nil]
          · rename_i id
            split at hr
            · rename_i e xs hg
              cases hr
              obtain ⟨v, h1, h2⟩ := unsafeData_R (P := P) H hg hx c.argTypes o.type
              refine Good.pure H rfl fun _ => ⟨v, ?_, h2⟩
              simp [execOp, hop, resolve, hcal, invoke, builtin, e1, h1]
            · cases hr
          · cases hr
        · rename_i p n
          rw [← hargs] at hall
          obtain ⟨u1, u2, hu, hs, hx⟩ := all2_two hall
          have e1 : c.args.map a.eval = #[u1, u2] := by
            apply Array.toList_inj.1
            simpa using hu
          have hn := int_R (show LeafR w K A σ.h (.dat (.int .i64) n) u2 from hx)
          split at hr
          · split at hr
            · rename_i t t' hts
              have e2 : c.argTypes = #[t, t'] := by
                apply Array.toList_inj.1
                simpa using hts
              obtain ⟨hz, hr⟩ := bif_some hr
              cases hr
              have hn0 : n = 0 := by
                cases n with
                | ofNat m => simp only [isZ] at hz; rw [Nat.eq_of_beq_eq_true hz]; rfl
                | negSucc m => cases hz
              have hs : u1 = .pointer none := hs
              rw [hs, hn, hn0] at e1
              refine Good.pure H rfl fun _ => ⟨.string .empty, ?_, rfl⟩
              simp [execOp, hop, resolve, hcal, invoke, builtin, e1, e2, Lib.run_unsafeString_none]
            · cases hr
          · rename_i id
            split at hr
            · rename_i e xs hg
              split at hr
              · rename_i t t' hts
                have e2 : c.argTypes = #[t, t'] := by
                  apply Array.toList_inj.1
                  simpa using hts
                split at hr
                · rename_i ty hty
                  split at hr
                  · rename_i e' m hd
                    have hD := (T t ty hty).desc
                    rw [hd] at hD
                    obtain ⟨hp, _, hcl, _⟩ := hD
                    cases hq : Bool.not (Nat.beq e e' && Nat.beq m 1) with
                    | true => rw [hq] at hr; cases hr
                    | false =>
                      rw [hq] at hr
                      simp only [Bool.not_eq_false', Bool.and_eq_true] at hq
                      have q1 := Nat.eq_of_beq_eq_true hq.1
                      have q2 := Nat.eq_of_beq_eq_true hq.2
                      subst q1; subst q2
                      cases hr
                      intro hc
                      have hnl := of_decide_eq_true (not_false_of hc)
                      rw [hnl] at hn
                      rw [hn] at e1
                      obtain ⟨w', h1, h2, h3⟩ := unsafeString_R (it := t') (ty := o.type) H hg hs hp hcl
                      refine ⟨_, .string (strOf xs), w', K, A, ?_, .inl rfl, h2, h3, rfl⟩
                      simp [execOp, hop, resolve, hcal, invoke, builtin, e1, e2, h1]
                  · cases hr
                · cases hr
              · cases hr
            · cases hr
          · cases hr
        · rename_i s x
          rw [← hargs] at hall
          obtain ⟨u1, u2, hu, hs, hx⟩ := all2_two hall
          split at hr
          · rename_i t t' hts
            have e1 : c.args.map a.eval = #[u1, u2] := by
              apply Array.toList_inj.1
              simpa using hu
            have e2 : c.argTypes = #[t, t'] := by
              apply Array.toList_inj.1
              simpa using hts
            cases hbq : Nat.beq t t' with
            | true =>
              have htt := Nat.eq_of_beq_eq_true hbq
              rw [hbq, cond_true] at hr
              subst htt
              split at hr
              · rename_i ty hty
                intro hc
                obtain ⟨v, w', K', A', h1, h2, h3, h4⟩ := appendQ_R (tyo := o.type) H (T t ty hty) hs hx hr hc
                refine ⟨_, v, w', K', A', ?_, .inl rfl, h2, h3, h4⟩
                simp [execOp, hop, resolve, hcal, invoke, builtin, e1, e2, h1]
              · cases hr
            | false =>
              rw [hbq, cond_false] at hr
              split at hr
              · rename_i ty' hty'
                split at hr
                · rename_i ik hik
                  split at hr
                  · rename_i ty hty
                    split at hr
                    · rename_i n
                      intro hc
                      rw [int_R (show LeafR w K A σ.h (.dat (.int .i64) n) u2 from hx)] at e1
                      obtain ⟨v, w', K', A', h1, h2, h3, h4⟩ := growR_R (tyo := o.type) H (T t ty hty) (T t' ty' hty') hik hs hr hc
                      refine ⟨_, v, w', K', A', ?_, .inl rfl, h2, h3, h4⟩
                      simp [execOp, hop, resolve, hcal, invoke, builtin, e1, e2, h1]
                    · cases hr
                  · cases hr
                · rename_i hst
                  split at hr
                  · rename_i ty hty
                    split at hr
                    · rename_i b
                      intro hc
                      have hb : u2 = .string b := by
                        have h2 : [u2] = [Value.string b] := (show LeafR w K A σ.h (.dat .str b) u2 from hx)
                        exact (List.cons.inj h2).1
                      rw [hb] at e1
                      obtain ⟨v, w', K', A', h1, h2, h3, h4⟩ := appendT_R (tyo := o.type) H (T t ty hty) (T t' ty' hty') hst hs hr hc
                      refine ⟨_, v, w', K', A', ?_, .inl rfl, h2, h3, h4⟩
                      simp [execOp, hop, resolve, hcal, invoke, builtin, e1, e2, h1]
                    · cases hr
                  · cases hr
                · cases hr
              · cases hr
          · cases hr
        · cases hr
      · cases hr
  | _ => simp only [hop] at hr; cases hr
end
end Go.Ev
end
section
set_option linter.unusedVariables false
namespace Go.Ev
open Go.RowKit
structure Ren (S : Nat → Prop) (A : Asg) (h : Heap) (ρ : Nat → Nat) (A' : Asg) (h' : Heap) : Prop where
  map : ∀ id, S id → has h id → has h' (ρ id) ∧ A'.m (ρ id) = A.m id ∧ A'.hd (ρ id) = A.hd id
section
variable {S : Nat → Prop} {w : World} {K : KSet} {A A' : Asg} {h h' : Heap} {ρ : Nat → Nat}
theorem LeafR.ren (R : Ren S A h ρ A' h') {l : Leaf} {v : Value} (hk : l.free = true) (hs : ∀ id ∈ l.ids, S id) (H : LeafR w K A h l v) : LeafR w K A' h' (l.ren ρ) v := by
  cases l with
  | undef => trivial
  | hole => exact H
  | yld id =>
    obtain ⟨a, b⟩ := H
    obtain ⟨d, e, f⟩ := R.map id (hs id (by simp [Leaf.ids])) a
    exact ⟨d, by rw [e]; exact b⟩
  | nili => exact H
  | nxt _ _ _ => exact H
  | optp id u =>
    obtain ⟨a, b⟩ := H
    obtain ⟨d, e, f⟩ := R.map id (hs id (by simp [Leaf.ids])) a
    exact ⟨d, by rw [e]; exact b⟩
  | srow id =>
    obtain ⟨⟨a, b, c⟩, s⟩ := H
    obtain ⟨d, e, f⟩ := R.map id (hs id (by simp [Leaf.ids])) a
    exact ⟨⟨d, by rw [f]; exact b, c⟩, s⟩
  | sd id =>
    obtain ⟨a, p, b, g⟩ := H
    obtain ⟨d, e, f⟩ := R.map id (hs id (by simp [Leaf.ids])) a
    exact ⟨d, p, b, by rw [e, f]; exact g⟩
  | room id =>
    obtain ⟨a, n, c, g, b⟩ := H
    obtain ⟨d, e, f⟩ := R.map id (hs id (by simp [Leaf.ids])) a
    exact ⟨d, n, c, by rw [e, f]; exact g, by rw [e]; exact b⟩
  | eptr _ _ _ => cases hk
  | kb b => exact H
  | dat k x => exact H
  | clip k xs => exact H
  | nils => exact H
  | nn b k xs => exact H
  | row id =>
    obtain ⟨a, b, c⟩ := H
    obtain ⟨d, e, f⟩ := R.map id (hs id (by simp [Leaf.ids])) a
    exact ⟨d, by rw [f]; exact b, c⟩
  | ptr id off =>
    obtain ⟨a, b⟩ := H
    obtain ⟨d, e, f⟩ := R.map id (hs id (by simp [Leaf.ids])) a
    exact ⟨d, by rw [e]; exact b⟩
  | vw id sz lo n =>
    obtain ⟨a, b, b', p, c, e', f', g⟩ := H
    obtain ⟨d, e, f⟩ := R.map id (hs id (by simp [Leaf.ids])) a
    exact ⟨d, b, b', p, c, e', f', by rw [e, f]; exact g⟩
  | dptr k x => exact H
  | emp => exact H
  | aptr k x => exact H
  | nilp => exact H
  | fn f caps =>
    obtain ⟨a, b⟩ := H
    refine ⟨fun id hi => ?_, ?_⟩
    · obtain ⟨j, hj, rfl⟩ := List.mem_map.1 hi
      exact (R.map j (hs j hj) (a j hj)).1
    · rw [b]
      congr 2
      rw [List.map_map]
      exact List.map_congr_left fun id hi => by simp only [Function.comp]; rw [(R.map id (hs id hi) (a id hi)).2.1]
  | nilf => exact H
theorem All2.mapL {α β γ : Type} {R : α → β → Prop} {S : γ → β → Prop} {f : α → γ} : ∀ {l : List α} {m : List β}, All2 R l m → (∀ a ∈ l, ∀ b, R a b → S (f a) b) → All2 S (l.map f) m
  | _, _, .nil, _ => .nil
  | _, _, .cons r H, h => .cons (h _ (by simp) _ r) (H.mapL fun a ha b hr => h a (by simp [ha]) b hr)
theorem mem_flat {α β : Type} {f : α → List β} : ∀ {l : List α} {b : β}, b ∈ flat f l ↔ ∃ a ∈ l, b ∈ f a
  | [], b => by simp [flat]
  | x :: l, b => by simp [flat, app_eq, mem_flat (l := l)]
theorem freeL_iff : ∀ {ls : List Leaf}, freeL ls = true ↔ ∀ l ∈ ls, l.free = true
  | [] => by simp [freeL]
  | l :: ls => by
    simp only [freeL]
    cases hl : l.free with
    | false => simp [hl]
    | true => simp [hl, freeL_iff (ls := ls)]
theorem known_free {ls : List Leaf} (hk : known ls = true) : freeL ls = true :=
  freeL_iff.2 fun l hl => by
    have := known_iff.1 hk l hl
    cases l <;> first | rfl | cases this
theorem leaves_ren (R : Ren S A h ρ A' h') {ls : List Leaf} {vs : List Value} (hk : freeL ls = true) (hs : ∀ id ∈ flat Leaf.ids ls, S id) (H : All2 (LeafR w K A h) ls vs) : All2 (LeafR w K A' h') (ls.map (Leaf.ren ρ)) vs := by
  exact H.mapL fun l hl v h0 => LeafR.ren R (freeL_iff.1 hk l hl) (fun id hi => hs id (mem_flat.2 ⟨l, hl, hi⟩)) h0
theorem AVR.ren (R : Ren S A h ρ A' h') {v : AV} {u : Value} (hk : freeL v.leafs = true) (hs : ∀ id ∈ v.ids, S id) (H : AVR w K A h v u) : AVR w K A' h' (v.ren ρ) u := by
  cases v with
  | one l => exact LeafR.ren R (freeL_iff.1 hk l (by simp [AV.leafs])) (fun id hi => hs id (by simp [AV.ids, AV.leafs, flat, app_eq, hi])) H
  | agg ls =>
    obtain ⟨cs, e, H⟩ := H
    exact ⟨cs, e, leaves_ren R hk hs H⟩
theorem knownAVs_iff : ∀ {vs : List AV}, knownAVs vs = true ↔ ∀ v ∈ vs, known v.leafs = true
  | [] => by simp [knownAVs]
  | v :: vs => by
    simp only [knownAVs]
    constructor
    · intro h x hx
      cases hv : known v.leafs with
      | false => rw [hv] at h; cases h
      | true =>
        rw [hv] at h
        rcases List.mem_cons.1 hx with e | e
        · rw [e]; exact hv
        · exact knownAVs_iff.1 h x e
    · intro h
      rw [h v (by simp)]
      exact knownAVs_iff.2 fun x hx => h x (by simp [hx])
theorem freeAVs_iff : ∀ {vs : List AV}, freeAVs vs = true ↔ ∀ v ∈ vs, freeL v.leafs = true
  | [] => by simp [freeAVs]
  | v :: vs => by
    simp only [freeAVs]
    cases hl : freeL v.leafs with
    | false => simp [hl]
    | true => simp [hl, freeAVs_iff (vs := vs)]
theorem knownAVs_free {vs : List AV} (hk : knownAVs vs = true) : freeAVs vs = true := freeAVs_iff.2 fun v hv => known_free (knownAVs_iff.1 hk v hv)
theorem knownSlot_free {s : Slot} (hk : knownSlot s = true) : s.free = true := by
  cases s with
  | av v => exact known_free hk
  | tup vs => exact knownAVs_free hk
theorem avs_ren (R : Ren S A h ρ A' h') {vs : List AV} {us : List Value} (hk : freeAVs vs = true) (hs : ∀ id ∈ flat AV.ids vs, S id) (H : All2 (AVR w K A h) vs us) : All2 (AVR w K A' h') (vs.map (AV.ren ρ)) us := by
  exact H.mapL fun l hl v h0 => AVR.ren R (freeAVs_iff.1 hk l hl) (fun id hi => hs id (mem_flat.2 ⟨l, hl, hi⟩)) h0
theorem SlotR.ren (R : Ren S A h ρ A' h') {s : Slot} {u : Value} (hk : s.free = true) (hs : ∀ id ∈ s.ids, S id) (H : SlotR w K A h s u) : SlotR w K A' h' (s.ren ρ) u := by
  cases s with
  | av v => exact AVR.ren R hk hs H
  | tup vs =>
    obtain ⟨us, e, H⟩ := H
    exact ⟨us, e, avs_ren R hk hs H⟩
theorem BlkR.ren (R : Ren S A h ρ A' h') {id : Nat} {b : Blk} (hid : S id) (hh : has h id) (hs : ∀ i ∈ b.ids, S i) (H : BlkR w K A h id b) : BlkR w K A' h' (ρ id) (b.ren ρ) := by
  obtain ⟨_, em, eh⟩ := R.map id hid hh
  cases b with
  | box ls =>
    obtain ⟨cs, t, h1, h2, h3⟩ := H
    refine ⟨cs, t, by rw [em]; exact h1, leaves_ren R (known_free h3) hs h2, known_iff.2 fun l hl => ?_⟩
    obtain ⟨l0, hl0, rfl⟩ := List.mem_map.1 hl
    have := known_iff.1 h3 l0 hl0
    cases l0 <;> first | rfl | exact this
  | row e k xs =>
    obtain ⟨l, h1, h2, h3, h4⟩ := H
    exact ⟨l, by rw [eh]; exact h1, h2, by rw [eh, em]; exact h3, h4⟩
  | frz k xs =>
    obtain ⟨h1, h2, h3⟩ := H
    exact ⟨by rw [eh]; exact h1, h2, by rw [eh, em]; exact h3⟩
  | dead => trivial
  | tb t u ls =>
    obtain ⟨cs, h1, h2, h3⟩ := H
    refine ⟨cs, by rw [em]; exact h1, leaves_ren R (known_free h3) hs h2, known_iff.2 fun l hl => ?_⟩
    obtain ⟨l0, hl0, rfl⟩ := List.mem_map.1 hl
    have := known_iff.1 h3 l0 hl0
    cases l0 <;> first | rfl | exact this
  | lrec b pe rl =>
    obtain ⟨r, h1, h2⟩ := H
    exact ⟨r, by rw [em]; exact h1, by rw [eh]; exact h2⟩
  | sit s p => exact ⟨by rw [em]; exact H.1, H.2⟩
theorem ren_uses (R : Ren S A h ρ A' h') {id : Nat} (hid : S id) (hb : h'.get (ρ id) = (h.get id).map (Blk.ren ρ)) : Uses A' h' (ρ id) ↔ Uses A h id := by
  unfold Uses
  rw [hb]
  cases hg : h.get id with
  | none => rfl
  | some b =>
    have hh : Ev.has h id := by unfold Ev.has; rw [hg]; rfl
    cases b with
    | box ls => rfl
    | row e k xs =>
      show ownB (A'.hd (ρ id)) ≠ none ↔ ownB (A.hd id) ≠ none
      rw [(R.map id hid hh).2.2]
    | frz k xs => rfl
    | dead => rfl
    | tb _ _ _ => rfl
    | lrec _ _ _ => rfl
    | sit _ _ => rfl
end
theorem memN_iff {n : Nat} : ∀ {l : List Nat}, memN n l = true ↔ n ∈ l
  | [] => by simp [memN]
  | m :: l => by
    simp only [memN, List.mem_cons]
    by_cases e : n = m
    · subst e; simp
    · rw [beq_ne e]; simp [e, memN_iff (l := l)]
theorem subN_iff {m : List Nat} : ∀ {l : List Nat}, subN l m = true ↔ ∀ n ∈ l, n ∈ m
  | [] => by simp [subN]
  | a :: l => by
    simp only [subN, List.mem_cons]
    cases hm : memN a m with
    | false =>
      constructor
      · intro h; cases h
      · intro h
        have := memN_iff.2 (h a (.inl rfl))
        rw [hm] at this
        cases this
    | true =>
      constructor
      · intro h n hn
        rcases hn with e | hn
        · rw [e]; exact memN_iff.1 hm
        · exact subN_iff.1 h n hn
      · intro h
        exact subN_iff.2 fun n hn => h n (.inr hn)
theorem nodupN_iff : ∀ {l : List Nat}, nodupN l = true ↔ l.Nodup
  | [] => by simp [nodupN]
  | a :: l => by
    simp only [nodupN, List.nodup_cons]
    cases hm : memN a l with
    | true =>
      have := memN_iff.1 hm
      simp [this]
    | false =>
      have : ¬ a ∈ l := fun h => by rw [memN_iff.2 h] at hm; cases hm
      simp [this, nodupN_iff (l := l)]
theorem posN_spec {n : Nat} : ∀ {l : List Nat} {i : Nat}, n ∈ l → ∃ j, posN n l i = some (i + j) ∧ l[j]? = some n
  | [], _, h => by cases h
  | m :: l, i, h => by
    simp only [posN]
    by_cases e : n = m
    · subst e; exact ⟨0, by simp, by simp⟩
    · rw [beq_ne e]
      have hn : n ∈ l := by
        rcases List.mem_cons.1 h with h | h
        · exact absurd h e
        · exact h
      obtain ⟨j, h1, h2⟩ := posN_spec (l := l) (i := i + 1) hn
      exact ⟨j + 1, by simp [h1]; omega, by simpa using h2⟩
theorem toPos_spec {ids : List Nat} {n : Nat} (h : n ∈ ids) : ids[toPos ids n]? = some n := by
  obtain ⟨j, h1, h2⟩ := posN_spec (i := 0) h
  unfold toPos
  rw [h1]
  simpa using h2
theorem get_zipN {bs : List Blk} : ∀ {n i : Nat}, Heap.get (zipN n bs) i = if n ≤ i then bs[i - n]? else none := by
  induction bs with
  | nil => intro n i; simp [zipN, Heap.get]
  | cons b bs ih =>
    intro n i
    simp only [zipN, Heap.get]
    by_cases e : n = i
    · subst e; simp
    · rw [beq_ne e]
      simp only [cond_false, ih]
      by_cases h : n ≤ i
      · have h1 : n + 1 ≤ i := by omega
        have h2 : i - n = (i - (n + 1)) + 1 := by omega
        simp [h, h1, h2]
      · have h1 : ¬ n + 1 ≤ i := by omega
        simp [h, h1]
theorem get_zip0 {bs : List Blk} {i : Nat} : Heap.get (zipN 0 bs) i = bs[i]? := by rw [get_zipN]; simp
theorem blksAt_spec {h : Heap} : ∀ {ids : List Nat} {bs : List Blk}, blksAt h ids = some bs → bs.length = ids.length ∧ ∀ (j id : Nat), ids[j]? = some id → ∃ b : Blk, h.get id = some b ∧ bs[j]? = some b
  | [], bs, hb => by
    simp only [blksAt, Option.some.injEq] at hb
    subst hb
    simp
  | id :: ids, bs, hb => by
    simp only [blksAt] at hb
    split at hb
    · rename_i b hg
      split at hb
      · rename_i bs' hbs
        cases hb
        obtain ⟨h1, h2⟩ := blksAt_spec hbs
        refine ⟨by simp [h1], fun j i hj => ?_⟩
        cases j with
        | zero => simp at hj; subst hj; exact ⟨b, hg, by simp⟩
        | succ j =>
          obtain ⟨b', h3, h4⟩ := h2 j i (by simpa using hj)
          exact ⟨b', h3, by simpa using h4⟩
      · cases hb
    · cases hb
end Go.Ev
end
section
set_option linter.unusedVariables false
namespace Go.Ev
open Go.RowKit
def Ctx.call (E : Env) (w : World) (K : KSet) (A : Asg) (h : Heap) : Ctx :=
  { E := E, w0 := w, lent := fun b => ∃ j, Uses A h j ∧ A.m j = b, K0 := K, D := [] }
structure Sub (S : Nat → Prop) (A : Asg) (h : Heap) (ρ : Nat → Nat) (A0 : Asg) (hc : Heap) : Prop where
  ren : Ren S A h ρ A0 hc
  get : ∀ j b, hc.get j = some b → ∃ id b0, S id ∧ j = ρ id ∧ h.get id = some b0 ∧ b = b0.ren ρ ∧ ∀ i ∈ b0.ids, S i
  of : ∀ id b, S id → h.get id = some b → hc.get (ρ id) = some (b.ren ρ)
  inj : ∀ id id', S id → S id' → ρ id = ρ id' → id = id'
structure Join (S : Nat → Prop) (A : Asg) (h : Heap) (ρ : Nat → Nat) (back : Nat → Nat) (A' : Asg) (hc' : Heap) (A'' : Asg) (h'' : Heap) : Prop where
  ren : Ren (fun _ => True) A' hc' back A'' h''
  get : ∀ id b, h''.get id = some b → (∃ j b', hc'.get j = some b' ∧ id = back j ∧ b = b'.ren back) ∨ (¬ S id ∧ h.get id = some b)
  of : ∀ j b, hc'.get j = some b → h''.get (back j) = some (b.ren back)
  inj : ∀ j j', has hc' j → has hc' j' → back j = back j' → j = j'
  rb : ∀ id, S id → back (ρ id) = id
  out : ∀ id, ¬ S id → has h id → ∀ j, has hc' j → back j ≠ id
  keep : ∀ id, has h id → has h'' id ∧ A''.m id = A.m id ∧ A''.hd id = A.hd id
section
variable {C : Ctx} {w w' : World} {K K' : KSet} {A A0 A' A'' : Asg} {h hc hc' h'' : Heap} {S : Nat → Prop} {ρ back : Nat → Nat}
theorem get_has {h : Heap} {id : Nat} (hh : has h id) : ∃ b, h.get id = some b := by
  unfold has at hh
  cases hg : h.get id with
  | none => rw [hg] at hh; cases hh
  | some b => exact ⟨b, rfl⟩
theorem Sub.uses (s : Sub S A h ρ A0 hc) {j : Nat} (hu : Uses A0 hc j) : ∃ id, S id ∧ j = ρ id ∧ Uses A h id ∧ A0.m j = A.m id := by
  obtain ⟨b, hb⟩ := get_has (uses_has hu)
  obtain ⟨id, b0, hs, rfl, hg, rfl, _⟩ := s.get j b hb
  have hh : has h id := has_of_get hg
  have e : hc.get (ρ id) = (h.get id).map (Blk.ren ρ) := by rw [hg, hb]; rfl
  exact ⟨id, hs, rfl, (ren_uses s.ren hs e).1 hu, (s.ren.map id hs hh).2.1⟩
theorem HR.sub (H : HR C w K A h) (s : Sub S A h ρ A0 hc) : HR (Ctx.call C.E w K A0 hc) w K A0 hc where
  blk j b hb := by
    obtain ⟨id, b0, hs, rfl, hg, rfl, hi⟩ := s.get j b hb
    exact BlkR.ren s.ren hs (has_of_get hg) hi (H.blk id b0 hg)
  inj j j' hu hu' e := by
    obtain ⟨id, hs, rfl, h1, e1⟩ := s.uses hu
    obtain ⟨id', hs', rfl, h2, e2⟩ := s.uses hu'
    rw [H.inj id id' h1 h2 (by rw [← e1, ← e2]; exact e)]
  own j hu := by
    obtain ⟨id, hs, rfl, h1, e1⟩ := s.uses hu
    obtain ⟨a, b, _⟩ := H.own id h1
    rw [e1]
    exact ⟨a, b, .inr ⟨ρ id, hu, e1⟩⟩
  kset b hb := ⟨(H.kset b hb).1, .inl hb⟩
  k0 b hb := hb
  glob g p hp := by
    have := H.glob g p hp
    cases p <;> exact this
  os := rfl
  tape := rfl
  output := rfl
  size := Nat.le_refl _
  frame _ _ _ := rfl
theorem HR.join (H : HR C w K A h) (s : Sub S A h ρ A0 hc) (H' : HR (Ctx.call C.E w K A0 hc) w' K' A' hc') (x : Ext K A0 hc w K' A' hc' w')
    (j : Join S A h ρ back A' hc' A'' h'') : HR C w' K' A'' h'' ∧ Ext K A h w K' A'' h'' w' := by
  have bren : ∀ (b : Blk) e k xs, b.ren back = .row e k xs → b = .row e k xs := fun b e k xs hb => by
    cases b <;> simp only [Blk.ren] at hb <;> first | exact hb | cases hb
  have bfrz : ∀ (b : Blk) k xs, b.ren back = .frz k xs → b = .frz k xs := fun b k xs hb => by
    cases b <;> simp only [Blk.ren] at hb <;> first | exact hb | cases hb
  have rren : ∀ (b : Blk) e k xs, b.ren ρ = .row e k xs → b = .row e k xs := fun b e k xs hb => by
    cases b <;> simp only [Blk.ren] at hb <;> first | exact hb | cases hb
  have rfrz : ∀ (b : Blk) k xs, b.ren ρ = .frz k xs → b = .frz k xs := fun b k xs hb => by
    cases b <;> simp only [Blk.ren] at hb <;> first | exact hb | cases hb
  have back' : ∀ id, S id → has h id → ∀ i, id = back i → has hc' i → i = ρ id := fun id hs hh i e hi => by
    have h1 := (s.ren.map id hs hh).1
    have h2 := (x.hh _ h1).1
    exact j.inj i (ρ id) hi h2 (by rw [j.rb id hs]; exact e.symm)
  have X : Ext K A h w K' A'' h'' w' := by
    refine ⟨x.kk, j.keep, fun id e k xs' hh hg => ?_, fun id k xs' hh hg => ?_⟩
    · by_cases hs : S id
      · rcases j.get id _ hg with ⟨i, b', hb, e1, e2⟩ | ⟨hn, _⟩
        · have hb2 := bren b' e k xs' e2.symm
          subst hb2
          have hi := back' id hs hh i e1 (has_of_get hb)
          subst hi
          obtain ⟨xs, h0, l0⟩ := x.rr (ρ id) e k xs' (s.ren.map id hs hh).1 hb
          obtain ⟨b0, hb0⟩ := get_has hh
          have := s.of id b0 hs hb0
          rw [h0] at this
          cases this' : b0.ren ρ <;> rw [this'] at this <;> cases this
          exact ⟨xs, by rw [hb0, rren b0 e k xs this'], l0⟩
        · exact absurd hs hn
      · obtain ⟨b0, hb0⟩ := get_has hh
        have h1 := j.keep id hh
        rcases j.get id _ hg with ⟨i, b', hb, e1, e2⟩ | ⟨_, h2⟩
        · exact absurd e1.symm (j.out id hs hh i (has_of_get hb))
        · exact ⟨xs', h2, rfl⟩
    · by_cases hs : S id
      · rcases j.get id _ hg with ⟨i, b', hb, e1, e2⟩ | ⟨hn, _⟩
        · have hb2 := bfrz b' k xs' e2.symm
          subst hb2
          have hi := back' id hs hh i e1 (has_of_get hb)
          subst hi
          obtain ⟨b0, hb0⟩ := get_has hh
          have := s.of id b0 hs hb0
          rcases x.ff (ρ id) k xs' (s.ren.map id hs hh).1 hb with ⟨e, xs, h0, l0⟩ | ⟨xs, h0, l0⟩
          · rw [h0] at this
            cases this' : b0.ren ρ <;> rw [this'] at this <;> cases this
            exact .inl ⟨e, xs, by rw [hb0, rren b0 e k xs this'], l0⟩
          · rw [h0] at this
            cases this' : b0.ren ρ <;> rw [this'] at this <;> cases this
            exact .inr ⟨xs, by rw [hb0, rfrz b0 k xs this'], l0⟩
        · exact absurd hs hn
      · rcases j.get id _ hg with ⟨i, b', hb, e1, e2⟩ | ⟨_, h2⟩
        · exact absurd e1.symm (j.out id hs hh i (has_of_get hb))
        · exact .inr ⟨xs', h2, rfl⟩
  have used : ∀ id, Uses A'' h'' id → (∃ i, id = back i ∧ Uses A' hc' i ∧ A''.m id = A'.m i) ∨ (¬ S id ∧ Uses A h id ∧ A''.m id = A.m id) := fun id hu => by
    obtain ⟨b, hb⟩ := get_has (uses_has hu)
    rcases j.get id b hb with ⟨i, b', hb', rfl, rfl⟩ | ⟨hn, hg⟩
    · have e : h''.get (back i) = (hc'.get i).map (Blk.ren back) := by rw [hb, hb']; rfl
      exact .inl ⟨i, rfl, (ren_uses j.ren trivial e).1 hu, (j.ren.map i trivial (has_of_get hb')).2.1⟩
    · have hk := j.keep id (has_of_get hg)
      refine .inr ⟨hn, ?_, hk.2.1⟩
      unfold Uses at hu ⊢
      rw [hb] at hu
      rw [hg]
      cases b with
      | box ls => trivial
      | row e k xs => simp only [UsesO] at hu ⊢; rw [← hk.2.2]; exact hu
      | frz k xs => exact hu
      | dead => exact hu
      | tb _ _ _ => trivial
      | lrec _ _ _ => trivial
      | sit _ _ => trivial
  have lent1 : ∀ b, (Ctx.call C.E w K A0 hc).lent b → ∃ id, S id ∧ Uses A h id ∧ A.m id = b := fun b ⟨i, hu, e⟩ => by
    obtain ⟨id, hs, _, hu', e'⟩ := s.uses hu
    exact ⟨id, hs, hu', by rw [← e', e]⟩
  have alone : ∀ id, ¬ S id → Uses A h id → ¬ (Ctx.call C.E w K A0 hc).lent (A.m id) := fun id hn hu hl => by
    obtain ⟨id', hs, hu', e⟩ := lent1 _ hl
    exact hn (H.inj id' id hu' hu e ▸ hs)
  have part : ∀ i, Uses A' hc' i → C.w0.heap.size ≤ A'.m i ∨ C.lent (A'.m i) := fun i hu => by
    rcases (H'.own i hu).2.2 with h1 | h1
    · exact .inl (Nat.le_trans H.size h1)
    · obtain ⟨id, _, hu', e⟩ := lent1 _ h1
      rw [← e]
      exact (H.own id hu').2.2
  refine ⟨⟨fun id b hb => ?_, fun id id' hu hu' e => ?_, fun id hu => ?_, fun b hb => ?_, fun b hb => H'.k0 b (H.k0 b hb), fun g p hp => X.leaf (l := p.leaf) (H.glob g p hp), H'.os.trans H.os, H'.tape.trans H.tape, H'.output.trans H.output, Nat.le_trans H.size H'.size, fun b hb hl => ?_⟩, X⟩
  · rcases j.get id b hb with ⟨i, b', hb', rfl, rfl⟩ | ⟨hn, hg⟩
    · exact BlkR.ren j.ren trivial (has_of_get hb') (fun _ _ => trivial) (H'.blk i b' hb')
    · exact BlkR.keep X hg (fun hu => H'.frame _ (H.own id hu).2.1 (alone id hn hu)) (H.blk id b hg)
  · rcases used id hu with ⟨i, rfl, h1, e1⟩ | ⟨hn, h1, e1⟩
    · rcases used id' hu' with ⟨i', rfl, h2, e2⟩ | ⟨hn', h2, e2⟩
      · rw [H'.inj i i' h1 h2 (by rw [← e1, ← e2]; exact e)]
      · refine absurd ?_ (alone id' hn' h2)
        have ei : A'.m i = A.m id' := by rw [← e1, ← e2]; exact e
        rcases (H'.own i h1).2.2 with h3 | h3
        · rw [ei] at h3
          exact absurd (H.own id' h2).2.1 (Nat.not_lt.2 h3)
        · rw [← ei]; exact h3
    · rcases used id' hu' with ⟨i', rfl, h2, e2⟩ | ⟨hn', h2, e2⟩
      · refine absurd ?_ (alone id hn h1)
        have ei : A'.m i' = A.m id := by rw [← e1, ← e2]; exact e.symm
        rcases (H'.own i' h2).2.2 with h3 | h3
        · rw [ei] at h3
          exact absurd (H.own id h1).2.1 (Nat.not_lt.2 h3)
        · rw [← ei]; exact h3
      · exact H.inj id id' h1 h2 (by rw [← e1, ← e2]; exact e)
  · rcases used id hu with ⟨i, rfl, h1, e1⟩ | ⟨hn, h1, e1⟩
    · rw [e1]
      exact ⟨(H'.own i h1).1, (H'.own i h1).2.1, part i h1⟩
    · rw [e1]
      obtain ⟨o1, o2, o3⟩ := H.own id h1
      refine ⟨fun hk => ?_, Nat.lt_of_lt_of_le o2 H'.size, o3⟩
      rcases (H'.kset _ hk).2 with h3 | h3 | h3
      · exact o1 h3
      · exact absurd o2 (Nat.not_lt.2 h3)
      · exact alone id hn h1 h3
  · refine ⟨(H'.kset b hb).1, ?_⟩
    rcases (H'.kset b hb).2 with h3 | h3 | h3
    · exact (H.kset b h3).2
    · exact .inr (.inl (Nat.le_trans H.size h3))
    · obtain ⟨id, _, hu, e⟩ := lent1 b h3
      rw [← e]
      exact .inr (H.own id hu).2.2
  · rw [← H.frame b hb hl]
    refine H'.frame b (Nat.lt_of_lt_of_le hb H.size) fun h3 => ?_
    obtain ⟨id, _, hu, e⟩ := lent1 b h3
    rcases (H.own id hu).2.2 with h4 | h4
    · rw [e] at h4
      exact absurd hb (Nat.not_lt.2 h4)
    · rw [e] at h4
      exact hl h4
end
end Go.Ev
end
section
set_option linter.unusedVariables false
namespace Go.Ev
open Go.RowKit
structure Open (F : Fence) : Prop where
  fn : ∀ f, F.fn f
  depth : F.depth = none
  alive : F.alive = false
def Runs (F : Fence) (P : Program) (f : FuncId) (args : Array Value) (w : World) (R : Value → World → Prop) : Prop :=
  (∃ v w', (callFunc f args).run P w = .ok (.value v) w' ∧ R v w') ∨
  ((callFunc f args).run P w = .ok (.enter f args) w ∧ CallsIn F 0 P f args w fun e w' => ∃ v, e = .returned v ∧ R v w')
theorem Runs.mono {F : Fence} {P : Program} {f : FuncId} {args : Array Value} {w : World} {R R' : Value → World → Prop} (h : Runs F P f args w R) (hr : ∀ v w', R v w' → R' v w') : Runs F P f args w R' := by
  rcases h with ⟨v, w', h, r⟩ | ⟨h, c⟩
  · exact .inl ⟨v, w', h, hr _ _ r⟩
  · exact .inr ⟨h, c.mono fun e w' ⟨v, he, r⟩ => ⟨v, he, hr _ _ r⟩⟩
def Does (F : Fence) (P : Program) (E : Env) (f : FuncId) (args : List AV) (bs : List Blk) (r : SRes) : Prop :=
  r.c ≠ some false → ∀ w K A (vs : List Value), HR (Ctx.call E w K A (zipN 0 bs)) w K A (zipN 0 bs) → All2 (AVR w K A (zipN 0 bs)) args vs →
    Runs F P f vs.toArray w fun v w' => ∃ K' A', HR (Ctx.call E w K A (zipN 0 bs)) w' K' A' (zipN 0 (r.upd ++ r.new)) ∧
      Ext K A (zipN 0 bs) w K' A' (zipN 0 (r.upd ++ r.new)) w' ∧ SlotR w' K' A' (zipN 0 (r.upd ++ r.new)) r.rs v ∧ r.upd.length = bs.length
def SpecOK (P : Program) (E : Env) (f : FuncId) (sp : FSpec) : Prop :=
  ∀ F, Open F → ∀ args bs r, sp.g args bs = some r → Does F P E f args bs r
def FnsOK (P : Program) (E : Env) : Prop := ∀ f sp, E.fn f = some sp → SpecOK P E f sp
section
variable {P : Program} {C : Ctx} {w : World} {K : KSet} {A : Asg} {h : Heap}
theorem toAV_R {K : KSet} {k : Kd} {x : k.T} {v : Value} (hR : Kd.R w K k x v.cells.toList) (ha : k.isAgg = true → ∃ cs, v = .agg cs) (h1 : k.isAgg = false → v.oneCell' = true) : AVR w K A h (toAV k x) v := by
  have hl := leafs_R (A := A) (h := h) hR
  have hn := leafs_len (k := k) (x := x)
  unfold toAV
  cases hag : k.isAgg with
  | true =>
    obtain ⟨cs, rfl⟩ := ha hag
    have : AVR w K A h (.agg (leafs k x)) (.agg cs) := ⟨cs.toList, by simp, hl⟩
    split
    · rename_i l e
      rw [e] at this
      exact this
    · exact this
  | false =>
    have h2 := h1 hag
    have hc : v.cells = #[v] := by cases v <;> first | rfl | cases h2
    rw [hc] at hl
    have h3 : (leafs k x).length = 1 := by rw [hl.len]; rfl
    split
    · rename_i l e
      rw [e] at hl
      cases hl with
      | cons h0 _ => exact h0
    · rename_i hno
      cases e : leafs k x with
      | nil => rw [e] at h3; cases h3
      | cons l ls =>
        cases ls with
        | nil => exact absurd e (hno l)
        | cons l' ls => rw [e] at h3; simp at h3
theorem packArgs_R (H : HR C w K A h) {K1 : KSet} (h1 : Heap) (X : Ext K A h w K1 A h1 w) : ∀ {ps : List PM} {args ws : List AV} {vs : List Value} {f : List Nat},
    packArgs h ps args = some (ws, f) → All2 (AVR w K A h) args vs → (∀ id ∈ f, ∀ e k xs, h.get id = some (.row e k xs) → Kd.R w K1 (.sl k) xs [A.hd id]) → All2 (AVR w K1 A h1) ws vs
  | [], [], ws, vs, f, hp, hv, _ => by
    simp only [packArgs, Option.some.injEq, Prod.mk.injEq] at hp
    obtain ⟨rfl, _⟩ := hp
    cases hv
    exact .nil
  | .raw :: ps, v :: args, ws, vs, f, hp, hv, hf => by
    simp only [packArgs] at hp
    split at hp
    · rename_i ws' f' hq
      simp only [Option.some.injEq, Prod.mk.injEq] at hp
      obtain ⟨rfl, rfl⟩ := hp
      cases hv with
      | cons h0 hv => exact .cons (X.av h0) (packArgs_R H h1 X hq hv hf)
    · cases hp
  | .data k :: ps, v :: args, ws, vs, f, hp, hv, hf => by
    simp only [packArgs] at hp
    split at hp
    · rename_i x f1 hq1
      split at hp
      · rename_i ws' f2 hq
        simp only [Option.some.injEq, Prod.mk.injEq, app_eq] at hp
        obtain ⟨rfl, rfl⟩ := hp
        cases hv with
        | cons h0 hv =>
          obtain ⟨a, b, c⟩ := packAV_R (fun b hb => (X.kk b hb).1) H h0 hq1 (fun id hi => hf id (List.mem_append_left _ hi))
          exact .cons (toAV_R a b c) (packArgs_R H h1 X hq hv (fun id hi => hf id (List.mem_append_right _ hi)))
      · cases hp
    · cases hp
  | [], _ :: _, _, _, _, hp, _, _ => by simp [packArgs] at hp
  | .raw :: _, [], _, _, _, hp, _, _ => by simp [packArgs] at hp
  | .data _ :: _, [], _, _, _, hp, _, _ => by simp [packArgs] at hp
theorem get_zipK : ∀ {ids : List Nat} {bs : List Blk} {h : Heap}, ids.Nodup → bs.length = ids.length →
    (∀ (j id : Nat), ids[j]? = some id → (h.sets (zipK ids bs)).get id = bs[j]?) ∧ (∀ id, id ∉ ids → (h.sets (zipK ids bs)).get id = h.get id)
  | [], [], h, _, _ => ⟨fun j id hj => by simp at hj, fun id _ => rfl⟩
  | id :: ids, b :: bs, h, hn, hl => by
    have hn' := List.nodup_cons.1 hn
    obtain ⟨h1, h2⟩ := get_zipK (h := h.set id b) hn'.2 (by simpa using hl)
    refine ⟨fun j i hj => ?_, fun i hi => ?_⟩
    · cases j with
      | zero =>
        simp at hj
        subst hj
        simp only [zipK, Heap.sets]
        rw [h2 _ hn'.1, Heap.get_set]
        simp
      | succ j =>
        simp only [zipK, Heap.sets]
        simpa using h1 j i (by simpa using hj)
    · simp only [List.mem_cons, not_or] at hi
      simp only [zipK, Heap.sets]
      rw [h2 i hi.2, Heap.get_set, if_neg hi.1]
  | [], _ :: _, _, _, hl => by simp at hl
  | _ :: _, [], _, _, hl => by simp at hl
theorem get_zipNs : ∀ {bs : List Blk} {h : Heap} {n id : Nat}, (h.sets (zipN n bs)).get id = if n ≤ id ∧ id < n + bs.length then bs[id - n]? else h.get id
  | [], h, n, id => by simp only [zipN, Heap.sets, List.length_nil]; rw [if_neg (by omega)]
  | b :: bs, h, n, id => by
    simp only [zipN, Heap.sets, List.length_cons]
    rw [get_zipNs (bs := bs)]
    by_cases h1 : n + 1 ≤ id ∧ id < n + 1 + bs.length
    · have h2 : n ≤ id ∧ id < n + (bs.length + 1) := by omega
      have h3 : id - n = (id - (n + 1)) + 1 := by omega
      simp [h1, h2, h3]
    · rw [if_neg h1, Heap.get_set]
      by_cases h2 : id = n
      · subst h2; simp
      · rw [if_neg h2, if_neg (by omega)]
theorem allNew_ok {key : Nat} {α : Type} {f : Unit → Option α} {y : α} : ∀ {n : Nat}, (allNew h key n).bind f = some y → (∀ i, i < n → h.get (key + i) = none) ∧ f () = some y
  | 0, hb => ⟨fun i hi => absurd hi (by omega), hb⟩
  | n + 1, hb => by
    simp only [allNew, Option.bind_assoc] at hb
    obtain ⟨h1, h2⟩ := isNew_ok hb
    obtain ⟨h3, h4⟩ := allNew_ok (n := n) h2
    refine ⟨fun i hi => ?_, h4⟩
    by_cases e : i = n
    · subst e; exact h1
    · exact h3 i (by omega)
theorem getD_pos {ids : List Nat} {id : Nat} (hi : id ∈ ids) : ids.getD (toPos ids id) 0 = id := by
  rw [List.getD_eq_getElem?_getD, toPos_spec hi]; rfl
theorem pos_lt {ids : List Nat} {id : Nat} (hi : id ∈ ids) : toPos ids id < ids.length := by
  have := toPos_spec hi
  exact (List.getElem?_eq_some_iff.1 this).1
theorem pos_of {ids : List Nat} (hn : ids.Nodup) {j id : Nat} (hj : ids[j]? = some id) : toPos ids id = j := by
  have hm : id ∈ ids := List.mem_of_getElem? hj
  have h1 := toPos_spec hm
  exact (List.getElem?_inj (pos_lt hm) hn).1 (h1.trans hj.symm)
theorem callR_R {F : Fence} (O : Open F) (FO : FnsOK P C.E) (H : HR C w K A h) {key : Nat} {f : FuncId} {args : List AV} {vs : List Value} {r : OR} (hv : All2 (AVR w K A h) args vs)
    (hr : callR C.E key h f args = some r) (hc : r.c ≠ some false) :
    Runs F P f vs.toArray w fun v w' => ∃ K' A', HR C w' K' A' (h.sets r.u) ∧ Ext K A h w K' A' (h.sets r.u) w' ∧ SlotR w' K' A' (h.sets r.u) r.v v := by
  unfold callR at hr
  split at hr
  · rename_i sp hsp
    split at hr
    · rename_i ws fz hpa
      dsimp +zeta +zetaHave only at hr
      split at hr
      · rename_i bs hbs
        obtain ⟨hchk, hr⟩ := bif_some hr
        simp only [Bool.and_eq_true] at hchk
        obtain ⟨⟨hkn, hnd⟩, hs1, hs2⟩ := hchk
        split at hr
        · rename_i r0 hg
          obtain ⟨hnew, hr⟩ := allNew_ok hr
          obtain ⟨hks, hr⟩ := bif_some hr
          cases hr
          obtain ⟨K1, H1, X1, hf1⟩ := freezes fz H
          have hw := packArgs_R H _ X1 hpa hv hf1
          generalize hids0 : reach (h.sets (frozenUpd h fz)) 100 (flat AV.ids ws) [] = ids at *
          rw [len_eq] at hnew
          have hnd := nodupN_iff.1 hnd
          have hs1 := subN_iff.1 hs1
          have hs2 := subN_iff.1 hs2
          obtain ⟨hbl, hbg⟩ := blksAt_spec hbs
          have hsets : h.sets (app (frozenUpd h fz) (app (zipK ids (r0.upd.map (Blk.ren (fromPos ids (len ids) key)))) (zipN key (r0.new.map (Blk.ren (fromPos ids (len ids) key)))))) =
              ((h.sets (frozenUpd h fz)).sets (zipK ids (r0.upd.map (Blk.ren (fromPos ids (len ids) key))))).sets (zipN key (r0.new.map (Blk.ren (fromPos ids (len ids) key)))) := by
            rw [Heap.sets_app, Heap.sets_app]
          rw [len_eq] at hsets
          simp only [len_eq, hsets]
          have hnew1 : ∀ i, i < r0.new.length → (h.sets (frozenUpd h fz)).get (key + i) = none := fun i hi => get_none_frozenUpd fz h _ (hnew i hi)
          generalize h.sets (frozenUpd h fz) = h1 at *
          have hgetb : ∀ id, id ∈ ids → ∃ b, h1.get id = some b ∧ bs[toPos ids id]? = some b := fun id hi => hbg _ _ (toPos_spec hi)
          have hidk : ∀ i, i < r0.new.length → key + i ∉ ids := fun i hi hm => by
            obtain ⟨b, hb, _⟩ := hgetb _ hm
            rw [hnew1 i hi] at hb
            cases hb
          let A0 : Asg := { m := fun j => A.m (ids.getD j 0), hd := fun j => A.hd (ids.getD j 0) }
          have hids : ∀ (j : Nat) (b : Blk), bs[j]? = some b → ∃ id, ids[j]? = some id ∧ h1.get id = some b := fun j b hb => by
            have hj : j < ids.length := by rw [← hbl]; exact (List.getElem?_eq_some_iff.1 hb).1
            obtain ⟨b', h2, h3⟩ := hbg j ids[j] (List.getElem?_eq_getElem hj)
            rw [hb] at h3
            cases h3
            exact ⟨_, List.getElem?_eq_getElem hj, h2⟩
          have sub : Sub (· ∈ ids) A h1 (toPos ids) A0 (zipN 0 (bs.map (Blk.ren (toPos ids)))) := by
            refine ⟨⟨fun id hi hh => ?_⟩, fun j b hb => ?_, fun id b hi hb => ?_, fun id id' hi hi' e => ?_⟩
            · obtain ⟨b, h2, h3⟩ := hgetb id hi
              refine ⟨?_, by show A.m (ids.getD (toPos ids id) 0) = A.m id; rw [getD_pos hi], by show A.hd (ids.getD (toPos ids id) 0) = A.hd id; rw [getD_pos hi]⟩
              unfold Ev.has
              rw [get_zip0, List.getElem?_map, h3]
              rfl
            · rw [get_zip0, List.getElem?_map] at hb
              cases hj : bs[j]? with
              | none => rw [hj] at hb; cases hb
              | some b0 =>
                rw [hj] at hb
                cases hb
                obtain ⟨id, h2, h3⟩ := hids j b0 hj
                refine ⟨id, b0, List.mem_of_getElem? h2, (pos_of hnd h2).symm, h3, rfl, fun i hi => hs2 i (mem_flat.2 ⟨b0, List.mem_of_getElem? hj, hi⟩)⟩
            · obtain ⟨b', h2, h3⟩ := hgetb id hi
              rw [hb] at h2
              cases h2
              rw [get_zip0, List.getElem?_map, h3]
              rfl
            · have h2 := toPos_spec hi
              have h3 := toPos_spec hi'
              rw [e, h3] at h2
              exact (Option.some.inj h2).symm
          have Hs := H1.sub sub
          have hargs := avs_ren sub.ren (knownAVs_free hkn) hs1 hw
          refine (FO f sp hsp F O _ _ _ hg hc w K1 A0 vs Hs hargs).mono fun v w' ⟨K', A', H', X', S', hul⟩ => ?_
          have hul : r0.upd.length = ids.length := by rw [hul, List.length_map, hbl]
          let A2 : Asg := { m := fun id => if id ∈ ids then A.m id else if key ≤ id ∧ id < key + r0.new.length then A'.m (ids.length + (id - key)) else A.m id,
                            hd := fun id => if id ∈ ids then A.hd id else if key ≤ id ∧ id < key + r0.new.length then A'.hd (ids.length + (id - key)) else A.hd id }
          have g2 : ∀ (bs1 bs2 : List Blk), bs1.length = ids.length → bs2.length = r0.new.length → (∀ (j id : Nat), ids[j]? = some id → ((h1.sets (zipK ids bs1)).sets (zipN key bs2)).get id = bs1[j]?) ∧
              (∀ i, i < r0.new.length → ((h1.sets (zipK ids bs1)).sets (zipN key bs2)).get (key + i) = bs2[i]?) ∧
              (∀ id, id ∉ ids → ¬ (key ≤ id ∧ id < key + r0.new.length) → ((h1.sets (zipK ids bs1)).sets (zipN key bs2)).get id = h1.get id) := fun bs1 bs2 l1 l2 => by
            obtain ⟨z1, z2⟩ := get_zipK (h := h1) hnd l1
            refine ⟨fun j id hj => ?_, fun i hi => ?_, fun id hi hk => ?_⟩
            · rw [get_zipNs, l2, if_neg (fun hk => hidk (id - key) (by omega) (by
                have : key + (id - key) = id := by omega
                rw [this]; exact List.mem_of_getElem? hj))]
              exact z1 j id hj
            · rw [get_zipNs, l2, if_pos (by omega)]
              congr 1
              omega
            · rw [get_zipNs, l2, if_neg hk]
              exact z2 id hi
          obtain ⟨ga, gb, gc⟩ := g2 (r0.upd.map (Blk.ren (fromPos ids ids.length key))) (r0.new.map (Blk.ren (fromPos ids ids.length key))) (by simpa using hul) (by simp)
          have bk1 : ∀ (j id : Nat), ids[j]? = some id → fromPos ids ids.length key j = id := fun j id hj => by
            unfold fromPos
            rw [nth_eq, hj]
          have bk2 : ∀ j, ids.length ≤ j → fromPos ids ids.length key j = key + (j - ids.length) := fun j hj => by
            unfold fromPos
            rw [nth_eq, List.getElem?_eq_none hj]
            rfl
          have cget : ∀ j, Heap.get (zipN 0 (r0.upd ++ r0.new)) j = if j < ids.length then r0.upd[j]? else r0.new[j - ids.length]? := fun j => by
            rw [get_zip0, List.getElem?_append, hul]
          have chas : ∀ j, Ev.has (zipN 0 (r0.upd ++ r0.new)) j → j < ids.length ∨ (ids.length ≤ j ∧ j - ids.length < r0.new.length) := fun j hj => by
            obtain ⟨b, hb⟩ := get_has hj
            rw [cget] at hb
            split at hb
            · exact .inl (by assumption)
            · exact .inr ⟨by omega, (List.getElem?_eq_some_iff.1 hb).1⟩
          have jn : Join (· ∈ ids) A h1 (toPos ids) (fromPos ids ids.length key) A' (zipN 0 (r0.upd ++ r0.new)) A2
              ((h1.sets (zipK ids (r0.upd.map (Blk.ren (fromPos ids ids.length key))))).sets (zipN key (r0.new.map (Blk.ren (fromPos ids ids.length key))))) := by
            have of : ∀ j b, Heap.get (zipN 0 (r0.upd ++ r0.new)) j = some b →
                ((h1.sets (zipK ids (r0.upd.map (Blk.ren (fromPos ids ids.length key))))).sets (zipN key (r0.new.map (Blk.ren (fromPos ids ids.length key))))).get (fromPos ids ids.length key j) = some (b.ren (fromPos ids ids.length key)) := fun j b hb => by
              rw [cget] at hb
              split at hb
              · rename_i hlt
                rw [bk1 j _ (List.getElem?_eq_getElem hlt), ga j _ (List.getElem?_eq_getElem hlt), List.getElem?_map, hb]
                rfl
              · rename_i hlt
                have hl2 : j - ids.length < r0.new.length := (List.getElem?_eq_some_iff.1 hb).1
                rw [bk2 j (by omega), gb _ hl2, List.getElem?_map, hb]
                rfl
            refine ⟨⟨fun j _ hj => ?_⟩, fun id b hb => ?_, of, fun j j' hj hj' e => ?_, fun id hi => bk1 _ _ (toPos_spec hi), fun id hi hh j hj => ?_, fun id hh => ?_⟩
            · obtain ⟨b, hb⟩ := get_has hj
              refine ⟨has_of_get (of j b hb), ?_⟩
              rcases chas j hj with hlt | ⟨hle, hlt⟩
              · have e := bk1 j _ (List.getElem?_eq_getElem hlt)
                have hm : ids[j] ∈ ids := List.getElem_mem hlt
                have hc0 : Ev.has (zipN 0 (bs.map (Blk.ren (toPos ids)))) j := by
                  unfold Ev.has
                  rw [get_zip0, List.getElem?_map, List.getElem?_eq_getElem (by rw [hbl]; exact hlt)]
                  rfl
                have hx := X'.hh j hc0
                have hd0 : ids.getD j 0 = ids[j] := by simp [hlt]
                rw [e]
                constructor
                · show (if ids[j] ∈ ids then A.m ids[j] else _) = _
                  rw [if_pos hm, hx.2.1]
                  show _ = A.m (ids.getD j 0)
                  rw [hd0]
                · show (if ids[j] ∈ ids then A.hd ids[j] else _) = _
                  rw [if_pos hm, hx.2.2]
                  show _ = A.hd (ids.getD j 0)
                  rw [hd0]
              · have e := bk2 j hle
                have hni := hidk _ hlt
                have hjj : ids.length + (key + (j - ids.length) - key) = j := by omega
                rw [e]
                constructor
                · show (if key + (j - ids.length) ∈ ids then _ else if key ≤ key + (j - ids.length) ∧ key + (j - ids.length) < key + r0.new.length then A'.m (ids.length + (key + (j - ids.length) - key)) else _) = _
                  rw [if_neg hni, if_pos (by omega), hjj]
                · show (if key + (j - ids.length) ∈ ids then _ else if key ≤ key + (j - ids.length) ∧ key + (j - ids.length) < key + r0.new.length then A'.hd (ids.length + (key + (j - ids.length) - key)) else _) = _
                  rw [if_neg hni, if_pos (by omega), hjj]
            · by_cases hi : id ∈ ids
              · left
                have hp := toPos_spec hi
                rw [ga _ _ hp, List.getElem?_map] at hb
                cases hu : r0.upd[toPos ids id]? with
                | none => rw [hu] at hb; cases hb
                | some b' =>
                  rw [hu] at hb
                  cases hb
                  exact ⟨toPos ids id, b', by rw [cget, if_pos (pos_lt hi), hu], (bk1 _ _ hp).symm, rfl⟩
              · by_cases hk : key ≤ id ∧ id < key + r0.new.length
                · left
                  have e : key + (id - key) = id := by omega
                  have hb' := gb (id - key) (by omega)
                  rw [e, hb, List.getElem?_map] at hb'
                  cases hu : r0.new[id - key]? with
                  | none => rw [hu] at hb'; cases hb'
                  | some b' =>
                    rw [hu] at hb'
                    refine ⟨ids.length + (id - key), b', ?_, ?_, Option.some.inj hb'⟩
                    · rw [cget, if_neg (by omega)]
                      rw [← hu]
                      congr 1
                      omega
                    · rw [bk2 _ (by omega)]
                      omega
                · right
                  exact ⟨hi, by rw [← gc id hi hk]; exact hb⟩
            · rcases chas j hj with h2 | ⟨h2, h2'⟩
              · rcases chas j' hj' with h3 | ⟨h3, h3'⟩
                · have e1 := bk1 j _ (List.getElem?_eq_getElem h2)
                  have e2 := bk1 j' _ (List.getElem?_eq_getElem h3)
                  have e3 : ids[j] = ids[j'] := by rw [← e1, ← e2]; exact e
                  exact (List.getElem?_inj h2 hnd).1 (by rw [List.getElem?_eq_getElem h2, List.getElem?_eq_getElem h3, e3])
                · refine absurd ?_ (hidk _ h3')
                  rw [← bk2 j' h3, ← e, bk1 j _ (List.getElem?_eq_getElem h2)]
                  exact List.getElem_mem h2
              · rcases chas j' hj' with h3 | ⟨h3, h3'⟩
                · refine absurd ?_ (hidk _ h2')
                  rw [← bk2 j h2, e, bk1 j' _ (List.getElem?_eq_getElem h3)]
                  exact List.getElem_mem h3
                · rw [bk2 j h2, bk2 j' h3] at e
                  omega
            · rcases chas j hj with h2 | ⟨h2, h2'⟩
              · rw [bk1 j _ (List.getElem?_eq_getElem h2)]
                exact fun e => hi (e ▸ List.getElem_mem h2)
              · rw [bk2 j h2]
                intro e
                obtain ⟨b, hb⟩ := get_has hh
                rw [← e, hnew1 _ h2'] at hb
                cases hb
            · by_cases hi : id ∈ ids
              · have hp := toPos_spec hi
                refine ⟨?_, if_pos hi, if_pos hi⟩
                unfold Ev.has
                rw [ga _ _ hp, List.getElem?_map, List.getElem?_eq_getElem (by rw [hul]; exact pos_lt hi)]
                rfl
              · have hk : ¬ (key ≤ id ∧ id < key + r0.new.length) := fun hk => by
                  obtain ⟨b, hb⟩ := get_has hh
                  have := hnew1 (id - key) (by omega)
                  rw [show key + (id - key) = id from by omega, hb] at this
                  cases this
                refine ⟨?_, ?_, ?_⟩
                · unfold Ev.has at hh ⊢
                  rw [gc id hi hk]
                  exact hh
                · show (if id ∈ ids then _ else if key ≤ id ∧ id < key + r0.new.length then _ else A.m id) = _
                  rw [if_neg hi, if_neg hk]
                · show (if id ∈ ids then _ else if key ≤ id ∧ id < key + r0.new.length then _ else A.hd id) = _
                  rw [if_neg hi, if_neg hk]
          obtain ⟨H2, X2⟩ := H1.join sub H' X' jn
          exact ⟨K', A2, H2, X1.trans X2, SlotR.ren jn.ren (knownSlot_free hks) (fun _ _ => trivial) S'⟩
        · cases hr
      · cases hr
    · cases hr
  · cases hr
end
end Go.Ev
end
section
set_option linter.unusedVariables false
namespace Go.Ev
open Go.RowKit
section
variable {P : Program} {F : Fence} {n : Nat} {C : Ctx} {w : World} {K : KSet} {A : Asg}
def ItOK (P : Program) (E : Env) : Prop := ∀ g fn, E.it g = some fn → P.funcs[g]? = some fn ∧ (fn.name == "runtime.NumGoroutine") = false
structure Base (F : Fence) (P : Program) (E : Env) : Prop where
  op : Open F
  tab : TabOK P E.tt
  fns : FnsOK P E
  it : ItOK P E
theorem opRun_nodefer {E : Env} {σ : St} {o : Oper} {r : OR} (hr : opRun E σ o = some r) : ∀ c, o.op ≠ .defer c := fun c hc => by
  unfold opRun at hr
  simp only [hc] at hr
  cases hr
theorem all2_caps {h : Heap} : ∀ {cs : List Nat}, (∀ id ∈ cs, has h id) → All2 (AVR w K A h) (cs.map fun id => AV.one (.ptr id 0)) (cs.map fun id => Value.pointer (some ⟨A.m id, 0, none⟩))
  | [], _ => .nil
  | id :: cs, hh => .cons ⟨hh id (by simp), rfl⟩ (all2_caps fun i hi => hh i (by simp [hi]))
theorem oper_R (B : Base F P C.E) {σ : St} {a : Act} {o : Oper} {r : OR} {next : Act → World → Prop} {Q : Exit → Act → World → Prop}
    (H : HR C w K A σ.h) (S : SlotsR w K A σ.h σ.t a) (hr : opRun C.E σ o = some r) (hc : r.c ≠ some false)
    (hk : ∀ v w' K' A', HR C w' K' A' (σ.h.sets r.u) → Ext K A σ.h w K' A' (σ.h.sets r.u) w' → SlotR w' K' A' (σ.h.sets r.u) r.v v → next (a.put o.dst v) w') :
    o.wpIn F n P a w next Q := by
  refine ⟨fun f _ => B.op.fn f, ?_⟩
  rw [Oper.semAt_eq _ _ _ (opRun_nodefer hr)]
  cases hcall : isCall o with
  | false =>
    obtain ⟨nx, v, w', K', A', hrun, hv, H', X', S'⟩ := opRun_R B.tab H S hr hcall hc
    rw [hrun]
    rcases hv with rfl | ⟨rfl, rfl⟩
    · exact hk v w' K' A' H' X' S'
    · exact hk undef w' K' A' H' X' S'
  | true =>
    unfold isCall at hcall
    split at hcall
    · rename_i c hop
      split at hcall
      · rename_i fo hfo
        have hr' := hr
        unfold opRun at hr'
        simp only [hop, hfo] at hr'
        split at hr'
        · rename_i f caps hl
          split at hr'
          · rename_i vs hvs
            have hL := opLeaf_R H S hl
            obtain ⟨hcap, hfv⟩ := hL
            have hA := opAVs_R H S hvs
            rw [app_eq] at hr'
            have hall := hA.app (all2_caps hcap)
            have hruns := callR_R B.op B.fns H hall hr' hc
            have he : (execOp a.eval o).run P w = (callFunc f ((c.args.toList.map a.eval) ++ (caps.map fun id => Value.pointer (some ⟨A.m id, 0, none⟩))).toArray).run P w := by
              have h1 : execOp a.eval o = (do let d ← resolve a.eval c o.type; invoke d.target d.args) := by unfold execOp; rw [hop]
              have h2 : resolve a.eval c o.type = pure { target := .fn (.func f) (caps.map fun id => Value.pointer (some ⟨A.m id, 0, none⟩)).toArray, args := #[] ++ c.args.map a.eval } := by
                unfold resolve
                rw [hfo]
                show Deferred.ofValue (a.eval fo) (c.args.map a.eval) = _
                rw [hfv]
                rfl
              rw [h1, h2]
              show (callFunc f ((#[] ++ c.args.map a.eval) ++ _)).run P w = _
              congr 2
              simp
            rw [he]
            rcases hruns with ⟨v, w', hrun, K', A', H', X', S'⟩ | ⟨hrun, hcalls⟩
            · rw [hrun]
              exact hk v w' K' A' H' X' S'
            · rw [hrun]
              refine ⟨fun hd => (by rw [B.op.depth] at hd; cases hd), ?_⟩
              refine (hcalls.more (Nat.zero_le _)).mono fun e w' ⟨v, he, K', A', H', X', S'⟩ => ?_
              rw [he]
              exact hk v w' K' A' H' X' S'
          · cases hr'
        · cases hr'
      · cases hcall
    · cases hcall
structure Start where
  K : KSet
  A : Asg
  h : Heap
  w : World
def DefR (C : Ctx) (X : Start) (w : World) (K : KSet) (ds : List Deferred) : Prop :=
  ds.Nodup ∧ ∀ d ∈ ds, ∃ D, d = { target := .collected D, args := #[] } ∧ C.w0.heap.size ≤ D ∧ ¬ X.K D ∧ K D ∧ w.heap[D]? = some (.deferred (some []))
theorem DefR.nil (C : Ctx) (X : Start) (w : World) (K : KSet) : DefR C X w K [] := ⟨.nil, fun _ h => by cases h⟩
theorem DefR.mono {C : Ctx} {X : Start} {w w' : World} {K K' : KSet} {ds : List Deferred} (H : DefR C X w K ds) (h : ∀ b, K b → K' b ∧ w'.heap[b]? = w.heap[b]?) : DefR C X w' K' ds :=
  ⟨H.1, fun d hd => by
    obtain ⟨D, e, h0, hx, h1, h2⟩ := H.2 d hd
    exact ⟨D, e, h0, hx, (h D h1).1, (h D h1).2.trans h2⟩⟩
def St.ok (C : Ctx) (X : Start) (σ : St) (a : Act) (w : World) : Prop :=
  ∃ K A, HR C w K A σ.h ∧ Ext X.K X.A X.h X.w K A σ.h w ∧ SlotsR w K A σ.h σ.t a ∧ DefR C X w K a.defers
def YlOK (F : Fence) (P : Program) (C : Ctx) (X : Start) : Prop :=
  ∀ id vs h b h', (C.E.yl id vs h).val = some (b, h') → ∀ w K A us m, HR C w K A h → Ext X.K X.A X.h X.w K A h w → All2 (AVR w K A h) vs us →
    YieldAt F m P (A.m id) us.toArray w fun e w' => e = .returned (.bool b) ∧ ∃ K' A', HR C w' K' A' h' ∧ Ext K A h w K' A' h' w'
structure BaseY (F : Fence) (P : Program) (C : Ctx) (X : Start) : Prop extends Base F P C.E where
  yl : YlOK F P C X
variable {X : Start} {a : Act} {σ σ' : St} {Q : Exit → Act → World → Prop}
theorem val_bind {α β : Type} (t : Tr α) (f : α → Tr β) : (t.bind f).val = t.val.bind fun x => (f x).val := by
  induction t with
  | ret a => rfl
  | ite c t e ih1 ih2 =>
    simp only [Tr.bind, Tr.val]
    cases c <;> simp [ih1, ih2]
  | fail => rfl
theorem need_val {α : Type} {c : Option Bool} {t : Tr α} {x : α} (h : (need c t).val = some x) : c ≠ some false ∧ t.val = some x := by
  cases c with
  | none => exact ⟨by simp, h⟩
  | some b =>
    cases b with
    | true => exact ⟨by simp, h⟩
    | false => cases h
theorem put_defers (a : Act) (d : Option Tmp) (v : Value) : (a.put d v).defers = a.defers := by cases d <;> rfl
theorem stepY_R (B : BaseY F P C X) {o : Oper} {next : Act → World → Prop} (hs : (stepY C.E o σ).val = some σ') (hok : σ.ok C X a w)
    (hk : ∀ a' w', σ'.ok C X a' w' → next a' w') : o.wpIn F n P a w next Q := by
  obtain ⟨K, A, H, E1, S, hd⟩ := hok
  unfold stepY at hs
  split at hs
  · rename_i p hp
    obtain ⟨id, vs⟩ := p
    simp only [val_bind, Option.bind_eq_some_iff] at hs
    obtain ⟨⟨b, h'⟩, hy, hs⟩ := hs
    simp only [putK_eq, fHeap_eq, Tr.val, Option.some.injEq] at hs
    subst hs
    unfold yldOf at hp
    split at hp
    · rename_i c hop
      split at hp
      · rename_i fo hfo
        split at hp
        · rename_i hl
          split at hp
          · rename_i vs' hvs
            cases hp
            have hL := opLeaf_R H S hl
            obtain ⟨hcap, hfv⟩ := hL
            have hA := opAVs_R H S hvs
            obtain ⟨fn, tmps, asg, body, hyl, hR⟩ := B.yl _ _ _ _ _ hy w K A _ (n - 1) H E1 hA
            refine ⟨fun f _ => B.op.fn f, ?_⟩
            have hnd : ∀ c, o.op ≠ .defer c := fun c hc => by rw [hop] at hc; cases hc
            rw [Oper.semAt_eq _ _ _ hnd]
            have he : (execOp a.eval o).run P w = (Instr.yield (A.m id) ((c.args.toList.map a.eval)).toArray).run P w := by
              have h1 : execOp a.eval o = (do let d ← resolve a.eval c o.type; invoke d.target d.args) := by unfold execOp; rw [hop]
              have h2 : resolve a.eval c o.type = pure { target := .fn (.yield (A.m id)) #[], args := #[] ++ c.args.map a.eval } := by
                unfold resolve
                rw [hfo]
                show Deferred.ofValue (a.eval fo) (c.args.map a.eval) = _
                rw [hfv]
                rfl
              rw [h1, h2]
              show (Instr.yield (A.m id) (#[] ++ c.args.map a.eval)).run P w = _
              rw [show (#[] ++ c.args.map a.eval : Array Value) = (c.args.toList.map a.eval).toArray from by
                apply Array.ext'
                simp]
            rw [he, hyl]
            refine ⟨fun hd => (by rw [B.op.depth] at hd; cases hd), ?_⟩
            refine hR.mono fun e w' ⟨he, K', A', H', X'⟩ => ?_
            rw [he]
            exact hk _ _ ⟨K', A', H', E1.trans X', (S.ext X').put (s := one (.kb b)) (show LeafR w' K' A' h' (.kb b) (.bool b) from rfl), by rw [put_defers]; exact hd.mono X'.kk⟩
          · cases hp
        · cases hp
      · cases hp
    · cases hp
  · cases hs
theorem step1_R (B : BaseY F P C X) {o : Oper} {next : Act → World → Prop} (hs : (step1 C.E o σ).val = some σ') (hok : σ.ok C X a w)
    (hk : ∀ a' w', σ'.ok C X a' w' → next a' w') : o.wpIn F n P a w next Q := by
  obtain ⟨K, A, H, E1, S, hd⟩ := hok
  unfold step1 at hs
  split at hs
  · rename_i r hr
    obtain ⟨hc, hs⟩ := need_val hs
    rw [nextSt_eq] at hs
    cases hs
    exact oper_R B.toBase H S hr hc fun v w' K' A' H' X' S' => hk _ _ ⟨K', A', H', E1.trans X', (S.ext X').put S', by rw [put_defers]; exact hd.mono X'.kk⟩
  · exact stepY_R B hs ⟨K, A, H, E1, S, hd⟩ hk
theorem St.ok.know (hok : σ.ok C X a w) {d : Nat} {b : Bool} (hd : σ.t.at d = some (.av (.one (.dat .bool b)))) : St.ok C X { t := putSlot σ.t (some d) (one (.kb b)), h := σ.h } a w := by
  obtain ⟨K, A, H, E1, S, hde⟩ := hok
  exact ⟨K, A, H, E1, S.set fun _ => bool_R (w := w) (K := K) (A := A) (h := σ.h) (S.at_ d _ hd), hde⟩
theorem yielded_of {ops : Array Oper} {j d : Nat} {b : Bool} (hg : guardSlot ops.toList j = some d) (hlt : d < a.tmps.size) (hv : a.tmps.getD d undef = .bool b) : yielded ops a.tmps j = some b := by
  unfold guardSlot at hg
  rw [nth_eq] at hg
  unfold yielded
  cases ho : ops[j]? with
  | none =>
    have : ops.toList[j]? = none := by simpa using ho
    rw [this] at hg
    cases hg
  | some o =>
    have : ops.toList[j]? = some o := by simpa using ho
    rw [this] at hg
    simp only [] at hg
    have h2 : a.tmps[d]? = some (.bool b) := by
      simp [Array.getD, hlt] at hv
      rw [Array.getElem?_eq_getElem hlt, hv]
    simp only [Option.bind_some, hg, h2]
theorem yielded_hole {ops : Array Oper} {j d : Nat} (hg : guardSlot ops.toList j = some d) (hlt : d < a.tmps.size) (hv : a.tmps.getD d undef = undef) : yielded ops a.tmps j = none := by
  unfold guardSlot at hg
  rw [nth_eq] at hg
  unfold yielded
  cases ho : ops[j]? with
  | none =>
    have : ops.toList[j]? = none := by simpa using ho
    rw [this] at hg
    cases hg
  | some o =>
    have : ops.toList[j]? = some o := by simpa using ho
    rw [this] at hg
    simp only [] at hg
    have h2 : a.tmps[d]? = some undef := by
      simp [Array.getD, hlt] at hv
      rw [Array.getElem?_eq_getElem hlt, hv]
    simp only [Option.bind_some, hg, h2]
    rfl
theorem St.ok.slot (hok : σ.ok C X a w) {d : Nat} {s : Slot} (hd : σ.t.at d = some s) : d < a.tmps.size ∧ ∃ K A, SlotR w K A σ.h s (a.tmps.getD d undef) := by
  obtain ⟨K, A, H, E1, S, hde⟩ := hok
  refine ⟨?_, K, A, S.at_ d s hd⟩
  rw [← S.len]
  exact (Tms.at_some.1 hd).1
theorem St.ok.skip (hok : σ.ok C X a w) (d : Option Tmp) : St.ok C X { t := putSlot σ.t d holeS, h := σ.h } (a.put d undef) w := by
  obtain ⟨K, A, H, E1, S, hde⟩ := hok
  exact ⟨K, A, H, E1, S.put (s := holeS) rfl, by rw [put_defers]; exact hde⟩
theorem step_R (B : BaseY F P C X) {ops : Array Oper} {o : Oper} {next : Act → World → Prop} (hs : (step C.E ops.toList o σ).val = some σ') (hok : σ.ok C X a w)
    (hk : ∀ a' w', σ'.ok C X a' w' → next a' w') :
    if Region.wanted o (yielded ops a.tmps) then o.wpIn F n P a w next Q else (∀ f, o.about P w a.eval = some f → F.fn f) ∧ next (a.put o.dst undef) w := by
  unfold step at hs
  cases hg : o.guard with
  | none =>
    have : Region.wanted o (yielded ops a.tmps) = true := by unfold Region.wanted; rw [hg]
    rw [if_pos this]
    simp only [hg] at hs
    exact step1_R B hs hok hk
  | some p =>
    obtain ⟨j, want⟩ := p
    simp only [hg] at hs
    cases hgs : guardSlot ops.toList j with
    | none => simp only [hgs] at hs; cases hs
    | some d =>
      simp only [hgs] at hs
      have main : ∀ (b : Bool) (σ1 : St), σ1.ok C X a w → d < a.tmps.size → a.tmps.getD d undef = .bool b → (bif bxor b want then skipped o σ1 else step1 C.E o σ1).val = some σ' →
          if Region.wanted o (yielded ops a.tmps) then o.wpIn F n P a w next Q else (∀ f, o.about P w a.eval = some f → F.fn f) ∧ next (a.put o.dst undef) w := by
        intro b σ1 hok1 hlt hv hs1
        have hy := yielded_of hgs hlt hv
        have hw : Region.wanted o (yielded ops a.tmps) = Bool.not (bxor b want) := by
          unfold Region.wanted
          simp only [hg, hy]
          cases b <;> cases want <;> rfl
        rw [hw]
        cases hbx : bxor b want with
        | true =>
          rw [hbx] at hs1
          simp only [cond_true, skipped, nextSt_eq, Tr.val, Option.some.injEq] at hs1
          subst hs1
          exact ⟨fun f _ => B.op.fn f, hk _ _ (hok1.skip o.dst)⟩
        | false =>
          rw [hbx] at hs1
          exact step1_R B hs1 hok1 hk
      split at hs
      · rename_i b hb
        obtain ⟨hlt, K, A, hS⟩ := hok.slot hb
        exact main b σ hok hlt hS hs
      · rename_i hb
        obtain ⟨hlt, K, A, hS⟩ := hok.slot hb
        have hy := yielded_hole hgs hlt hS
        have hw : Region.wanted o (yielded ops a.tmps) = false := by
          unfold Region.wanted
          simp only [hg, hy]
          cases want <;> rfl
        rw [hw]
        simp only [skipped, nextSt_eq, Tr.val, Option.some.injEq] at hs
        subst hs
        exact ⟨fun f _ => B.op.fn f, hk _ _ (hok.skip o.dst)⟩
      · rename_i b hb
        obtain ⟨hlt, K, A, hS⟩ := hok.slot hb
        have hS := bool_R (w := w) (K := K) (A := A) (h := σ.h) hS
        have hok1 := hok.know hb
        simp only [Tr.val, nextSt_eq] at hs
        cases b with
        | true =>
          refine main true _ hok1 hlt hS ?_
          cases want <;> exact hs
        | false =>
          refine main false _ hok1 hlt hS ?_
          cases want <;> exact hs
      · cases hs
theorem steps_R (B : BaseY F P C X) {ops : Array Oper} : ∀ {l : List Oper} {σ σ' : St} {a : Act} {w : World}, (steps C.E ops.toList l σ).val = some σ' → σ.ok C X a w →
    (∀ a' w', σ'.ok C X a' w' → Q .normal a' w') → wpListIn F n P ops Q l a w
  | [], σ, σ', a, w, hs, hok, hk => by
    cases hs
    exact hk a w hok
  | o :: l, σ, σ', a, w, hs, hok, hk => by
    simp only [steps, val_bind, Option.bind_eq_some_iff] at hs
    obtain ⟨σ1, h1, h2⟩ := hs
    exact step_R B h1 hok fun a' w' hok' => steps_R B h2 hok' hk
end
end Go.Ev
end
section
set_option linter.unusedVariables false
namespace Go.Ev
open Go.RowKit
theorem Leaf.ren_id (l : Leaf) : l.ren (fun x => x) = l := by cases l <;> simp [Leaf.ren]
theorem Blk.ren_id (b : Blk) : b.ren (fun x => x) = b := by
  cases b <;> simp [Blk.ren, show (Leaf.ren fun x => x) = id from funext Leaf.ren_id]
def updG (g : Nat → Option Blk) : List (Nat × Blk) → Nat → Option Blk
  | [] => g
  | (k, b) :: u => updG (fun id => if id = k then some b else g id) u
theorem sets_get : ∀ (u : List (Nat × Blk)) (h : Heap), (h.sets u).get = updG h.get u
  | [], h => rfl
  | (k, b) :: u, h => by
    simp only [Heap.sets, updG]
    rw [sets_get u (h.set k b)]
    congr 1
    funext id
    exact Heap.get_set h k b id
theorem updG_out : ∀ {u : List (Nat × Blk)} {g : Nat → Option Blk} {id : Nat}, id ∉ keysOf u → updG g u id = g id
  | [], g, id, _ => rfl
  | (k, b) :: u, g, id, h => by
    simp only [keysOf, List.mem_cons, not_or] at h
    simp only [updG]
    rw [updG_out h.2, if_neg h.1]
theorem updG_in : ∀ {u : List (Nat × Blk)} {g g' : Nat → Option Blk} {id : Nat}, id ∈ keysOf u → updG g u id = updG g' u id ∧ (updG g u id).isSome = true
  | [], g, g', id, h => by simp [keysOf] at h
  | (k, b) :: u, g, g', id, h => by
    simp only [updG]
    by_cases hu : id ∈ keysOf u
    · exact updG_in hu
    · have : id = k := by
        simp only [keysOf, List.mem_cons] at h
        exact h.resolve_right hu
      rw [updG_out hu, updG_out hu, if_pos this, if_pos this]
      exact ⟨rfl, rfl⟩
theorem updG_congr {u : List (Nat × Blk)} {g g' : Nat → Option Blk} {id : Nat} (h : id ∉ keysOf u → g id = g' id) : updG g u id = updG g' u id := by
  by_cases hu : id ∈ keysOf u
  · exact (updG_in hu).1
  · rw [updG_out hu, updG_out hu, h hu]
theorem updG_comm {u v : List (Nat × Blk)} {g : Nat → Option Blk} (h : ∀ id, id ∈ keysOf u → id ∉ keysOf v) : updG (updG g u) v = updG (updG g v) u := by
  funext id
  by_cases hu : id ∈ keysOf u
  · have hv := h id hu
    rw [updG_out hv]
    exact (updG_in hu).1
  · rw [updG_out (u := u) hu]
    exact updG_congr fun _ => updG_out hu
theorem okNew_iff {g : Nat → Option Blk} {ids : List Nat} : ∀ {u : List (Nat × Blk)}, okNew g ids u = true ↔ ∀ k ∈ keysOf u, k ∈ ids ∨ g k = none
  | [] => by simp [okNew, keysOf]
  | p :: u => by
    simp only [okNew, keysOf, List.mem_cons, forall_eq_or_imp]
    cases hm : memN p.1 ids with
    | true => simp [memN_iff.1 hm, okNew_iff (u := u)]
    | false =>
      have hn : ¬ p.1 ∈ ids := fun h => by rw [memN_iff.2 h] at hm; cases hm
      cases hg : g p.1 with
      | none => simp [okNew_iff (u := u)]
      | some b => simp [hn]
theorem disj_iff {m : List Nat} : ∀ {l : List Nat}, disj l m = true ↔ ∀ a ∈ l, a ∉ m
  | [] => by simp [disj]
  | a :: l => by
    simp only [disj, List.mem_cons, forall_eq_or_imp]
    cases hm : memN a m with
    | true => simp [memN_iff.1 hm]
    | false =>
      have hn : ¬ a ∈ m := fun h => by rw [memN_iff.2 h] at hm; cases hm
      simp [hn, disj_iff (l := l)]
theorem reachO_spec {g g' : Nat → Option Blk} : ∀ {n : Nat} {todo seen L : List Nat}, reachO g n todo seen = some L → (∀ id ∈ seen, id ∈ L) ∧ ((∀ id ∈ L, g' id = g id) → reachO g' n todo seen = some L)
  | 0, _, _, _, h => by simp [reachO] at h
  | n + 1, [], seen, L, h => by
    simp only [reachO, Option.some.injEq] at h ⊢
    subst h
    exact ⟨fun _ h => h, fun _ => rfl⟩
  | n + 1, id :: todo, seen, L, h => by
    simp only [reachO] at h ⊢
    cases hm : memN id seen with
    | true =>
      rw [hm] at h
      exact reachO_spec (n := n) h
    | false =>
      rw [hm] at h
      simp only [cond_false] at h ⊢
      cases hg : g id with
      | none => rw [hg] at h; cases h
      | some b =>
        rw [hg] at h
        obtain ⟨h1, h2⟩ := reachO_spec (n := n) h
        refine ⟨fun i hi => h1 i (by rw [app_eq]; exact List.mem_append_left _ hi), fun hag => ?_⟩
        have hid : id ∈ L := h1 id (by rw [app_eq]; simp)
        rw [hag id hid, hg]
        exact h2 hag
theorem blksO_spec {g g' : Nat → Option Blk} : ∀ {ids : List Nat} {bs : List Blk}, blksO g ids = some bs →
    ((∀ id ∈ ids, g' id = g id) → blksO g' ids = some bs) ∧ bs.length = ids.length ∧ ∀ (j id : Nat), ids[j]? = some id → g id = bs[j]? ∧ (g id).isSome = true
  | [], bs, h => by
    simp only [blksO, Option.some.injEq] at h
    subst h
    exact ⟨fun _ => rfl, rfl, fun j id hj => by simp at hj⟩
  | id :: ids, bs, h => by
    simp only [blksO] at h
    split at h
    · rename_i b hg
      split at h
      · rename_i bs' hb
        cases h
        obtain ⟨h1, h2, h3⟩ := blksO_spec hb
        refine ⟨fun hag => ?_, by simp [h2], fun j i hj => ?_⟩
        · simp only [blksO]
          rw [hag id (by simp), hg, h1 (fun i hi => hag i (by simp [hi]))]
        · cases j with
          | zero => simp at hj; subst hj; simp [hg]
          | succ j => simpa using h3 j i (by simpa using hj)
      · cases h
    · cases h
def RunsTo (E : Env) (ops : List Oper) (o : Oper) (ρ : Rec) (t : Tms) (g : Nat → Option Blk) : Prop :=
  (runD E ops o t g).val = some ρ ∧ okNew g ρ.ids ρ.u = true
theorem splitD_val {b : Bool} {ρ ρ' : Rec} (h : (splitD b ρ).val = some ρ') : ρ'.u = ρ.u ∧ ρ'.ids = ρ.ids ∧ (ρ'.v = ρ.v ∨ ∃ x, ρ.v = one (.dat .bool x) ∧ ρ'.v = one (.kb x)) := by
  unfold splitD at h
  split at h
  · rename_i x hv
    simp only [Tr.val] at h
    cases x <;> cases h
    · exact ⟨rfl, rfl, .inr ⟨false, hv, rfl⟩⟩
    · exact ⟨rfl, rfl, .inr ⟨true, hv, rfl⟩⟩
  · cases h
    exact ⟨rfl, rfl, .inl rfl⟩
theorem runD_true {E : Env} {ops : List Oper} {o : Oper} {t : Tms} {g : Nat → Option Blk} {ρ : Rec} (h : (runD E ops o t g).val = some ρ) (hw : wantD ops (t.keep (looks ops o)) o = some true) (hp : ptrOp E (t.keep (looks ops o)) o = none) :
    ∃ bs r, reachO g 100 ((t.keep (looks ops o)).ids (looks ops o)) [] = some ρ.ids ∧ blksO g ρ.ids = some bs ∧ ρ.ids.Nodup ∧
      (∀ id ∈ (t.keep (looks ops o)).ids (looks ops o), id ∈ ρ.ids) ∧ (∀ id ∈ flat Blk.ids bs, id ∈ ρ.ids) ∧ opRun E { t := t.keep (looks ops o), h := zipK ρ.ids bs } o = some r ∧
      r.c ≠ some false ∧ ρ.u = r.u ∧ (ρ.v = r.v ∨ ∃ x, r.v = one (.dat .bool x) ∧ ρ.v = one (.kb x)) := by
  unfold runD at h
  simp only [hw, hp] at h
  split at h
  · rename_i ids hids
    split at h
    · rename_i bs hbs
      cases hck : (nodupN ids && (subN ((t.keep (looks ops o)).ids (looks ops o)) ids && subN (flat Blk.ids bs) ids)) with
      | false => rw [hck] at h; cases h
      | true =>
        rw [hck] at h
        simp only [cond_true] at h
        simp only [Bool.and_eq_true] at hck
        obtain ⟨h1, h2, h3⟩ := hck
        split at h
        · rename_i r hr
          rw [val_bind, Option.bind_eq_some_iff] at h
          obtain ⟨ρ0, h4, h5⟩ := h
          obtain ⟨hc, h4⟩ := need_val h4
          cases h4
          obtain ⟨e1, e2, e3⟩ := splitD_val h5
          simp only [] at e1 e2 e3
          rw [e2]
          exact ⟨bs, r, hids, hbs, nodupN_iff.1 h1, subN_iff.1 h2, subN_iff.1 h3, hr, hc, e1, e3⟩
        · cases h
    · cases h
  · cases h
theorem runD_congr {E : Env} {ops : List Oper} {o : Oper} {t t' : Tms} {g g' : Nat → Option Blk} {ρ : Rec} (h : (runD E ops o t g).val = some ρ)
    (hm : t'.keep (looks ops o) = t.keep (looks ops o)) (hg : ∀ id ∈ ρ.ids, g' id = g id) : (runD E ops o t' g').val = some ρ := by
  cases hw : wantD ops (t.keep (looks ops o)) o with
  | none => unfold runD at h; simp only [hw] at h; cases h
  | some b =>
    cases b with
    | false =>
      unfold runD at h ⊢
      simp only [hm, hw] at h ⊢
      exact h
    | true =>
      cases hp : ptrOp E (t.keep (looks ops o)) o with
      | some v =>
        unfold runD at h ⊢
        simp only [hm, hw, hp] at h ⊢
        exact h
      | none =>
      obtain ⟨bs, r, h1, h2, _⟩ := runD_true h hw hp
      have h1' := (reachO_spec (g' := g') h1).2 hg
      have h2' := (blksO_spec (g' := g') h2).1 hg
      unfold runD at h ⊢
      simp only [hm, hw, hp, h1, h2, h1', h2'] at h ⊢
      exact h
section
variable {P : Program} {F : Fence} {n : Nat} {C : Ctx} {X : Start}
theorem LeafR.part {w : World} {K : KSet} {A A' : Asg} {h h' : Heap} {l : Leaf} {v : Value} (hh : ∀ id ∈ l.ids, Ev.has h id → h'.get id = h.get id ∧ A'.m id = A.m id ∧ A'.hd id = A.hd id) (H : LeafR w K A h l v) : LeafR w K A' h' l v := by
  have hs : ∀ id ∈ l.ids, Ev.has h id → Ev.has h' id := fun id hi hx => by unfold Ev.has at hx ⊢; rw [(hh id hi hx).1]; exact hx
  cases l with
  | row id =>
    obtain ⟨a, b, c⟩ := H
    exact ⟨hs id (by simp [Leaf.ids]) a, by rw [(hh id (by simp [Leaf.ids]) a).2.2]; exact b, c⟩
  | ptr id off =>
    obtain ⟨a, b⟩ := H
    exact ⟨hs id (by simp [Leaf.ids]) a, by rw [(hh id (by simp [Leaf.ids]) a).2.1]; exact b⟩
  | vw id sz lo n =>
    obtain ⟨a, b, b', p, c, e', f', g⟩ := H
    have h3 := hh id (by simp [Leaf.ids]) a
    exact ⟨hs id (by simp [Leaf.ids]) a, b, b', p, c, e', f', by rw [h3.2.1, h3.2.2]; exact g⟩
  | eptr id i off =>
    obtain ⟨a, b, c⟩ := H
    have h3 := hh id (by simp [Leaf.ids]) a
    refine ⟨hs id (by simp [Leaf.ids]) a, fun e k xs hg => ?_, fun k xs hg => ?_⟩
    · rw [h3.2.1]; exact b e k xs (by rw [← h3.1]; exact hg)
    · rw [h3.2.1]; exact c k xs (by rw [← h3.1]; exact hg)
  | fn f caps =>
    obtain ⟨a, b⟩ := H
    refine ⟨fun id hi => hs id hi (a id hi), ?_⟩
    rw [b]
    congr 2
    exact List.map_congr_left fun id hi => by rw [(hh id hi (a id hi)).2.1]
  | yld id =>
    obtain ⟨a, b⟩ := H
    exact ⟨hs id (by simp [Leaf.ids]) a, by rw [(hh id (by simp [Leaf.ids]) a).2.1]; exact b⟩
  | optp id u =>
    obtain ⟨a, b⟩ := H
    exact ⟨hs id (by simp [Leaf.ids]) a, by rw [(hh id (by simp [Leaf.ids]) a).2.1]; exact b⟩
  | srow id =>
    obtain ⟨⟨a, b, c⟩, s⟩ := H
    exact ⟨⟨hs id (by simp [Leaf.ids]) a, by rw [(hh id (by simp [Leaf.ids]) a).2.2]; exact b, c⟩, s⟩
  | sd id =>
    obtain ⟨a, p, b, g⟩ := H
    obtain ⟨_, e, f⟩ := hh id (by simp [Leaf.ids]) a
    exact ⟨hs id (by simp [Leaf.ids]) a, p, b, by rw [e, f]; exact g⟩
  | room id =>
    obtain ⟨a, n, c, g, b⟩ := H
    obtain ⟨_, e, f⟩ := hh id (by simp [Leaf.ids]) a
    exact ⟨hs id (by simp [Leaf.ids]) a, n, c, by rw [e, f]; exact g, by rw [e]; exact b⟩
  | _ => exact H
theorem All2.mapR {α β : Type} {R S : α → β → Prop} : ∀ {l : List α} {m : List β}, All2 R l m → (∀ a ∈ l, ∀ b, R a b → S a b) → All2 S l m
  | _, _, .nil, _ => .nil
  | _, _, .cons r H, h => .cons (h _ (by simp) _ r) (H.mapR fun a ha b hr => h a (by simp [ha]) b hr)
theorem AVR.part {w : World} {K : KSet} {A A' : Asg} {h h' : Heap} {l : AV} {v : Value} (hh : ∀ id ∈ l.ids, Ev.has h id → h'.get id = h.get id ∧ A'.m id = A.m id ∧ A'.hd id = A.hd id) (H : AVR w K A h l v) : AVR w K A' h' l v := by
  cases l with
  | one l => exact LeafR.part (l := l) (fun id hi => hh id (by simp [AV.ids, AV.leafs, flat, app_eq, hi])) H
  | agg ls =>
    obtain ⟨cs, e, H⟩ := H
    exact ⟨cs, e, H.mapR fun l hl v h0 => LeafR.part (fun id hi => hh id (mem_flat.2 ⟨l, hl, hi⟩)) h0⟩
theorem SlotR.part {w : World} {K : KSet} {A A' : Asg} {h h' : Heap} {s : Slot} {v : Value} (hh : ∀ id ∈ s.ids, Ev.has h id → h'.get id = h.get id ∧ A'.m id = A.m id ∧ A'.hd id = A.hd id) (H : SlotR w K A h s v) : SlotR w K A' h' s v := by
  cases s with
  | av l => exact AVR.part (l := l) hh H
  | tup xs =>
    obtain ⟨vs, e, H⟩ := H
    exact ⟨vs, e, H.mapR fun l hl v h0 => AVR.part (fun id hi => hh id (mem_flat.2 ⟨l, hl, hi⟩)) h0⟩
def okG (C : Ctx) (X : Start) (t : Tms) (g : Nat → Option Blk) (a : Act) (w : World) : Prop := ∃ h : Heap, h.get = g ∧ St.ok C X { t := t, h := h } a w
theorem opnd_keep {E : Env} {t : Tms} {live : List Nat} {x : Operand} {h h' : Heap} {s : Slot} (hs : opnd E { t := t.keep live, h := h } x = some s) (hu : s ≠ undefS) : opnd E { t := t, h := h' } x = some s := by
  cases x with
  | tmp d =>
    rcases Tms.keep_at (show (t.keep live).at d = some s from hs) with h0 | ⟨_, h0⟩
    · exact absurd h0 hu
    · exact h0
  | const v => exact hs
  | global g => exact hs
  | func f => exact hs
theorem ptrOp_run {E : Env} {t : Tms} {live : List Nat} {o : Oper} {h : Heap} {v : Slot} (hp : ptrOp E (t.keep live) o = some v) : opRun E { t := t, h := h } o = some { v := v } := by
  unfold ptrOp at hp
  split at hp
  · rename_i ty x f hop
    split at hp
    · rename_i tyi hty
      split at hp
      · rename_i id off hl
        split at hp
        · rename_i l hf
          cases hp
          have hl' : opLeaf E { t := t, h := h } x = some (.ptr id off) := by
            unfold opLeaf at hl ⊢
            split at hl
            · rename_i l0 ho
              cases hl
              rw [opnd_keep ho (fun e => by cases e)]
            · cases hl
          have hf' : fieldAddrR tyi h (.ptr id off) f = some l := hf
          unfold opRun
          simp only [hop, hty, hl', hf', orL]
        · cases hp
      · cases hp
    · cases hp
  · rename_i x hop
    split at hp
    · rename_i id off ho
      cases hp
      unfold opRun
      simp only [hop, opnd_keep ho (fun e => by cases e)]
    · rename_i id ho
      cases hp
      unfold opRun
      simp only [hop, opnd_keep ho (fun e => by cases e)]
    · cases hp
  · cases hp
theorem runD_R (B : Base F P C.E) {ops : Array Oper} {o : Oper} {ρ : Rec} {t : Tms} {g : Nat → Option Blk} {a : Act} {w : World} {next : Act → World → Prop} {Q : Exit → Act → World → Prop}
    (hr : RunsTo C.E ops.toList o ρ t g) (hok : okG C X t g a w) (hk : ∀ a' w', okG C X (putSlot t o.dst ρ.v) (updG g ρ.u) a' w' → next a' w') :
    if Region.wanted o (yielded ops a.tmps) then o.wpIn F n P a w next Q else (∀ f, o.about P w a.eval = some f → F.fn f) ∧ next (a.put o.dst undef) w := by
  obtain ⟨hrun, hnew⟩ := hr
  obtain ⟨h, hg, hok⟩ := hok
  have hnew := okNew_iff.1 hnew
  have wanted : ∀ b, wantD ops.toList (t.keep (looks ops.toList o)) o = some b → Region.wanted o (yielded ops a.tmps) = b := by
    intro b hw
    unfold wantD at hw
    unfold Region.wanted
    cases hgu : o.guard with
    | none => simp only [hgu, Option.some.injEq] at hw; rw [hw]
    | some p =>
      obtain ⟨j, want⟩ := p
      simp only [hgu] at hw
      cases hgs : guardSlot ops.toList j with
      | none => simp only [hgs] at hw; cases hw
      | some d =>
        simp only [hgs] at hw
        split at hw
        · rename_i x hx
          rcases Tms.keep_at hx with h0 | ⟨_, h0⟩
          · cases h0
          · obtain ⟨hlt, K, A, hS⟩ := hok.slot h0
            have hy := yielded_of hgs hlt hS
            simp only [Option.some.injEq] at hw
            simp only [hy]
            rw [← hw]
            cases x <;> cases want <;> rfl
        · rename_i hx
          rcases Tms.keep_at hx with h0 | ⟨_, h0⟩
          · cases h0
          · obtain ⟨hlt, K, A, hS⟩ := hok.slot h0
            have hy := yielded_hole hgs hlt hS
            simp only [Option.some.injEq] at hw
            simp only [hy]
            rw [← hw]
            cases want <;> rfl
        · cases hw
  cases hw : wantD ops.toList (t.keep (looks ops.toList o)) o with
  | none => unfold runD at hrun; simp only [hw] at hrun; cases hrun
  | some b =>
    rw [wanted b hw]
    cases b with
    | false =>
      unfold runD at hrun
      simp only [hw, Tr.val, Option.some.injEq] at hrun
      subst hrun
      exact ⟨fun f _ => B.op.fn f, hk _ _ ⟨h, hg, hok.skip o.dst⟩⟩
    | true =>
      cases hp : ptrOp C.E (t.keep (looks ops.toList o)) o with
      | some v =>
        unfold runD at hrun
        simp only [hw, hp, Tr.val, Option.some.injEq] at hrun
        subst hrun
        obtain ⟨K, A, H, E1, S, hd⟩ := hok
        simp only [] at H E1 S
        have hop := ptrOp_run (h := h) hp
        have := oper_R (σ := { t := t, h := h }) (next := next) (Q := Q) (n := n) B H S hop (by simp) fun v' w' K' A' H' X' S' => hk _ _ ⟨h, by rw [hg]; rfl, K', A', H', E1.trans X', (S.ext X').put S', by rw [put_defers]; exact hd.mono X'.kk⟩
        exact this
      | none =>
      obtain ⟨bs, r, h1, h2, hnd, hs1, hs2, hop, hc, hu, hv⟩ := runD_true hrun hw hp
      obtain ⟨-, hbl, hbg⟩ := blksO_spec (g' := g) h2
      obtain ⟨K, A, H, E1, S, hd⟩ := hok
      simp only [] at H E1 S
      subst hg
      have hcget : ∀ id, Heap.get (zipK ρ.ids bs) id = if id ∈ ρ.ids then h.get id else none := fun id => by
        obtain ⟨z1, z2⟩ := get_zipK (h := []) hnd hbl
        have e : ∀ (ids : List Nat) (bs : List Blk) (h0 : Heap), ids.Nodup → (∀ i ∈ ids, h0.get i = none) → (h0.sets (zipK ids bs)).get = updG h0.get (zipK ids bs) := fun _ _ _ _ _ => sets_get _ _
        have lk : ∀ (ids : List Nat) (bs : List Blk), ids.Nodup → bs.length = ids.length → (∀ (j i : Nat), ids[j]? = some i → Heap.get (zipK ids bs) i = bs[j]?) ∧ ∀ i, i ∉ ids → Heap.get (zipK ids bs) i = none := by
          intro ids
          induction ids with
          | nil => intro bs _ _; exact ⟨fun j i hj => by simp at hj, fun i _ => by cases bs <;> rfl⟩
          | cons k ids ih =>
            intro bs hn hl
            cases bs with
            | nil => simp at hl
            | cons b bs =>
              have hn := List.nodup_cons.1 hn
              obtain ⟨i1, i2⟩ := ih bs hn.2 (by simpa using hl)
              refine ⟨fun j i hj => ?_, fun i hi => ?_⟩
              · cases j with
                | zero => simp at hj; subst hj; simp [zipK, Heap.get]
                | succ j =>
                  have hj' : ids[j]? = some i := by simpa using hj
                  have hne : k ≠ i := fun e => hn.1 (e ▸ List.mem_of_getElem? hj')
                  simp only [zipK, Heap.get, beq_ne hne, cond_false]
                  simpa using i1 j i hj'
              · simp only [List.mem_cons, not_or] at hi
                simp only [zipK, Heap.get, beq_ne (fun e => hi.1 e.symm), cond_false]
                exact i2 i hi.2
        obtain ⟨l1, l2⟩ := lk ρ.ids bs hnd hbl
        by_cases hi : id ∈ ρ.ids
        · rw [if_pos hi, l1 _ _ (toPos_spec hi)]
          exact (hbg _ _ (toPos_spec hi)).1.symm
        · rw [if_neg hi]
          exact l2 id hi
      have hclosed : ∀ id b, id ∈ ρ.ids → h.get id = some b → ∀ i ∈ b.ids, i ∈ ρ.ids := fun id b hi hb i hib => by
        have := hbg _ _ (toPos_spec hi)
        rw [hb] at this
        exact hs2 i (mem_flat.2 ⟨b, List.mem_of_getElem? this.1.symm, hib⟩)
      have hchas : ∀ id, Ev.has (zipK ρ.ids bs) id → id ∈ ρ.ids := fun id hh => by
        unfold Ev.has at hh
        rw [hcget] at hh
        split at hh
        · assumption
        · cases hh
      have sub : Sub (· ∈ ρ.ids) A h (fun x => x) A (zipK ρ.ids bs) := by
        refine ⟨⟨fun id hi hh => ⟨?_, rfl, rfl⟩⟩, fun j b hb => ?_, fun id b hi hb => ?_, fun id id' _ _ e => e⟩
        · unfold Ev.has at hh ⊢
          rw [hcget, if_pos hi]
          exact hh
        · have hj := hchas j (has_of_get hb)
          rw [hcget, if_pos hj] at hb
          exact ⟨j, b, hj, rfl, hb, (Blk.ren_id b).symm, hclosed j b hj hb⟩
        · rw [hcget, if_pos hi, hb, Blk.ren_id]
      have Hs := H.sub sub
      have Ss : SlotsR w K A (zipK ρ.ids bs) (t.keep (looks ops.toList o)) a := by
        refine ⟨S.len, fun i s hi => ?_⟩
        rcases Tms.keep_at hi with rfl | ⟨hil, h0⟩
        · trivial
        · refine SlotR.part (fun id hid _ => ⟨?_, rfl, rfl⟩) (S.at_ i s h0)
          rw [hcget, if_pos (hs1 id (ids_at hil (Tms.at_some.1 hi).2 id hid))]
      show o.wpIn F n P a w next Q
      have B' : Base F P (Ctx.call C.E w K A (zipK ρ.ids bs)).E := B
      refine oper_R (C := Ctx.call C.E w K A (zipK ρ.ids bs)) (σ := { t := t.keep (looks ops.toList o), h := zipK ρ.ids bs }) B' Hs Ss hop hc fun v w' K' A' H' X' S' => ?_
      simp only [] at H' X' S'
      rw [hu] at hnew
      let A2 : Asg := { m := fun id => if id ∈ ρ.ids ∨ id ∈ keysOf r.u then A'.m id else A.m id, hd := fun id => if id ∈ ρ.ids ∨ id ∈ keysOf r.u then A'.hd id else A.hd id }
      have cin : ∀ id, (id ∈ ρ.ids ∨ id ∈ keysOf r.u) → ((h.sets r.u).get id = (Heap.sets (zipK ρ.ids bs) r.u).get id) := fun id hi => by
        rw [sets_get, sets_get]
        refine updG_congr fun hn => ?_
        rw [hcget, if_pos (hi.resolve_right hn)]
      have chas : ∀ id, Ev.has (Heap.sets (zipK ρ.ids bs) r.u) id → id ∈ ρ.ids ∨ id ∈ keysOf r.u := fun id hh => by
        by_cases hn : id ∈ keysOf r.u
        · exact .inr hn
        · left
          unfold Ev.has at hh
          rw [sets_get, updG_out hn] at hh
          exact hchas id hh
      have cout : ∀ id, ¬ (id ∈ ρ.ids ∨ id ∈ keysOf r.u) → (h.sets r.u).get id = h.get id := fun id hi => by
        rw [sets_get, updG_out (fun hn => hi (.inr hn))]
      have jn : Join (· ∈ ρ.ids) A h (fun x => x) (fun x => x) A' (Heap.sets (zipK ρ.ids bs) r.u) A2 (h.sets r.u) := by
        refine ⟨⟨fun j _ hj => ?_⟩, fun id b hb => ?_, fun j b hb => ?_, fun j j' _ _ e => e, fun id _ => rfl, fun id hi hh j hj e => ?_, fun id hh => ?_⟩
        · have hc1 := chas j hj
          refine ⟨?_, if_pos hc1, if_pos hc1⟩
          unfold Ev.has at hj ⊢
          rw [cin j hc1]
          exact hj
        · by_cases hi : id ∈ ρ.ids ∨ id ∈ keysOf r.u
          · exact .inl ⟨id, b, by rw [← cin id hi]; exact hb, rfl, (Blk.ren_id b).symm⟩
          · exact .inr ⟨fun h => hi (.inl h), by rw [← cout id hi]; exact hb⟩
        · rw [cin j (chas j (has_of_get hb)), hb, Blk.ren_id]
        · have e : j = id := e
          subst e
          rcases chas j hj with h3 | h3
          · exact hi h3
          · rcases hnew j h3 with h4 | h4
            · exact hi h4
            · unfold Ev.has at hh
              rw [h4] at hh
              cases hh
        · by_cases hi : id ∈ ρ.ids
          · have hci : Ev.has (zipK ρ.ids bs) id := by
              unfold Ev.has at hh ⊢
              rw [hcget, if_pos hi]
              exact hh
            have hx := X'.hh id hci
            refine ⟨?_, ?_, ?_⟩
            · unfold Ev.has
              rw [cin id (.inl hi)]
              exact hx.1
            · show (if _ then A'.m id else _) = _
              rw [if_pos (.inl hi)]
              exact hx.2.1
            · show (if _ then A'.hd id else _) = _
              rw [if_pos (.inl hi)]
              exact hx.2.2
          · have hk2 : id ∉ keysOf r.u := fun h3 => by
              rcases hnew id h3 with h4 | h4
              · exact hi h4
              · unfold Ev.has at hh
                rw [h4] at hh
                cases hh
            have hno : ¬ (id ∈ ρ.ids ∨ id ∈ keysOf r.u) := fun h => h.elim hi hk2
            refine ⟨?_, if_neg hno, if_neg hno⟩
            unfold Ev.has at hh ⊢
            rw [cout id hno]
            exact hh
      obtain ⟨H2, X2⟩ := H.join sub H' X' jn
      refine hk _ _ ⟨h.sets r.u, by rw [sets_get, hu], K', A2, H2, E1.trans X2, ?_, by rw [put_defers]; exact hd.mono X2.kk⟩
      refine (S.ext X2).put ?_
      have S2 : SlotR w' K' A2 (h.sets r.u) r.v v := SlotR.part (fun id hid hh => by
        have hc1 := chas id hh
        exact ⟨cin id hc1, if_pos hc1, if_pos hc1⟩) S'
      rcases hv with hv | ⟨x, hx, hv⟩
      · rw [hv]; exact S2
      · rw [hv]
        rw [hx] at S2
        exact bool_R (w := w') (K := K') (A := A2) (h := h.sets r.u) S2
end
end Go.Ev
end
section
set_option linter.unusedVariables false
namespace Go.Ev
open Go.RowKit
theorem mem_waits {i : Nat} : ∀ {l : List Edge}, i ∈ waits l ↔ ∃ e ∈ l, binds e = true ∧ e.on = i
  | [] => by simp [waits]
  | e :: l => by
    simp only [waits]
    cases hb : binds e with
    | true =>
      simp only [cond_true, List.mem_cons, mem_waits (l := l), exists_eq_or_imp, hb, true_and]
      exact or_congr_left ⟨fun h => h.symm, fun h => h.symm⟩
    | false => simp [hb, mem_waits (l := l)]
theorem binds_eq (e : Edge) : Region.binds .any e = binds e := by
  unfold Region.binds binds
  cases e.ground <;> first | rfl | decide
theorem allLt_iff {k : Nat} : ∀ {l : List Nat}, allLt k l = true ↔ ∀ a ∈ l, a < k
  | [] => by simp [allLt]
  | a :: l => by
    simp only [allLt, List.mem_cons, forall_eq_or_imp]
    cases hb : Nat.blt a k with
    | true =>
      have : a < k := Nat.le_of_ble_eq_true hb
      simp [this, allLt_iff (l := l)]
    | false =>
      have : ¬ a < k := fun h => by
        have := Nat.ble_eq_true_of_le h
        rw [show Nat.ble (a + 1) k = Nat.blt a k from rfl, hb] at this
        cases this
      simp [this]
structure Apart (ops : List Oper) (o : Oper) (ρ : Rec) (o' : Oper) (ρ' : Rec) : Prop where
  ne : ∀ d, o.dst = some d → o'.dst ≠ some d
  d1 : ∀ d, o.dst = some d → d ∉ looks ops o'
  d2 : ∀ d, o'.dst = some d → d ∉ looks ops o
  k1 : ∀ k ∈ keysOf ρ.u, k ∉ ρ'.ids
  kk : ∀ k ∈ keysOf ρ.u, k ∉ keysOf ρ'.u
  k2 : ∀ k ∈ keysOf ρ'.u, k ∉ ρ.ids
theorem apart_spec {ops : List Oper} {o o' : Oper} {ρ ρ' : Rec} (h : apart ops o ρ o' ρ' = true) : Apart ops o ρ o' ρ' := by
  unfold apart at h
  simp only [Bool.and_eq_true] at h
  obtain ⟨⟨h1, h2, h3⟩, h4, h5⟩ := h
  have h4 := disj_iff.1 h4
  have h5 := disj_iff.1 h5
  have dn : ∀ (a : Option Nat) (l : List Nat), dstNot a l = true → ∀ d, a = some d → d ∉ l := fun a l ha d e hm => by
    subst e
    simp only [dstNot, memN_iff.2 hm] at ha
    cases ha
  refine ⟨fun d e e' => ?_, dn _ _ h2, dn _ _ h3, fun k hk hm => h4 k hk (by rw [app_eq]; exact List.mem_append_left _ hm), fun k hk hm => h4 k hk (by rw [app_eq]; exact List.mem_append_right _ hm), h5⟩
  rw [e, e'] at h1
  simp [dstNe] at h1
theorem RunsTo.after {E : Env} {ops : List Oper} {o o' : Oper} {ρ ρ' : Rec} {t : Tms} {g : Nat → Option Blk} (h : RunsTo E ops o ρ t g)
    (hd : ∀ d, o'.dst = some d → d ∉ looks ops o) (h1 : ∀ k ∈ keysOf ρ'.u, k ∉ ρ.ids) (h2 : ∀ k ∈ keysOf ρ'.u, k ∉ keysOf ρ.u) : RunsTo E ops o ρ (putSlot t o'.dst ρ'.v) (updG g ρ'.u) := by
  refine ⟨runD_congr h.1 (keep_put hd) fun id hi => updG_out fun hk => h1 id hk hi, okNew_iff.2 fun k hk => ?_⟩
  rcases okNew_iff.1 h.2 k hk with h3 | h3
  · exact .inl h3
  · right
    rw [updG_out fun hk' => h2 k hk' hk]
    exact h3
theorem RunsTo.before {E : Env} {ops : List Oper} {o o' : Oper} {ρ ρ' : Rec} {t : Tms} {g : Nat → Option Blk} (h : RunsTo E ops o ρ (putSlot t o'.dst ρ'.v) (updG g ρ'.u))
    (hd : ∀ d, o'.dst = some d → d ∉ looks ops o) (h1 : ∀ k ∈ keysOf ρ'.u, k ∉ ρ.ids) (h2 : ∀ k ∈ keysOf ρ'.u, k ∉ keysOf ρ.u) : RunsTo E ops o ρ t g := by
  refine ⟨runD_congr h.1 (keep_put hd).symm fun id hi => (updG_out fun hk => h1 id hk hi).symm, okNew_iff.2 fun k hk => ?_⟩
  rcases okNew_iff.1 h.2 k hk with h3 | h3
  · exact .inl h3
  · right
    rw [updG_out fun hk' => h2 k hk' hk] at h3
    exact h3
theorem put_comm {a b : Option Nat} {x y : Slot} {t : Tms} (h : ∀ d, a = some d → b ≠ some d) : putSlot (putSlot t a x) b y = putSlot (putSlot t b y) a x := by
  cases a with
  | none => rfl
  | some d =>
    cases b with
    | none => rfl
    | some e =>
      have : d ≠ e := fun h' => h d rfl (by rw [h'])
      exact Tms.set_comm t x y this
inductive TW (ops : List Oper) (i : Nat) : Nat → Prop
  | here : TW ops i i
  | step {p q : Nat} {o : Oper} : ops[p]? = some o → q ∈ waits o.after.toList → TW ops i q → TW ops i p
def Waits (ops : List Oper) (o : Oper) (i : Nat) : Prop := ∃ p ∈ waits o.after.toList, TW ops i p
theorem waitsT_spec {ops : List Oper} {i : Nat} : ∀ {n : Nat} {l : List Nat}, waitsT ops i n l = true → ∃ p ∈ l, TW ops i p
  | 0, _, h => by cases h
  | _ + 1, [], h => by cases h
  | n + 1, p :: l, h => by
    simp only [waitsT] at h
    cases e : Nat.beq p i with
    | true =>
      have := Nat.eq_of_beq_eq_true e
      subst this
      exact ⟨p, by simp, .here⟩
    | false =>
      rw [e] at h
      obtain ⟨q, hq, ht⟩ := waitsT_spec (n := n) h
      rw [app_eq, List.mem_append] at hq
      rcases hq with hq | hq
      · split at hq
        · rename_i o ho
          rw [nth_eq] at ho
          exact ⟨p, by simp, .step ho hq ht⟩
        · cases hq
      · exact ⟨q, by simp [hq], ht⟩
def Closed (ops : Array Oper) (listed : Array Bool) : Prop := ∀ p o, ops[p]? = some o → p < listed.size → listed.getD p true = true → ∀ q ∈ waits o.after.toList, listed.getD q true = true ∧ q < listed.size
theorem Closed.tw {ops : Array Oper} {listed : Array Bool} (D : Closed ops listed) {i p : Nat} (t : TW ops.toList i p) : p < listed.size → listed.getD p true = true → listed.getD i true = true ∧ i < listed.size := by
  induction t with
  | here => exact fun h1 h2 => ⟨h2, h1⟩
  | step h1 h2 _ ih =>
    intro h3 h4
    obtain ⟨a, b⟩ := D _ _ (by simpa using h1) h3 h4 _ h2
    exact ih b a
theorem Closed.ready {ops : Array Oper} {listed : Array Bool} (D : Closed ops listed) {i : Nat} {o : Oper} (ho : ops[i]? = some o) (h : i ∈ Region.ready .any ops listed) : (∀ q ∈ waits o.after.toList, listed.getD q true = true ∧ q < listed.size) ∧ Closed ops (listed.setIfInBounds i true) := by
  obtain ⟨_, o', ho', hall⟩ := mem_ready.1 h
  rw [ho] at ho'
  cases ho'
  have h1 : ∀ q ∈ waits o.after.toList, listed.getD q true = true ∧ q < listed.size := fun q hq => by
    obtain ⟨e, he, hb, heq⟩ := mem_waits.1 hq
    have h1 := hall e (by simpa using he) (by rw [binds_eq]; exact hb)
    rw [heq] at h1
    rcases Nat.lt_or_ge q listed.size with h' | h'
    · refine ⟨?_, h'⟩
      simpa [Array.getD, h'] using h1
    · simp [Array.getElem?_eq_none h'] at h1
  refine ⟨h1, fun p op hp hs hl q hq => ?_⟩
  have up : listed.getD q true = true ∧ q < listed.size → (listed.setIfInBounds i true).getD q true = true ∧ q < (listed.setIfInBounds i true).size := fun ⟨a, b⟩ => by
    refine ⟨?_, by simpa using b⟩
    by_cases e : i = q
    · subst e; simp [Array.getD, b]
    · rw [getD_set_ne true e]; exact a
  by_cases e : i = p
  · subst e
    rw [ho] at hp
    cases hp
    exact up (h1 q hq)
  · rw [getD_set_ne true e] at hl
    exact up (D p op hp (by simpa using hs) hl q hq)
def AnyR (E : Env) (ops : Array Oper) (R : Nat → Option Rec) (Qs : Tms → (Nat → Option Blk) → Prop) : Nat → Array Bool → Tms → (Nat → Option Blk) → Prop
  | 0, listed, t, g => Region.ready .any ops listed = [] ∧ Qs t g
  | fuel + 1, listed, t, g =>
    (Region.ready .any ops listed = [] → Qs t g) ∧
    ∀ i ∈ Region.ready .any ops listed, ∃ o ρ, ops[i]? = some o ∧ R i = some ρ ∧ RunsTo E ops.toList o ρ t g ∧ AnyR E ops R Qs fuel (listed.setIfInBounds i true) (putSlot t o.dst ρ.v) (updG g ρ.u)
theorem AnyR_first {E : Env} {ops : Array Oper} {R : Nat → Option Rec} {Qs : Tms → (Nat → Option Blk) → Prop} {i : Nat} {oi : Oper} {ρi : Rec} (hi : ops[i]? = some oi) (hri : R i = some ρi) :
    ∀ (fuel : Nat) (listed : Array Bool) (t : Tms) (g : Nat → Option Blk),
      (∀ j oj ρj, ops[j]? = some oj → R j = some ρj → j ≠ i → listed.getD j true = false → ¬ Waits ops.toList oj i → Apart ops.toList oi ρi oj ρj) → Closed ops listed →
      i ∈ Region.ready .any ops listed → RunsTo E ops.toList oi ρi t g →
      AnyR E ops R Qs fuel (listed.setIfInBounds i true) (putSlot t oi.dst ρi.v) (updG g ρi.u) → AnyR E ops R Qs (fuel + 1) listed t g := by
  intro fuel
  induction fuel with
  | zero =>
    intro listed t g _ _ hr hy H
    refine ⟨fun h => (by rw [h] at hr; cases hr), fun j hj => ?_⟩
    by_cases hji : j = i
    · subst hji; exact ⟨oi, ρi, hi, hri, hy, H⟩
    · have := ready_mono hj hji
      rw [H.1] at this
      cases this
  | succ fuel ih =>
    intro listed t g hfree hD hr hy H
    refine ⟨fun h => (by rw [h] at hr; cases hr), fun j hj => ?_⟩
    by_cases hji : j = i
    · subst hji; exact ⟨oi, ρi, hi, hri, hy, H⟩
    · obtain ⟨oj, ρj, hoj, hrj, hyj, Hj⟩ := H.2 j (ready_mono hj hji)
      obtain ⟨hjun, oj', hoj', hall⟩ := mem_ready.1 hj
      have e : oj' = oj := by rw [hoj] at hoj'; exact (Option.some.inj hoj').symm
      subst e
      have hD' := hD.ready hoj' hj
      have hnot : ¬ Waits ops.toList oj' i := fun ⟨p, hp, ht⟩ => by
        obtain ⟨h1, h2⟩ := hD'.1 p hp
        obtain ⟨h3, h4⟩ := hD.tw ht h2 h1
        have h0 := (mem_ready.1 hr).1
        rw [h0] at h3
        cases h3
      have ha := hfree j oj' ρj hoj hrj hji hjun hnot
      have hyj0 : RunsTo E ops.toList oj' ρj t g := hyj.before ha.d1 ha.k1 ha.kk
      have hyi1 : RunsTo E ops.toList oi ρi (putSlot t oj'.dst ρj.v) (updG g ρj.u) := hy.after ha.d2 ha.k2 fun k hk hk' => ha.kk k hk' hk
      refine ⟨oj', ρj, hoj, hrj, hyj0, ih _ _ _ (fun k ok ρk hk hrk hki hun hno => ?_) hD'.2 (ready_mono hr (Ne.symm hji)) hyi1 ?_⟩
      · refine hfree k ok ρk hk hrk hki ?_ hno
        by_cases hjk : j = k
        · subst hjk; exact hjun
        · rw [getD_set_ne true hjk] at hun; exact hun
      · rw [Array.setIfInBounds_comm _ _ hji, ← put_comm ha.ne, ← updG_comm ha.kk]
        exact Hj
def LexR (E : Env) (ops : List Oper) (Qs : Tms → (Nat → Option Blk) → Prop) : List Oper → List Rec → Tms → (Nat → Option Blk) → Prop
  | [], _, t, g => Qs t g
  | o :: l, ρ :: rs, t, g => RunsTo E ops o ρ t g ∧ LexR E ops Qs l rs (putSlot t o.dst ρ.v) (updG g ρ.u)
  | _ :: _, [], _, _ => False
theorem okPrev_spec {ops : List Oper} {o : Oper} {ρ : Rec} : ∀ {prev : List (Nat × Oper × Rec)}, okPrev ops o ρ prev = true → ∀ p ∈ prev, Waits ops o p.1 ∨ Apart ops p.2.1 p.2.2 o ρ
  | [], _, p, hp => by cases hp
  | (i, o', ρ') :: l, h, p, hp => by
    simp only [okPrev] at h
    cases hc : (memN i (waits o.after.toList) || (apart ops o' ρ' o ρ || waitsT ops i 100 (waits o.after.toList))) with
    | false => rw [hc] at h; cases h
    | true =>
      rw [hc] at h
      rcases List.mem_cons.1 hp with rfl | hp
      · rcases Bool.or_eq_true_iff.1 hc with h1 | h1
        · exact .inl ⟨_, memN_iff.1 h1, .here⟩
        · rcases Bool.or_eq_true_iff.1 h1 with h1 | h1
          · exact .inr (apart_spec h1)
          · exact .inl (waitsT_spec h1)
      · exact okPrev_spec h p hp
theorem stepsD_lex {E : Env} {ops : List Oper} : ∀ {l : List Oper} {k : Nat} {prev : List (Nat × Oper × Rec)} {σ σ' : St}, (stepsD E ops k l prev σ).val = some σ' →
    ∃ rs : List Rec, rs.length = l.length ∧ LexR E ops (fun t g => t = σ'.t ∧ g = σ'.h.get) l rs σ.t σ.h.get ∧
      ∀ (j : Nat) o ρ, l[j]? = some o → rs[j]? = some ρ → (∀ e ∈ waits o.after.toList, e < k + j) ∧ (∀ p ∈ prev, Waits ops o p.1 ∨ Apart ops p.2.1 p.2.2 o ρ) ∧
        ∀ (i : Nat) o' ρ', i < j → l[i]? = some o' → rs[i]? = some ρ' → Waits ops o (k + i) ∨ Apart ops o' ρ' o ρ
  | [], k, prev, σ, σ', h => by
    simp only [stepsD, Tr.val, Option.some.injEq] at h
    subst h
    exact ⟨[], rfl, ⟨rfl, rfl⟩, fun j o ρ hj => by simp at hj⟩
  | o :: l, k, prev, σ, σ', h => by
    simp only [stepsD] at h
    cases hlt : allLt k (waits o.after.toList) with
    | false => rw [hlt] at h; cases h
    | true =>
      rw [hlt] at h
      simp only [cond_true, val_bind, Option.bind_eq_some_iff] at h
      obtain ⟨ρ, hρ, h⟩ := h
      cases hc : (okNew σ.h.get ρ.ids ρ.u && okPrev ops o ρ prev) with
      | false => rw [hc] at h; cases h
      | true =>
        rw [hc] at h
        simp only [cond_true, nextSt_eq] at h
        simp only [Bool.and_eq_true] at hc
        obtain ⟨rs, h1, h2, h3⟩ := stepsD_lex h
        have hprev := okPrev_spec hc.2
        refine ⟨ρ :: rs, by simp [h1], ⟨⟨hρ, hc.1⟩, by rw [← sets_get]; exact h2⟩, fun j oj ρj hj hrj => ?_⟩
        cases j with
        | zero =>
          simp at hj hrj
          subst hj; subst hrj
          exact ⟨allLt_iff.1 hlt, hprev, fun i _ _ hi => by omega⟩
        | succ j =>
          obtain ⟨a, b, c⟩ := h3 j oj ρj (by simpa using hj) (by simpa using hrj)
          refine ⟨fun e he => by have := a e he; omega, fun p hp => b p (by simp [hp]), fun i o' ρ' hi hoi hri => ?_⟩
          cases i with
          | zero =>
            simp at hoi hri
            subst hoi; subst hri
            exact b (k, o, ρ) (by simp)
          | succ i =>
            have := c i o' ρ' (by omega) (by simpa using hoi) (by simpa using hri)
            rwa [show k + 1 + i = k + (i + 1) from by omega] at this
theorem AnyR_lex {E : Env} {ops : Array Oper} {R : List Rec} {Qs : Tms → (Nat → Option Blk) → Prop}
    (hw : ∀ (j : Nat) o, ops[j]? = some o → ∀ e ∈ waits o.after.toList, e < j)
    (hp : ∀ (i j : Nat) o' ρ' o ρ, i < j → ops[i]? = some o' → R[i]? = some ρ' → ops[j]? = some o → R[j]? = some ρ → Waits ops.toList o i ∨ Apart ops.toList o' ρ' o ρ) :
    ∀ (l : List Oper) (rs : List Rec) (k : Nat) (listed : Array Bool) (t : Tms) (g : Nat → Option Blk), (∀ j : Nat, l[j]? = ops[k + j]?) → (∀ j : Nat, rs[j]? = R[k + j]?) → k + l.length = ops.size → listed.size = ops.size →
      (∀ i, i < ops.size → (listed.getD i true = true ↔ i < k)) → LexR E ops.toList Qs l rs t g → AnyR E ops (fun i => R[i]?) Qs l.length listed t g
  | [], rs, k, listed, t, g, hl, hr, hk, hs, hli, h => by
    refine ⟨?_, h⟩
    cases hrd : Region.ready .any ops listed with
    | nil => rfl
    | cons i is =>
      have hi : i ∈ Region.ready .any ops listed := by rw [hrd]; simp
      obtain ⟨h0, o, ho, _⟩ := mem_ready.1 hi
      have hlt : i < ops.size := (Array.getElem?_eq_some_iff.1 ho).1
      have := (hli i hlt).2 (by simp at hk; omega)
      rw [this] at h0
      cases h0
  | o :: l, [], k, listed, t, g, hl, hr, hk, hs, hli, h => h.elim
  | o :: l, ρ :: rs, k, listed, t, g, hl, hr, hk, hs, hli, h => by
    have h0 : ops[k]? = some o := by simpa using (hl 0).symm
    have r0 : R[k]? = some ρ := by simpa using (hr 0).symm
    have hkl : k < ops.size := by simp at hk; omega
    obtain ⟨hy, hK⟩ := h
    refine AnyR_first h0 r0 l.length listed t g (fun j oj ρj hj hrj hne hun hno => ?_) ?_ ?_ hy
      (AnyR_lex hw hp l rs (k + 1) _ _ _ (fun j => by have := hl (j + 1); simpa [Nat.add_assoc, Nat.add_comm 1 j] using this) (fun j => by have := hr (j + 1); simpa [Nat.add_assoc, Nat.add_comm 1 j] using this) (by simp at hk; omega) (by simpa using hs) (fun i hi => ?_) hK)
    · have hjl : j < ops.size := (Array.getElem?_eq_some_iff.1 hj).1
      have hkj : k < j := by
        rcases Nat.lt_or_ge j k with h1 | h1
        · rw [(hli j hjl).2 h1] at hun; cases hun
        · omega
      exact (hp k j o ρ oj ρj hkj h0 r0 hj hrj).resolve_left hno
    · intro p op hp' hps hpl q hq
      have hpo : p < ops.size := (Array.getElem?_eq_some_iff.1 hp').1
      have h1 := (hli p hpo).1 hpl
      have h2 := hw p op hp' q hq
      exact ⟨(hli q (by omega)).2 (by omega), by omega⟩
    · refine mem_ready.2 ⟨?_, o, h0, fun e he hb => ?_⟩
      · cases hx : listed.getD k true with
        | false => rfl
        | true => exact absurd ((hli k hkl).1 hx) (by omega)
      · have hlt := hw k o h0 e.on (mem_waits.2 ⟨e, by simpa using he, by rw [← binds_eq]; exact hb, rfl⟩)
        have := (hli e.on (by omega)).2 hlt
        have hsz : e.on < listed.size := by omega
        simpa [Array.getD, hsz] using this
    · by_cases e : k = i
      · subst e
        have : k < listed.size := by omega
        simp [Array.getD, this]
      · rw [getD_set_ne true e, hli i hi]
        omega
section
variable {P : Program} {F : Fence} {n : Nat} {C : Ctx} {X : Start} {Q : Exit → Act → World → Prop}
theorem AnyR_R (B : Base F P C.E) {ops : Array Oper} {R : Nat → Option Rec} {Qs : Tms → (Nat → Option Blk) → Prop} (hQ : ∀ t g a w, Qs t g → okG C X t g a w → Q .normal a w) :
    ∀ (fuel : Nat) (listed : Array Bool) (t : Tms) (g : Nat → Option Blk) (a : Act) (w : World), AnyR C.E ops R Qs fuel listed t g → okG C X t g a w → wpAnyIn F n P .any ops Q fuel listed a w
  | 0, listed, t, g, a, w, h, hok => ⟨h.1, hQ t g a w h.2 hok⟩
  | fuel + 1, listed, t, g, a, w, h, hok => by
    refine ⟨fun h0 => hQ t g a w (h.1 h0) hok, fun i hi => ?_⟩
    obtain ⟨o, ρ, ho, hr, hy, hn⟩ := h.2 i hi
    unfold wpOpIn
    simp only [ho]
    exact runD_R B hy hok fun a' w' hok' => AnyR_R B hQ fuel _ _ _ a' w' hn hok'
theorem HR.drawn {w : World} {K : KSet} {A : Asg} {h : Heap} (H : HR C w K A h) (d : Nat) : HR C { w with drawn := d } K A h ∧ Ext K A h w K A h { w with drawn := d } := by
  have x : Ext K A h w K A h { w with drawn := d } := ⟨fun b hb => ⟨hb, rfl⟩, fun id hi => ⟨hi, rfl, rfl⟩, fun id e k xs' hi hg => ⟨xs', hg, rfl⟩, fun id k xs' hi hg => .inr ⟨xs', hg, rfl⟩⟩
  exact ⟨⟨fun id b hb => BlkR.keep x hb (fun _ => rfl) (H.blk id b hb), H.inj, H.own, H.kset, H.k0, fun g p hp => x.leaf (l := p.leaf) (H.glob g p hp), H.os, H.tape, H.output, H.size, H.frame⟩, x⟩
theorem St.ok.drawn {σ : St} {a : Act} {w : World} (hok : σ.ok C X a w) (d : Nat) : σ.ok C X a { w with drawn := d } := by
  obtain ⟨K, A, H, E1, S, hd⟩ := hok
  obtain ⟨H', x⟩ := H.drawn d
  exact ⟨K, A, H', E1.trans x, S.ext x, hd⟩
theorem St.ok.congr {σ σ' : St} {a : Act} {w : World} (ht : σ'.t = σ.t) (hg : σ'.h.get = σ.h.get) (hok : σ.ok C X a w) : σ'.ok C X a w := by
  obtain ⟨K, A, H, E1, S, hd⟩ := hok
  have hp : ∀ id, σ'.h.get id = σ.h.get id := fun id => congrFun hg id
  have hh : ∀ id, Ev.has σ'.h id ↔ Ev.has σ.h id := fun id => by unfold Ev.has; rw [hp id]
  have hu : ∀ id, Uses A σ'.h id ↔ Uses A σ.h id := fun id => by unfold Uses; rw [hp id]
  have x : Ext K A σ.h w K A σ'.h w := ⟨fun b hb => ⟨hb, rfl⟩, fun id hi => ⟨(hh id).2 hi, rfl, rfl⟩, fun id e k xs' hi hg' => ⟨xs', by rw [← hp id]; exact hg', rfl⟩, fun id k xs' hi hg' => .inr ⟨xs', by rw [← hp id]; exact hg', rfl⟩⟩
  refine ⟨K, A, ⟨fun id b hb => ?_, fun id id' h1 h2 => H.inj id id' ((hu id).1 h1) ((hu id').1 h2), fun id h1 => H.own id ((hu id).1 h1), H.kset, H.k0, fun g p hp => x.leaf (l := p.leaf) (H.glob g p hp), H.os, H.tape, H.output, H.size, H.frame⟩, E1.trans x, ?_, hd⟩
  · have hb' : σ.h.get id = some b := by rw [← hp id]; exact hb
    exact BlkR.keep x hb' (fun _ => rfl) (H.blk id b hb')
  · rw [ht]
    exact S.ext x
theorem stepsD_R (B : Base F P C.E) (hm : P.follows .mixedOrders = true) {id : Nat} {ops : Array Oper} {σ σ' : St} {a : Act} {w : World} (hs : (stepsD C.E ops.toList 0 ops.toList [] σ).val = some σ') (hok : σ.ok C X a w)
    (hk : ∀ a' w', σ'.ok C X a' w' → Q .normal a' w') : (Code.region id ops true).wpIn F n P Q a w := by
  obtain ⟨rs, h1, h2, h3⟩ := stepsD_lex hs
  have hlist : ∀ j : Nat, ops.toList[j]? = ops[0 + j]? := fun j => by simp
  refine wpIn_region_any hm ?_
  have any := AnyR_lex (E := C.E) (ops := ops) (R := rs) (Qs := fun t g => t = σ'.t ∧ g = σ'.h.get)
    (fun j o ho e he => by
      have hj : j < ops.toList.length := by simpa using (Array.getElem?_eq_some_iff.1 ho).1
      have := (h3 j o rs[j] (by rw [hlist]; simpa using ho) (List.getElem?_eq_getElem (by omega))).1 e he
      simpa using this)
    (fun i j o' ρ' o ρ hij hoi hri hoj hrj => by
      have := (h3 j o ρ (by rw [hlist]; simpa using hoj) hrj).2.2 i o' ρ' hij (by rw [hlist]; simpa using hoi) hri
      simpa using this)
    ops.toList rs 0 (Array.replicate ops.size false) σ.t σ.h.get hlist (fun j => by simp) (by simp) (by simp) (fun i hi => by simp [Array.getD, hi]) h2
  have := AnyR_R (n := n) (Q := Q) B (X := X) (Qs := fun t g => t = σ'.t ∧ g = σ'.h.get) (fun t g a w ⟨ht, hg⟩ ⟨h, hgh, hok⟩ => hk a w (St.ok.congr (σ := { t := t, h := h }) ht.symm (by rw [hgh]; exact hg.symm) hok))
    _ _ _ _ a { w with drawn := w.drawn + 1 } any ⟨σ.h, rfl, hok.drawn _⟩
  simpa using this
end
end Go.Ev
end
