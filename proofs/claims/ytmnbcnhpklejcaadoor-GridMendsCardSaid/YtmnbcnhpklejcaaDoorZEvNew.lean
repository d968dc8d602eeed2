/- Appending. -/
import Derived.Test.YtmnbcnhpklejcaaDoorZEvMore
import Derived.ArgAppend
import Derived.Laws.OwnMore
import Derived.Laws.MakeOwn
import Derived.Lib.ConvBytes
set_option linter.unusedVariables false
namespace Go.Ev
open Go.RowKit

section
variable {P : Program} {C : Ctx} {w : World} {K : KSet} {A : Asg} {h : Heap} {r : OR}

/-- A slice's cells, in a row. -/
theorem R_row {k : Kd} {xs : List k.T} {A0 : Option Addr} {n cap : Nat} (hR : Kd.R w K (.sl k) xs [.slice A0 n cap]) :
    n = xs.length ∧ xs.length ≤ cap ∧ ∃ news, RowR w K k xs news ∧ (xs.length = 0 ∨ ∃ ad, A0 = some ad ∧ ∀ j u, news[j]? = some u → w.cell? (ad.add j) = some u) := by
  obtain ⟨a, c, e, hle, hR⟩ := hR
  simp only [List.cons.injEq, Value.slice.injEq, and_true] at e
  obtain ⟨rfl, rfl, rfl⟩ := e
  refine ⟨rfl, hle, ?_⟩
  rcases hR with hR | ⟨b, off, cs, t, fr, rfl, hK, hc, hR⟩
  · have : xs = [] := List.eq_nil_of_length_eq_zero hR
    subst this
    exact ⟨[], rfl, .inl rfl⟩
  · by_cases h0 : xs.length = 0
    · have : xs = [] := List.eq_nil_of_length_eq_zero h0
      subst this
      exact ⟨[], rfl, .inl rfl⟩
    · have hlast : (cellsAt cs (off + (xs.length - 1) * k.sz) k.sz).length = k.sz := Kd.R_len (hR (xs.length - 1) (by show xs.length - 1 < xs.length; omega))
      have e1 : (xs.length - 1) * k.sz + k.sz = xs.length * k.sz := by
        rw [← Nat.succ_mul]
        congr 1
        omega
      have hlen : (cellsAt cs off (xs.length * k.sz)).length = xs.length * k.sz := by
        by_cases hz : k.sz = 0
        · simp [hz, cellsAt]
        · apply cellsAt_len
          unfold cellsAt at hlast
          rw [List.length_take, List.length_drop] at hlast
          have : cs.toList.length = cs.size := by simp
          omega
      refine ⟨cellsAt cs off (xs.length * k.sz), RowR_of hlen fun i hi => ?_, .inr ⟨⟨b, off, none⟩, rfl, fun j u hj => ?_⟩⟩
      · have hle2 : i * k.sz + k.sz ≤ xs.length * k.sz := by
          rw [← Nat.succ_mul]
          exact Nat.mul_le_mul_right _ hi
        rw [cellsAt_sub hle2]
        exact hR i hi
      · rw [add_plain']
        exact rangeAt_of hc rfl j u hj

theorem RowR_drop {k : Kd} : ∀ {xs : List k.T} {l : List Value} (n : Nat), RowR w K k xs l → RowR w K k (xs.drop n) (l.drop (n * k.sz))
  | [], l, n, h => by rw [show l = [] from h, List.drop_nil, List.drop_nil]; rfl
  | x :: xs, l, 0, h => by rw [Nat.zero_mul, List.drop_zero, List.drop_zero]; exact h
  | x :: xs, l, n + 1, ⟨l1, l2, h, h1, h2⟩ => by
    have e : (l1 ++ l2).drop ((n + 1) * k.sz) = l2.drop (n * k.sz) := by
      rw [Nat.succ_mul, Nat.add_comm, ← Kd.R_len h1, ← List.drop_drop, List.drop_append_of_le_length (Nat.le_refl _), List.drop_length, List.nil_append]
    rw [h, e]
    exact RowR_drop n h2

/-- Elements of an owned row, from a place on, are others. -/
theorem HR.setElems (H : HR C w K A h) {id : Nat} {e : TypeId} {k : Kd} {xs : List k.T} (hg : h.get id = some (.row e k xs)) (h0 : 0 < xs.length) {lo : Nat} {ys : List k.T} (hle0 : lo + ys.length ≤ xs.length) {m : List Value} (hy : RowR w K k ys m) :
    ∃ cur fz cap, A.hd id = .slice (some ⟨A.m id, 0, none⟩) xs.length cap ∧ w.heap[A.m id]? = some (.cells cur e fz) ∧ fzOK cur fz ∧ lo * k.sz + m.length ≤ cur.size ∧
      HR C (w.setRow (A.m id) (cur.toList.take (lo * k.sz) ++ m ++ cur.toList.drop (lo * k.sz + m.length)).toArray) K A (h.set id (.row e k (putAt xs lo ys))) ∧
      Ext K A h w K A (h.set id (.row e k (putAt xs lo ys))) (w.setRow (A.m id) (cur.toList.take (lo * k.sz) ++ m ++ cur.toList.drop (lo * k.sz + m.length)).toArray) := by
  obtain ⟨cap, cur, l, fz, hv, hc, hz0, h2, h3, h4, h5, hr⟩ := row_at H hg h0
  obtain ⟨_, _, _, _, hz⟩ := H.blk id _ hg
  have hu0 : Uses A h id := uses_row hg (g := A.m id) (by rw [hv]; exact ownB_pos (by omega))
  obtain ⟨hnk, hlt, hbl⟩ := H.own id hu0
  have hml : m.length = ys.length * k.sz := RowR_len hy
  have hle : lo * k.sz + m.length ≤ xs.length * k.sz := by
    rw [hml, ← Nat.add_mul]
    exact Nat.mul_le_mul_right _ hle0
  have hle2 : xs.length * k.sz ≤ cap * k.sz := Nat.mul_le_mul_right _ h2
  have hne : ∀ (q : Array Value) b, b ≠ A.m id → (w.setRow (A.m id) q).heap[b]? = w.heap[b]? := fun q b hb => setRow_other w _ _ _ hb
  have hpl : (putAt xs lo ys).length = xs.length := by simp [putAt]; omega
  refine ⟨cur, fz, cap, hv, hc, hz0, by omega, ?_⟩
  generalize hq : (cur.toList.take (lo * k.sz) ++ m ++ cur.toList.drop (lo * k.sz + m.length)).toArray = q
  have x : Ext K A h w K A (h.set id (.row e k (putAt xs lo ys))) (w.setRow (A.m id) q) := by
    refine ⟨fun b hb => ⟨hb, hne q b fun e => hnk (e ▸ hb)⟩, fun i hi => ⟨?_, rfl, rfl⟩, fun i' e' k' xs' hi' hgi => ?_, fun i' k' xs' hi' hgi => ?_⟩
    · unfold Ev.has at *
      rw [Heap.get_set]
      split
      · rfl
      · exact hi
    · rw [Heap.get_set] at hgi
      split at hgi
      · rename_i e0
        cases hgi
        rw [e0]
        exact ⟨xs, hg, hpl.symm⟩
      · exact ⟨xs', hgi, rfl⟩
    · rw [Heap.get_set] at hgi
      split at hgi
      · cases hgi
      · exact .inr ⟨xs', hgi, rfl⟩
  have hsz : (w.setRow (A.m id) q).heap.size = w.heap.size := setRow_size w _ _
  have hqs : q.size = cur.size := by
    rw [← hq]
    simp
    omega
  have hqt : q.toList.take (xs.length * k.sz) = l.take (lo * k.sz) ++ m ++ l.drop (lo * k.sz + m.length) := by
    rw [← hq]
    have := getD_take_drop cur.toList m (lo * k.sz) (xs.length * k.sz) 0 (by omega) (by simp; omega)
    rw [show (cur.toList.take (lo * k.sz) ++ m ++ cur.toList.drop (lo * k.sz + m.length)).toArray.toList = cur.toList.take (lo * k.sz) ++ m ++ cur.toList.drop (lo * k.sz + m.length) from by simp, this, h5]
  have hrow : RowR w K k (putAt xs lo ys) (l.take (lo * k.sz) ++ m ++ l.drop (lo * k.sz + m.length)) := by
    unfold putAt
    rw [List.append_assoc, hml, ← Nat.add_mul]
    exact RowR_app (RowR_take lo hr) (RowR_app hy (RowR_drop _ hr))
  refine ⟨H.update x ⟨l.take (lo * k.sz) ++ m ++ l.drop (lo * k.sz + m.length), ⟨?_, .inr ⟨A.m id, cap, q, fz, ?_, by omega, setRow_heap w _ cur _ e _ hc, by unfold fzOK at *; rw [hqs]; exact hz0, by rw [hpl]; exact h2, h3, by rw [hqs]; exact h4, ?_⟩⟩, x.rowR hrow, .inr (by rw [hv]; exact ownB_pos (by omega)), hz⟩
    (fun _ => ⟨hnk, by rw [hsz]; exact hlt, hbl, fun i hi hu e => hi (H.inj i id hu hu0 e)⟩)
    (fun i hi hu => hne q _ fun e => hi (H.inj i id hu hu0 e)) rfl rfl rfl (Nat.le_of_eq hsz.symm) (fun b hb hl => hne q b fun e => ?_), x⟩
  · have := RowR_len hrow
    simpa using this
  · rw [hpl]; exact hv
  · rw [hpl]; exact hqt
  · rcases hbl with hbl | hbl
    · omega
    · exact hl (e ▸ hbl)

theorem elems_R (H : HR C w K A h) {k : Kd} {l : Leaf} {v : Value} {ys : List k.T} (hl : LeafR w K A h l v) (he : elems h k l = some ys) :
    ∃ A0 c news, v = .slice A0 ys.length c ∧ RowR w K k ys news ∧ (ys.length = 0 ∨ ∃ ad, A0 = some ad ∧ ∀ j u, news[j]? = some u → w.cell? (ad.add j) = some u) := by
  have go : ∀ {k' : Kd} {xs : List k'.T}, Kd.R w K (.sl k') xs [v] → castK (k := .sl k') (.sl k) xs = some ys →
      ∃ A0 c news, v = .slice A0 ys.length c ∧ RowR w K k ys news ∧ (ys.length = 0 ∨ ∃ ad, A0 = some ad ∧ ∀ j u, news[j]? = some u → w.cell? (ad.add j) = some u) := fun {k' xs} hR hc => by
    have hR2 : Kd.R w K (.sl k) ys [v] := R_cast (k := .sl k') (k' := .sl k) hc hR
    have hR3 := hR2
    obtain ⟨a, c, e, _⟩ := hR3
    cases e
    obtain ⟨_, _, news, h1, h2⟩ := R_row hR2
    exact ⟨a, c, news, rfl, h1, h2⟩
  cases l with
  | dat kk xs =>
    cases kk with
    | sl k' => exact go hl he
    | _ => cases he
  | clip k' xs => exact go hl.1 he
  | nn b k' xs => exact go hl.1 he
  | nils =>
    simp only [elems, Option.some.injEq] at he
    subst he
    exact ⟨none, 0, [], hl, rfl, .inl rfl⟩
  | emp =>
    simp only [elems, Option.some.injEq] at he
    subst he
    obtain ⟨a1, hl⟩ := hl
    exact ⟨a1, 0, [], hl, rfl, .inl rfl⟩
  | row id =>
    simp only [elems] at he
    split at he
    · rename_i e k' xs hg
      obtain ⟨e0, he⟩ := castK_eq he
      injection e0 with e0
      subst e0
      subst he
      obtain ⟨l', ⟨hl', h1 | ⟨g, cap, cur, fz, hv', hb', hc', _, hle', hm', hcs', ht'⟩⟩, hr', hb, hz⟩ := H.blk id _ hg
      · have : xs = [] := List.eq_nil_of_length_eq_zero h1.1
        subst this
        obtain ⟨_, a1, h1⟩ := h1
        exact ⟨a1, 0, [], by rw [hl.2.1, h1]; rfl, rfl, .inl rfl⟩
      · refine ⟨_, cap, l', by rw [hl.2.1, hv'], hr', .inr ⟨_, rfl, fun j u hj => ?_⟩⟩
        rw [add_plain', Nat.zero_add]
        simp only [World.cell?, hc']
        have hj2 : j < xs.length * k'.sz := by
          have := (List.getElem?_eq_some_iff.1 hj).1
          omega
        rw [← ht', List.getElem?_take_of_lt hj2] at hj
        simpa using hj
    · rename_i k' xs hg
      have hB := (H.blk id _ hg).1
      rw [← hl.2.1] at hB
      exact go hB he
    · cases he
  | vw id sz lo n =>
    simp only [elems] at he
    split at he
    · rename_i e k' xs hg
      obtain ⟨hk, he2⟩ := bif_some he
      clear he
      have hk := Nat.eq_of_beq_eq_true hk
      subst hk
      obtain ⟨e0, he2⟩ := castK_eq he2
      injection e0 with e0
      subst e0
      subst he2
      obtain ⟨_, h0, h1, a, c, rfl, hle, hN⟩ := hl
      have hsl : (sub (α := k'.T) xs lo.toNat (lo.toNat + n.toNat)).length = n.toNat ∧ (n.toNat = 0 ∨ ∃ cap cur l' fz, A.hd id = .slice (some ⟨A.m id, 0, none⟩) xs.length cap ∧ w.heap[A.m id]? = some (.cells cur e fz) ∧ cur.toList.take (xs.length * k'.sz) = l' ∧ RowR w K k' xs l' ∧ lo.toNat + n.toNat ≤ xs.length ∧ a = some ⟨A.m id, lo.toNat * k'.sz, none⟩) := by
        rcases hN with hN | ⟨N, M, hhd, hNle, ha⟩
        · exact ⟨by simp [sub]; omega, .inl hN⟩
        · obtain ⟨l', ho, _⟩ := H.blk id _ hg
          obtain ⟨a1, c1, hsl⟩ := ho.slice
          rw [hhd] at hsl
          simp only [Value.slice.injEq] at hsl
          obtain ⟨_, rfl, _⟩ := hsl
          refine ⟨by simp [sub]; omega, ?_⟩
          by_cases hz : n.toNat = 0
          · exact .inl hz
          · obtain ⟨cap, cur, l2, fz, hv, hc, _, _, _, _, h5, hr⟩ := row_at H hg (by omega)
            exact .inr ⟨cap, cur, l2, fz, hv, hc, h5, hr, hNle, ha⟩
      obtain ⟨hlen, hsl⟩ := hsl
      rcases hsl with hz | ⟨cap, cur, l', fz, hv, hc, h5, hr, hNle, rfl⟩
      · have hnil : sub (α := k'.T) xs lo.toNat (lo.toNat + n.toNat) = [] := List.eq_nil_of_length_eq_zero (by rw [hlen]; exact hz)
        rw [hnil]
        exact ⟨a, c, [], by rw [hz]; rfl, rfl, .inl rfl⟩
      · refine ⟨_, c, (l'.take ((lo.toNat + n.toNat) * k'.sz)).drop (lo.toNat * k'.sz), by rw [hlen], RowR_drop _ (RowR_take _ hr), .inr ⟨_, rfl, fun j u hj => ?_⟩⟩
        rw [add_plain']
        simp only [World.cell?, hc]
        rw [List.getElem?_drop, ← h5] at hj
        have hj2 := (List.getElem?_eq_some_iff.1 hj).1
        simp only [List.length_take] at hj2
        rw [List.getElem?_take_of_lt (by omega), List.getElem?_take_of_lt (by omega)] at hj
        simpa using hj
    · cases he
  | _ => cases he

/-- A block that is written as it was. -/
theorem HR.setSame (H : HR C w K A h) {id : Nat} {b : Blk} (hg : h.get id = some b) : HR C w K A (h.set id b) ∧ Ext K A h w K A (h.set id b) w := by
  have hs : ∀ i, (h.set id b).get i = h.get i := fun i => by
    rw [Heap.get_set]
    split
    · rename_i e; rw [e, hg]
    · rfl
  have x : Ext K A h w K A (h.set id b) w := ⟨fun b hb => ⟨hb, rfl⟩, fun i hi => ⟨by unfold Ev.has at *; rw [hs]; exact hi, rfl, rfl⟩, fun i e k xs' _ hgi => ⟨xs', by rw [← hs]; exact hgi, rfl⟩, fun i k xs' _ hgi => .inr ⟨xs', by rw [← hs]; exact hgi, rfl⟩⟩
  have hus : ∀ i, Uses A (h.set id b) i ↔ Uses A h i := fun i => by unfold Uses; rw [hs]
  refine ⟨⟨fun i b' hb => BlkR.keep x (by rw [← hs]; exact hb) (fun _ => rfl) (H.blk i b' (by rw [← hs]; exact hb)), fun i j hi hj => H.inj i j ((hus i).1 hi) ((hus j).1 hj), fun i hu => H.own i ((hus i).1 hu), H.kset, H.k0, fun g p hp => x.leaf (H.glob g p hp), H.os, H.tape, H.output, H.size, H.frame⟩, x⟩

theorem append_zero {t ty e : TypeId} {i : TypeInfo} (ht : P.underlying t = some (.slice e)) (hi : P.info? e = some i) {base : Option Addr} {n cap c : Nat} (hle : n ≤ cap) (A0 : Option Addr) :
    (Builtin.append_ #[t, t] ty #[.slice base n cap, .slice A0 0 c]).run P w = .ok (.slice base n cap) w := by
  cases A0 <;> cases base <;> simp [Builtin.append_, run_underlying ht, sizeOf, typeInfo, hi, Builtin.lenOf, Builtin.firstCells, hle, storeCells, loadCells, loadCellsFrom]

theorem copy_run {t tyo e : TypeId} {i : TypeInfo} (ht : P.underlying t = some (.slice e)) (hi : P.info? e = some i) {base A0 : Option Addr} {n cap m c : Nat} {news : List Value}
    (hl : news.length = m * i.size) (hnews : m = 0 ∨ ∃ ad, A0 = some ad ∧ ∀ j u, news[j]? = some u → w.cell? (ad.add j) = some u) {w' : World}
    (hst : Nat.min m n = 0 ∨ ∃ a, base = some a ∧ (storeCells a (news.take (Nat.min m n * i.size)) 0).run P w = .ok () w') (hw : Nat.min m n = 0 → w' = w) :
    (Builtin.copy_ #[t, t] tyo #[.slice base n cap, .slice A0 m c]).run P w = .ok (goInt (Nat.min m n)) w' := by
  have hf : (Builtin.firstCells i.size (Nat.min m n) (.slice A0 m c)).run P w = .ok (news.take (Nat.min m n * i.size)).toArray w := by
    by_cases h0 : Nat.min m n = 0
    · rw [h0, Nat.zero_mul, List.take_zero]
      cases A0 with
      | none => exact run_firstCells_none w i.size 0 m c
      | some a => exact run_firstCells_some w i.size 0 a m c [] (by simp) (fun j u hj => by simp at hj)
    · have hm0 : ¬ m = 0 := fun e => h0 (by rw [e]; exact Nat.zero_min n)
      obtain ⟨ad, rfl, hc⟩ := hnews.resolve_left hm0
      refine run_firstCells_some w i.size _ ad m c _ ?_ fun j u hj => ?_
      · rw [List.length_take, hl, Nat.min_eq_left (Nat.mul_le_mul_right _ (Nat.min_le_left m n))]
      · have hj2 := (List.getElem?_eq_some_iff.1 hj).1
        simp only [List.length_take] at hj2
        rw [List.getElem?_take_of_lt (by omega)] at hj
        exact hc j u hj
  have hg : ∀ {q : Nat} {vs : Array Value}, Nat.min m n = q → (Builtin.firstCells i.size q (.slice A0 m c)).run P w = .ok vs w →
      (∀ a, base = some a → (storeCells a vs.toList 0).run P w = .ok () w') → (base = none → w' = w) →
      (Builtin.copy_ #[t, t] tyo #[.slice base n cap, .slice A0 m c]).run P w = .ok (goInt q) w' := fun {q vs} hq hf hs hn => by
    cases base with
    | none =>
      cases hn rfl
      simp [Builtin.copy_, run_underlying ht, Builtin.lenOf, sizeOf, typeInfo, hi, hq, hf]
    | some a =>
      simp [Builtin.copy_, run_underlying ht, Builtin.lenOf, sizeOf, typeInfo, hi, hq, hf, hs a rfl]
  refine hg rfl hf (fun a ha => ?_) (fun hb => ?_)
  · by_cases h0 : Nat.min m n = 0
    · rw [h0, Nat.zero_mul, List.take_zero, hw h0]
      rfl
    · obtain ⟨a', ha', hs⟩ := hst.resolve_left h0
      rw [ha] at ha'
      cases ha'
      exact hs
  · rcases hst with h0 | ⟨a, ha, _⟩
    · exact hw h0
    · rw [hb] at ha
      cases ha

theorem copy_core (H : HR C w K A h) {t tyo e : TypeId} {k : Kd} {inf : TypeInfo} (hu : P.underlying t = some (.slice e)) (hinf : P.info? e = some inf) (hsz : inf.size = k.sz) {id : Nat} {e' : TypeId} {xs : List k.T} (hg : h.get id = some (.row e' k xs))
    {n lo cap : Nat} {base : Option Addr} (hb : n = 0 ∨ (lo + n ≤ xs.length ∧ base = some ⟨A.m id, lo * k.sz, none⟩)) {ys : List k.T} {A0 : Option Addr} {c : Nat} {news : List Value} (hnews : RowR w K k ys news)
    (hcell : ys.length = 0 ∨ ∃ ad, A0 = some ad ∧ ∀ j u, news[j]? = some u → w.cell? (ad.add j) = some u) :
    ∃ w', (Builtin.copy_ #[t, t] tyo #[.slice base n cap, .slice A0 ys.length c]).run P w = .ok (goInt (Nat.min ys.length n)) w' ∧ HR C w' K A (h.set id (.row e' k (putAt xs lo (ys.take n)))) ∧ Ext K A h w K A (h.set id (.row e' k (putAt xs lo (ys.take n)))) w' := by
  have hl := RowR_len hnews
  by_cases h0 : Nat.min ys.length n = 0
  · have hnil : ys.take n = [] := List.eq_nil_of_length_eq_zero (by rw [List.length_take]; exact (Nat.min_comm n ys.length).trans h0)
    have hput : putAt xs lo (ys.take n) = xs := by rw [hnil]; simp [putAt]
    rw [hput]
    obtain ⟨H1, x1⟩ := H.setSame hg
    exact ⟨w, copy_run hu hinf (by rw [hsz]; exact hl) hcell (.inl h0) (fun _ => rfl), H1, x1⟩
  · have hn0 : ¬ n = 0 := fun e => h0 (by rw [e]; exact Nat.min_zero _)
    obtain ⟨hle, rfl⟩ := hb.resolve_left hn0
    have htl : (ys.take n).length = Nat.min ys.length n := by rw [List.length_take]; exact Nat.min_comm _ _
    have hmn : Nat.min ys.length n ≤ n := Nat.min_le_right _ _
    have hrt : RowR w K k (ys.take n) (news.take (Nat.min ys.length n * k.sz)) := by
      have h1 := RowR_take (Nat.min ys.length n) hnews
      have h2 : ys.take (Nat.min ys.length n) = ys.take n := by
        by_cases h3 : n ≤ ys.length
        · rw [show Nat.min ys.length n = n from Nat.min_eq_right h3]
        · rw [show Nat.min ys.length n = ys.length from Nat.min_eq_left (by omega), List.take_length, List.take_of_length_le (by omega)]
      rw [h2] at h1
      exact h1
    obtain ⟨cur, fz, cap', hv, hc, hz, hfit, H1, x1⟩ := H.setElems hg (by omega) (lo := lo) (by omega) hrt
    have hs := storeCells_fz (P := P) (o := lo * k.sz) (news.take (Nat.min ys.length n * k.sz)) 0 cur w hc hz (by simpa using hfit) (RowR_cell hrt)
    simp only [Nat.add_zero] at hs
    exact ⟨_, copy_run hu hinf (by rw [hsz]; exact hl) hcell (.inr ⟨_, rfl, by rw [hsz]; exact hs⟩) (fun h => absurd h h0), H1, x1⟩

theorem copyR_R (H : HR C w K A h) {t tyo : TypeId} {ty : Ty} (T : TyOK P t ty) {d x : Leaf} {vd vx : Value} (hd : LeafR w K A h d vd) (hx : LeafR w K A h x vx) (hr : copyR ty h d x = some r) :
    ∃ v w', (Builtin.copy_ #[t, t] tyo #[vd, vx]).run P w = .ok v w' ∧ HR C w' K A (h.sets r.u) ∧ Ext K A h w K A (h.sets r.u) w' ∧ SlotR w' K A (h.sets r.u) r.v v := by
  unfold copyR at hr
  split at hr
  · rename_i e k bts he
    obtain ⟨hu, inf, z, hinf, hz, hsz, hby, hzc, hpos, hbp, hdf⟩ := slice_ty T he
    split at hr
    · rename_i ys hys
      obtain ⟨A0, cx, news, rfl, hnews, hcell⟩ := elems_R H hx hys
      cases d with
      | row id =>
        simp only at hr
        split at hr
        · rename_i e' k' xs hg
          split at hr
          · rename_i zs hzs
            obtain ⟨e0, he0⟩ := castK_eq hzs
            injection e0 with e0
            subst e0
            subst he0
            replace hr := Option.some.inj hr
            subst hr
            have hb : ∃ base cap, A.hd id = .slice base xs.length cap ∧ (xs.length = 0 ∨ (0 + xs.length ≤ xs.length ∧ base = some ⟨A.m id, 0 * k.sz, none⟩)) := by
              by_cases h0 : xs.length = 0
              · obtain ⟨l', ho, _⟩ := H.blk id _ hg
                obtain ⟨a1, c1, hsl⟩ := ho.slice
                exact ⟨a1, c1, hsl, .inl h0⟩
              · obtain ⟨cap', cur, l', fz', hv', _⟩ := row_at H hg (by omega)
                exact ⟨_, _, hv', .inr ⟨by omega, by rw [Nat.zero_mul]⟩⟩
            obtain ⟨base, cap, hhd, hb⟩ := hb
            obtain ⟨w', h1, h2, h3⟩ := copy_core (tyo := tyo) (cap := cap) H hu hinf hsz hg hb hnews hcell
            rw [hd.2.1, hhd]
            exact ⟨_, w', h1, h2, h3, rfl⟩
          · cases hr
        · cases hr
      | vw id sz lo n =>
        simp only at hr
        split at hr
        · rename_i e' k' xs hg
          obtain ⟨hk, hr2⟩ := bif_some hr
          clear hr
          have hk := Nat.eq_of_beq_eq_true hk
          subst hk
          split at hr2
          · rename_i zs hzs
            obtain ⟨e0, he0⟩ := castK_eq hzs
            injection e0 with e0
            subst e0
            subst he0
            replace hr2 := Option.some.inj hr2
            subst hr2
            obtain ⟨_, h0, h1, a, c, rfl, hle, hN⟩ := hd
            have hb : n.toNat = 0 ∨ (lo.toNat + n.toNat ≤ xs.length ∧ a = some ⟨A.m id, lo.toNat * k.sz, none⟩) := by
              refine hN.imp (fun e => e) fun ⟨N, M, hhd, hNle, ha⟩ => ⟨?_, ha⟩
              obtain ⟨l', ho, _⟩ := H.blk _ _ hg
              obtain ⟨a1, c1, hsl⟩ := ho.slice
              rw [hhd] at hsl
              simp only [Value.slice.injEq] at hsl
              obtain ⟨_, rfl, _⟩ := hsl
              exact hNle
            obtain ⟨w', h1, h2, h3⟩ := copy_core (tyo := tyo) (cap := c) H hu hinf hsz hg hb hnews hcell
            exact ⟨_, w', h1, h2, h3, rfl⟩
          · cases hr2
        · cases hr
      | _ => cases hr
    · cases hr
  · cases hr

/-- More may be read: a new block. -/
theorem HR.addK {w' : World} (H : HR C w K A h) (hg : w.grownBy w' none) {g : Nat} (h1 : w.heap.size ≤ g) (h2 : g < w'.heap.size) :
    HR C w' (fun b => K b ∨ b = g) A h ∧ Ext K A h w (fun b => K b ∨ b = g) A h w' := by
  have hw : ∀ b, b < w.heap.size → w'.heap[b]? = w.heap[b]? := fun b hb => hg.block b hb (by simp)
  have x : Ext K A h w (fun b => K b ∨ b = g) A h w' :=
    ⟨fun b hb => ⟨.inl hb, hw b (H.kset b hb).1⟩, fun i hi => ⟨hi, rfl, rfl⟩, fun i e k xs' _ hgi => ⟨xs', hgi, rfl⟩, fun i k xs' _ hgi => .inr ⟨xs', hgi, rfl⟩⟩
  refine ⟨⟨fun i b hb => BlkR.keep x hb (fun hu => hw _ (H.own i hu).2.1) (H.blk i b hb), H.inj, fun i hu => ?_, fun b hb => ?_, fun b hb => .inl (H.k0 b hb), fun g l hl => x.leaf (H.glob g l hl),
    hg.os.trans H.os, hg.tape.trans H.tape, hg.output.trans H.output, Nat.le_trans H.size hg.size, fun b hb hl => (hw b (Nat.lt_of_lt_of_le hb H.size)).trans (H.frame b hb hl)⟩, x⟩
  · obtain ⟨a, b, c⟩ := H.own i hu
    refine ⟨fun hk => ?_, Nat.lt_of_lt_of_le b hg.size, c⟩
    rcases hk with hk | hk
    · exact a hk
    · omega
  · rcases hb with hb | hb
    · obtain ⟨a, c⟩ := H.kset b hb
      exact ⟨Nat.lt_of_lt_of_le a hg.size, c⟩
    · rw [hb]
      exact ⟨h2, .inr (.inl (Nat.le_trans H.size h1))⟩

theorem isNew_ok {k : Nat} {α : Type} {f : Unit → Option α} {y : α} (hb : (isNew h k).bind f = some y) : h.get k = none ∧ f () = some y := by
  unfold isNew at hb
  split at hb
  · rename_i hg
    exact ⟨hg, hb⟩
  · cases hb

theorem limit {n bytes : Nat} (hb : 0 < bytes) (hl : n * bytes ≤ capLimit) : n ≤ maxLen ∧ n * bytes ≤ 140737488355328 := by
  have : n ≤ n * bytes := Nat.le_mul_of_pos_right n hb
  unfold capLimit at hl
  unfold maxLen
  omega

theorem grown_refl (ob : Option Nat) : w.grownBy w ob := ⟨rfl, rfl, rfl, Nat.le_refl _, fun _ _ _ => rfl⟩

/-- Cells that are put behind those of a slice that nobody else has. -/
theorem append_own (t ty e : TypeId) (i : TypeInfo) (z : Value) (size bytes : Nat) (ht : P.underlying t = some (.slice e)) (hi : P.info? e = some i) (hz : i.zero = some z) (hsize : i.size = size) (hby : i.bytes = bytes) (hzs : z.cells.size = size) (hsz : 0 < size)
    (v : Value) (n : Nat) (xs : List Value) (hown : Owns w e size v n xs) (a : Addr) (m c : Nat) (news : List Value) (hl : news.length = m * size) (hnews : ∀ j u, news[j]? = some u → w.cell? (a.add j) = some u) (h1 : ∀ u ∈ news, u.oneCell' = true)
    (hm : 0 < m) (h63 : n + m ≤ maxLen) (hbytes : (n + m) * bytes ≤ 140737488355328) :
    ∃ v' w', (Builtin.append_ #[t, t] ty #[v, .slice (some a) m c]).run P w = .ok v' w' ∧ Owns w' e size v' (n + m) (xs ++ news) ∧ w.grownBy w' (ownB v) ∧ ∀ g, ownB v' = some g → ownB v = some g ∨ w.heap.size ≤ g := by
  have key : ∀ {v' : Value} {w' : World}, w'.ownsRow w.heap.size e size v' (n + m) (xs ++ news) → w.grownBy w' none →
      Owns w' e size v' (n + m) (xs ++ news) ∧ w.grownBy w' (ownB v) ∧ ∀ g, ownB v' = some g → ownB v = some g ∨ w.heap.size ≤ g := fun {v' w'} ho hg => by
    refine ⟨Owns.of ho, ⟨hg.os, hg.tape, hg.output, hg.size, fun k hk _ => hg.block k hk (by simp)⟩, fun g' hg' => .inr ?_⟩
    rcases ho.2 with ⟨hv, _⟩ | ⟨g, cap, cur, hv, hb, _, h2, _⟩
    · rw [hv] at hg'
      cases hg'
    · rw [hv, ownB_pos (by omega)] at hg'
      cases hg'
      exact hb
  rcases hown.2 with ⟨rfl, a0, rfl⟩ | ⟨g, cap, cur, fz, rfl, h0, hg, hzz, hle, hcm, hcs, htk⟩
  · have hx : xs = [] := List.eq_nil_of_length_eq_zero (by simpa using hown.1)
    subst hx
    cases a0 with
    | none =>
      obtain ⟨v', w', hrun, ho', hg', _, hb'⟩ := run_append_own_at (P := P) w w.heap.size t ty e i z size bytes ht hi hz hsize hby hzs hsz (.slice none 0 0) 0 [] (World.ownsRow_nil w _ e size) a m c news hl hnews h1 h63 hbytes (Nat.le_refl _)
      exact ⟨v', w', hrun, key ho' (by simpa [Value.ownBlock] using hg')⟩
    | some a1 =>
      obtain ⟨v', w', hrun, ho', hg'⟩ := run_append_arg_grows (P := P) (w := w) t ty e i z size bytes ht hi hz hsize hby hzs hsz a1 0 0 [] (by simp) (fun j u hj => by simp at hj) a m c news hl hnews (by omega) h63 hbytes
      exact ⟨v', w', hrun, key ho' hg'⟩
  · have hcell : ∀ j u, xs[j]? = some u → w.cell? ((⟨g, 0, none⟩ : Addr).add j) = some u := fun j u hj => by
      rw [add_plain', Nat.zero_add]
      simp only [World.cell?, hg]
      have hj2 : j < n * size := by
        have := (List.getElem?_eq_some_iff.1 hj).1
        rw [hown.1] at this
        exact this
      rw [← htk, List.getElem?_take_of_lt hj2] at hj
      simpa using hj
    by_cases hroom : n + m ≤ cap
    · subst hsize
      have hfit : n * i.size + news.length ≤ cur.size := by
        rw [hl, hcs, ← Nat.add_mul]
        exact Nat.mul_le_mul_right _ hroom
      have hf := run_firstCells_some (P := P) w i.size m a m c news hl hnews
      have hst := storeCells_fz (P := P) (o := n * i.size) news 0 cur w hg hzz (by simpa using hfit) h1
      simp only [Nat.add_zero] at hst
      refine ⟨.slice (some ⟨g, 0, none⟩) (n + m) cap, w.setRow g (cur.toList.take (n * i.size) ++ news ++ cur.toList.drop (n * i.size + news.length)).toArray, ?_, ⟨?_, .inr ⟨g, cap, _, fz, rfl, h0, setRow_heap w g cur _ e _ hg, ?_, hroom, hcm, ?_, ?_⟩⟩,
        ⟨rfl, rfl, rfl, by simp, fun k _ hk => setRow_other w g k _ fun ee => hk (by rw [ee, ownB_pos h0])⟩, fun g' hg' => .inl (by rw [ownB_pos h0] at hg' ⊢; exact hg')⟩
      · simp [Builtin.append_, run_underlying ht, sizeOf, typeInfo, hi, Builtin.lenOf, hroom, hf, add_plain', hst]
      · rw [List.length_append, hown.1, hl, Nat.add_mul]
      · unfold fzOK at *
        refine hzz.imp id fun hh => ?_
        simp only [List.size_toArray, List.length_append, List.length_take, List.length_drop, Array.length_toList]
        omega
      · simp only [List.size_toArray, List.length_append, List.length_take, List.length_drop, Array.length_toList]
        omega
      · rw [htk]
        have : (n + m) * i.size = (xs ++ news).length := by rw [List.length_append, hown.1, hl, Nat.add_mul]
        rw [this]
        exact List.take_left
    · obtain ⟨v', w', hrun, ho', hg'⟩ := run_append_arg_grows (P := P) (w := w) t ty e i z size bytes ht hi hz hsize hby hzs hsz ⟨g, 0, none⟩ n cap xs hown.1 hcell a m c news hl hnews (by omega) h63 hbytes
      exact ⟨v', w', hrun, key ho' hg'⟩

theorem appendR_R (H : HR C w K A h) {t tyo : TypeId} {ty : Ty} (T : TyOK P t ty) {key : Nat} {s x : Leaf} {vs vx : Value} (hs : LeafR w K A h s vs) (hx : LeafR w K A h x vx) (hr : appendR ty key h s x = some r) (hc : r.c ≠ some false) :
    ∃ v w' K' A', (Builtin.append_ #[t, t] tyo #[vs, vx]).run P w = .ok v w' ∧ HR C w' K' A' (h.sets r.u) ∧ Ext K A h w K' A' (h.sets r.u) w' ∧ SlotR w' K' A' (h.sets r.u) r.v v := by
  unfold appendR at hr
  split at hr
  · rename_i e k bts he
    obtain ⟨hu, inf, z, hinf, hz, hsz, hby, hzc, hpos, hbp, hdf⟩ := slice_ty T he
    split at hr
    · rename_i ys hys
      obtain ⟨hnew, hr⟩ := isNew_ok hr
      obtain ⟨A0, cx, news, rfl, hnews, hcell⟩ := elems_R H hx hys
      -- onto an owned row
      have own : ∀ {h1 : Heap} {K1 : KSet} {v : Value} {zs : List k.T} {l : List Value}, HR C w K1 A h1 → Ext K A h w K1 A h1 w → h1.get key = none → Owns w e k.sz v zs.length l → RowR w K1 k zs l →
          (∀ g, ownB v = some g → ¬ K1 g ∧ g < w.heap.size ∧ (C.w0.heap.size ≤ g ∨ C.lent g) ∧ ∀ i, Uses A h1 i → A.m i ≠ g) → (zs.length + ys.length) * bts ≤ capLimit →
          ∃ v' w' K' A', (Builtin.append_ #[t, t] tyo #[v, .slice A0 ys.length cx]).run P w = .ok v' w' ∧ HR C w' K' A' (h1.set key (.row e k (zs ++ ys))) ∧
            Ext K A h w K' A' (h1.set key (.row e k (zs ++ ys))) w' ∧ LeafR w' K' A' (h1.set key (.row e k (zs ++ ys))) (.row key) v' := fun {h1 K1 v zs l} H1 x1 hn ho hr1 hob hlim => by
        have hr2 : RowR w K1 k (zs ++ ys) (l ++ news) := RowR_app hr1 (x1.rowR hnews)
        obtain ⟨hl1, hl2⟩ := limit hbp hlim
        have hlen : (zs ++ ys).length = zs.length + ys.length := List.length_append
        have fin : ∀ {v' : Value} {w' : World}, Owns w' e k.sz v' (zs.length + ys.length) (l ++ news) → w.grownBy w' (ownB v) → (∀ g, ownB v' = some g → ownB v = some g ∨ w.heap.size ≤ g) →
            ∃ K' A', HR C w' K' A' (h1.set key (.row e k (zs ++ ys))) ∧ Ext K A h w K' A' (h1.set key (.row e k (zs ++ ys))) w' ∧ LeafR w' K' A' (h1.set key (.row e k (zs ++ ys))) (.row key) v' := fun {v' w'} ho' hg' hb' => by
          obtain ⟨A', H2, x2, hd⟩ := H1.addRow (k := k) (xs := zs ++ ys) (ownB v) hn hg' hob (by rw [hlen]; exact ho') hr2 hpos hb'
          obtain ⟨a1, c1, hsl⟩ := ho'.slice
          refine ⟨K1, A', H2, x1.trans x2, ?_, hd.symm, _, _, _, hsl⟩
          unfold Ev.has
          rw [Heap.get_set, if_pos rfl]
          rfl
        by_cases h0 : ys.length = 0
        · have hy : ys = [] := List.eq_nil_of_length_eq_zero h0
          subst hy
          have hn0 : news = [] := hnews
          subst hn0
          have ho0 : Owns w e k.sz v (zs.length + ([] : List k.T).length) (l ++ []) := by simpa using ho
          obtain ⟨K', A', a, b, c⟩ := fin ho0 (grown_refl _) (fun g hg => .inl hg)
          refine ⟨v, w, K', A', ?_, a, b, c⟩
          rcases ho.2 with ⟨_, a1, h1⟩ | ⟨g, cap, cur, fz, hv, _, _, _, hle, _⟩
          · rw [h1]
            exact append_zero hu hinf (Nat.le_refl _) A0
          · rw [hv]
            exact append_zero hu hinf hle A0
        · obtain ⟨ad, rfl, hcell'⟩ := hcell.resolve_left h0
          obtain ⟨v', w', hrun, ho', hg', hb'⟩ := append_own (P := P) (w := w) t tyo e inf z k.sz bts hu hinf hz hsz hby hzc hpos v zs.length l ho ad ys.length cx news (RowR_len hnews) hcell'
            (RowR_cell hnews) (by omega) hl1 hl2
          obtain ⟨K', A', a, b, c⟩ := fin ho' hg' hb'
          exact ⟨v', w', K', A', hrun, a, b, c⟩
      cases s with
      | nils =>
        cases hr
        have hlim : (([] : List k.T).length + ys.length) * bts ≤ capLimit := by
          simpa using of_decide_eq_true (not_false_of hc)
        rw [show vs = _ from hs]
        obtain ⟨v', w', K', A', a, b, c, d⟩ := own (zs := []) (l := []) H (Ext.refl _ _ _ _) hnew ⟨by simp, .inl ⟨rfl, none, rfl⟩⟩ rfl (fun g hg => by cases hg) hlim
        exact ⟨v', w', K', A', a, b, c, d⟩
      | emp =>
        cases hr
        have hlim : (([] : List k.T).length + ys.length) * bts ≤ capLimit := by
          simpa using of_decide_eq_true (not_false_of hc)
        obtain ⟨a1, hs⟩ := hs
        rw [hs]
        obtain ⟨v', w', K', A', a, b, c, d⟩ := own (zs := []) (l := []) H (Ext.refl _ _ _ _) hnew ⟨by simp, .inl ⟨rfl, a1, rfl⟩⟩ rfl (fun g hg => by rw [ownB_zero] at hg; cases hg) hlim
        exact ⟨v', w', K', A', a, b, c, d⟩
      | clip k' xs =>
        simp only at hr
        split at hr
        · rename_i zs hzs
          cases hr
          have hlim := of_decide_eq_true (not_false_of hc)
          obtain ⟨hl1, hl2⟩ := limit hbp hlim
          obtain ⟨hR, a0, hvs⟩ := hs
          have hR2 : Kd.R w K (.sl k) zs [vs] := R_cast (k := .sl k') (k' := .sl k) hzs hR
          have hlz : zs.length = xs.length := by
            obtain ⟨e0, he0⟩ := castK_eq hzs
            injection e0 with e0
            subst e0
            rw [← he0]
          subst hvs
          obtain ⟨hn0, _, olds, holds, hoc⟩ := R_row hR2
          by_cases h0 : ys.length = 0
          · have hy : ys = [] := List.eq_nil_of_length_eq_zero h0
            subst hy
            refine ⟨_, w, K, A, append_zero hu hinf (Nat.le_refl _) A0, H, Ext.refl _ _ _ _, ?_⟩
            show Kd.R w K (.sl k) (zs ++ []) _
            rw [List.append_nil]
            exact hR2
          · obtain ⟨ad, rfl, hcell'⟩ := hcell.resolve_left h0
            have fin : ∀ {v' : Value} {w' : World} {base : Nat}, w.heap.size ≤ base → w'.ownsRow base e k.sz v' (zs.length + ys.length) (olds ++ news) → w.grownBy w' none →
                ∃ K', HR C w' K' A h ∧ Ext K A h w K' A h w' ∧ Kd.R w' K' (.sl k) (zs ++ ys) [v'] := fun {v' w' base} hbase ho' hg' => by
              rcases ho'.2 with h1 | ⟨g, cap, cur, hv, hb, hcc, h2, h3, h4, h5⟩
              · omega
              · obtain ⟨H2, x2⟩ := H.addK hg' (Nat.le_trans hbase hb) (Array.getElem?_eq_some_iff.1 hcc).1
                refine ⟨_, H2, x2, ?_⟩
                refine owns_R (e := e) (l := olds ++ news) (K := fun b => K b ∨ b = g) ?_ (RowR_app (x2.rowR holds) (x2.rowR hnews)) (fun b hb => hb) (fun g' hg'' => ?_)
                · rw [List.length_append]
                  exact Owns.of (base := base) ⟨ho'.1, .inr ⟨g, cap, cur, hv, hb, hcc, h2, h3, h4, h5⟩⟩
                · rw [hv, ownB_pos (by omega)] at hg''
                  cases hg''
                  exact .inr rfl
            cases a0 with
            | none =>
              have hz0 : zs.length = 0 := by
                rcases hoc with h | ⟨_, h, _⟩
                · exact h
                · cases h
              have hx0 : xs.length = 0 := by omega
              have hz1 : zs = [] := List.eq_nil_of_length_eq_zero hz0
              subst hz1
              have ho1 : olds = [] := holds
              subst ho1
              rw [hx0]
              obtain ⟨v', w', hrun, ho', hg', _, hb'⟩ := run_append_own_at (P := P) w w.heap.size t tyo e inf z k.sz bts hu hinf hz hsz hby hzc hpos (.slice none 0 0) 0 [] (World.ownsRow_nil w _ e k.sz) ad ys.length cx news (RowR_len hnews) hcell'
                (RowR_cell hnews) (by simpa using hl1) (by simpa using hl2) (Nat.le_refl _)
              obtain ⟨K', H2, x2, R2⟩ := fin (Nat.le_refl _) (by simpa using ho') (by simpa [Value.ownBlock] using hg')
              exact ⟨v', w', K', A, hrun, H2, x2, R2⟩
            | some b0 =>
              have holds2 : ∀ j u, olds[j]? = some u → w.cell? (b0.add j) = some u := by
                rcases hoc with h | ⟨ad', e', h⟩
                · intro j u hj
                  have : olds.length = 0 := by rw [RowR_len holds, h]; simp
                  have hj' := (List.getElem?_eq_some_iff.1 hj).1
                  omega
                · cases e'
                  exact h
              rw [← hlz] at *
              obtain ⟨v', w', hrun, ho', hg'⟩ := run_append_arg_grows (P := P) (w := w) t tyo e inf z k.sz bts hu hinf hz hsz hby hzc hpos b0 zs.length zs.length olds (RowR_len holds) holds2 ad ys.length cx news (RowR_len hnews) hcell'
                (by omega) hl1 hl2
              obtain ⟨K', H2, x2, R2⟩ := fin (Nat.le_refl _) ho' hg'
              exact ⟨v', w', K', A, hrun, H2, x2, R2⟩
        · cases hr
      | row id =>
        simp only at hr
        split at hr
        · rename_i e' k' xs hg
          have hee := Nat.eq_of_beq_eq_true (bif_some hr).1
          replace hr := (bif_some hr).2
          subst hee
          split at hr
          · rename_i zs hzs
            obtain ⟨e0, he0⟩ := castK_eq hzs
            injection e0 with e0
            subst e0
            subst he0
            cases hr
            have hlim := of_decide_eq_true (not_false_of hc)
            obtain ⟨l', ho, hr', hb, hz'⟩ := H.blk id _ hg
            obtain ⟨H1, x1⟩ := H.kill (has_of_get hg)
            have hne : key ≠ id := fun e => by rw [e, hg] at hnew; cases hnew
            rw [hs.2.1]
            obtain ⟨v', w', K', A', a, b, c, d⟩ := own H1 x1 (by rw [Heap.get_set, if_neg hne]; exact hnew) ho hr' (fun g hgo => by
              have hgm : g = A.m id := by
                rcases hb with hb | hb
                · rw [hb] at hgo; cases hgo
                · rw [hb] at hgo; cases hgo; rfl
              subst hgm
              have hu0 := uses_row hg hgo
              obtain ⟨p, q, s⟩ := H.own id hu0
              refine ⟨p, q, s, fun i hui hm => ?_⟩
              unfold Uses at hui
              rw [Heap.get_set] at hui
              by_cases ei : i = id
              · rw [if_pos ei] at hui; exact hui
              · rw [if_neg ei] at hui
                exact ei (H.inj i id hui hu0 hm)) hlim
            exact ⟨v', w', K', A', a, b, c, d⟩
          · cases hr
        · cases hr
      | _ => cases hr
    · cases hr
  · cases hr

/-- A new block that the call has to itself. -/
theorem new_row (H : HR C w K A h) {key : Nat} {e : TypeId} {k : Kd} {xs : List k.T} {l : List Value} {v : Value} {w' : World} (hn : h.get key = none) (hg : w.grownBy w' none) (ho : Owns w' e k.sz v xs.length l) (hr : RowR w K k xs l) (hz : 0 < k.sz)
    (hv : ∀ g, ownB v = some g → w.heap.size ≤ g) :
    ∃ K' A', HR C w' K' A' (h.sets [(key, .row e k xs)]) ∧ Ext K A h w K' A' (h.sets [(key, .row e k xs)]) w' ∧ SlotR w' K' A' (h.sets [(key, .row e k xs)]) (one (.row key)) v := by
  obtain ⟨A', H2, x2, hd⟩ := H.addRow (k := k) (xs := xs) none hn hg (fun g hg => by cases hg) ho hr hz (fun g hg => .inr (hv g hg))
  obtain ⟨a1, c1, hsl⟩ := ho.slice
  refine ⟨K, A', H2, x2, ?_, hd.symm, _, _, _, hsl⟩
  unfold Ev.has
  show ((h.set key (.row e k xs)).get key).isSome = true
  rw [Heap.get_set, if_pos rfl]
  rfl

/-- What a step makes. -/
def Steps1 (P : Program) (C : Ctx) (K : KSet) (A : Asg) (h : Heap) (w : World) (x : Sem Value) (r : OR) : Prop :=
  r.c ≠ some false → ∃ v w' K' A', x.run P w = .ok v w' ∧ HR C w' K' A' (h.sets r.u) ∧ Ext K A h w K' A' (h.sets r.u) w' ∧ SlotR w' K' A' (h.sets r.u) r.v v

theorem Pure1.steps {x : Sem Value} (H : HR C w K A h) (p : Pure1 P w K A h x r) : Steps1 P C K A h w x r := fun hc => by
  obtain ⟨hu, hf⟩ := p
  obtain ⟨v, hrun, hR⟩ := hf hc
  rw [hu]
  exact ⟨v, w, K, A, hrun, H, Ext.refl _ _ _ _, hR⟩

theorem sliceR_S (H : HR C w K A h) {t : TypeId} {ty : Ty} (T : TyOK P t ty) {l : Leaf} {v : Value} {lo hi mx : Option Int} {vlo vhi vmx : Option Value} (hlo : OptR lo vlo) (hhi : OptR hi vhi) (hmx : OptR mx vmx)
    (hl : LeafR w K A h l v) {key : Nat} {cz lz : Bool} (hr : sliceR cz lz ty key h l lo hi mx = some r) : Steps1 P C K A h w (Instr.sliceAt t v vlo vhi vmx) r := by
  by_cases hrow : ∃ id e k xs, l = .row id ∧ h.get id = some (.row e k xs)
  · obtain ⟨id, e, k, xs, rfl, hg⟩ := hrow
    simp only [sliceR, hg] at hr
    split at hr
    · rename_i e' k' b he
      cases mx with
      | some m => cases hr
      | none =>
        cases vmx with
        | some _ => exact hmx.elim
        | none =>
          cases lz with
          | false =>
          simp only [cond_false] at hr
          split at hr
          · rename_i r' hr'
            cases hr
            obtain ⟨K1, H1, x1, hR⟩ := freeze1 H hg
            have hv : v = A.hd id := hl.2.1
            obtain ⟨_, hp⟩ := sliceData_R (A := A) (h := h.set id (.frz k xs)) T hlo hhi (vmx := none) (by trivial) hR hr'
            intro hc
            obtain ⟨v', h1, h2⟩ := hp hc
            exact ⟨v', w, K1, A, by rw [hv]; exact h1, H1, x1, h2⟩
          · cases hr
          | true =>
          simp only [cond_true] at hr
          have hz := (bif_some hr).1
          replace hr := (bif_some hr).2
          simp only [Bool.and_eq_true] at hz
          obtain ⟨hz, hee, hkk⟩ := hz
          have hee := Nat.eq_of_beq_eq_true hee
          have hkk := Kd.eq_of_beq hkk
          subst hee
          subst hkk
          obtain ⟨hnew, hr⟩ := isNew_ok hr
          cases hr
          intro hc
          obtain ⟨hu, inf, z, hinf, _, hsz, _⟩ := slice_ty T he
          obtain ⟨l', ho, hr', hb, hz'⟩ := H.blk id _ hg
          obtain ⟨H1, x1⟩ := H.kill (has_of_get hg)
          have hne : key ≠ id := fun e => by rw [e, hg] at hnew; cases hnew
          obtain ⟨hc1, hc2⟩ := bounds_lo hz hc
          generalize hn2 : (bounds xs.length none hi).2.2 = n2 at *
          have hmax : n2 ≤ xs.length := by
            obtain ⟨_, _, h2⟩ := bounds_run (P := P) (w := w) (isS := true) hlo hhi (Nat.le_refl xs.length) hc1
            rw [hc2] at h2
            exact h2
          have hlen : (xs.take n2).length = n2 := by simp; omega
          obtain ⟨A0, cap, hv0, hrun, ho2, hob⟩ : ∃ A0 cap, v = .slice A0 xs.length cap ∧ (Instr.sliceAt t v vlo vhi none).run P w = .ok (.slice A0 n2 cap) w ∧ Owns w e k.sz (.slice A0 n2 cap) n2 (l'.take (n2 * k.sz)) ∧ ownB (.slice A0 n2 cap) = ownB (A.hd id) := by
            rw [hl.2.1]
            have hll : (l'.take (n2 * k.sz)).length = n2 * k.sz := by
              rw [List.length_take, ho.1, Nat.min_eq_left (Nat.mul_le_mul_right _ hmax)]
            rcases ho.2 with ⟨h0, a, hv⟩ | ⟨g, cap, cur, fz, hv, h0, hcc, hfz, hle, hcm, hcs, htk⟩
            · have h00 : n2 = 0 := by omega
              have hr0 := slice_run (P := P) (w := w) (A0 := a) (cap := 0) hu (size_e hinf hsz) hlo hhi (show xs.length ≤ 0 by omega) hc1
              rw [hc2] at hr0
              rw [hv]
              refine ⟨a, 0, by rw [h0], ?_, ⟨hll, .inl ⟨h00, a, by rw [h00]⟩⟩, by rw [ownB_zero, ownB_zero]⟩
              rw [h0] at hr0
              simpa using hr0
            · have hr0 := slice_run (P := P) (w := w) (A0 := some ⟨g, 0, none⟩) (cap := cap) hu (size_e hinf hsz) hlo hhi hle hc1
              rw [hc2] at hr0
              rw [hv]
              refine ⟨_, cap, rfl, ?_, ⟨hll, .inr ⟨g, cap, cur, fz, rfl, h0, hcc, hfz, by omega, hcm, hcs, ?_⟩⟩, by rw [ownB_pos h0, ownB_pos h0]⟩
              · have : ¬ cap = 0 := by omega
                simpa [add_plain', this] using hr0
              · rw [← htk, List.take_take, Nat.min_eq_left (Nat.mul_le_mul_right _ hmax)]
          obtain ⟨A', H2, x2, hd⟩ := H1.addRow (k := k) (xs := xs.take n2) (e := e) (l := l'.take (n2 * k.sz)) (v := .slice A0 n2 cap) (w' := w) (ownB (A.hd id)) (id := key) (by rw [Heap.get_set, if_neg hne]; exact hnew) (grown_refl _) (fun g hgo => by
              have hgm : g = A.m id := by
                rcases hb with hb | hb
                · rw [hb] at hgo; cases hgo
                · rw [hb] at hgo; cases hgo; rfl
              subst hgm
              have hu0 := uses_row hg hgo
              obtain ⟨p, q, s⟩ := H.own id hu0
              refine ⟨p, q, s, fun i hui hm => ?_⟩
              unfold Uses at hui
              rw [Heap.get_set] at hui
              by_cases ei : i = id
              · rw [if_pos ei] at hui; exact hui
              · rw [if_neg ei] at hui
                exact ei (H.inj i id hui hu0 hm)) (by rw [hlen]; exact ho2) (x1.rowR (RowR_take n2 hr')) hz' (fun g hg => .inl (by rw [← hob]; exact hg))
          refine ⟨_, w, K, A', hrun, H2, x1.trans x2, ?_, hd.symm, _, _, _, rfl⟩
          unfold Ev.has
          show (((h.set id .dead).set key (.row e k (xs.take n2))).get key).isSome = true
          rw [Heap.get_set, if_pos rfl]
          rfl
    · cases hr
  · exact Pure1.steps H (sliceR_R H T hlo hhi hmx hl hr fun id e k xs h1 h2 => hrow ⟨id, e, k, xs, h1, h2⟩)

theorem made_cells {k : Kd} {z : Array Value} (hd : Kd.R w K k k.dflt z.toList) (hz : z.size = k.sz) (n : Nat) : RowR w K k (List.replicate n k.dflt) (madeCells z (n * k.sz)).toList := by
  refine RowR_of (by simp [madeCells]) fun i hi => ?_
  have hi' : i < n := by simpa using hi
  have e1 : ((madeCells z (n * k.sz)).toList.drop (i * k.sz)).take k.sz = z.toList := by
    apply List.ext_getElem?
    intro j
    have hle : i * k.sz + k.sz ≤ n * k.sz := by rw [← Nat.succ_mul]; exact Nat.mul_le_mul_right _ hi'
    by_cases hj : j < k.sz
    · rw [List.getElem?_take_of_lt hj, List.getElem?_drop]
      have h1 : i * k.sz + j < n * k.sz := by omega
      have h2 : (i * k.sz + j) % k.sz = j := by rw [Nat.mul_comm, Nat.mul_add_mod, Nat.mod_eq_of_lt hj]
      have h3 : j < z.size := by omega
      have h4 : z[j]! = z[j] := getElem!_pos z j h3
      have h5 : z[j]? = some z[j] := getElem?_pos z j h3
      simp [madeCells, h1, hz, h2, h4, h5]
    · rw [List.getElem?_eq_none (by simp [List.length_take]; omega), List.getElem?_eq_none (by simp; omega)]
  have e2 : (List.replicate n k.dflt).getD i k.dflt = k.dflt := by simp [List.getD, hi']
  rw [e1, e2]
  exact hd

theorem growR_R (H : HR C w K A h) {t t' tyo : TypeId} {ty ty' : Ty} {ik : IntKind} (T : TyOK P t ty) (T' : TyOK P t' ty') (hik : ty'.d = .int ik) {key : Nat} {s : Leaf} {vs : Value} {n : Int} (hs : LeafR w K A h s vs) (hr : growR ty key h s n = some r) (hc : r.c ≠ some false) :
    ∃ v w' K' A', (Builtin.append_ #[t, t'] tyo #[vs, .int .i64 n]).run P w = .ok v w' ∧ HR C w' K' A' (h.sets r.u) ∧ Ext K A h w K' A' (h.sets r.u) w' ∧ SlotR w' K' A' (h.sets r.u) r.v v := by
  unfold growR at hr
  split at hr
  · rename_i e k bts he
    obtain ⟨hu, inf, z, hinf, hz, hsz, hby, hzc, hpos, hbp, hdf⟩ := slice_ty T he
    split at hr
    · obtain ⟨hnew, hr⟩ := isNew_ok hr
      cases hr
      have hc' := of_decide_eq_true (not_false_of hc)
      obtain ⟨h0, h2⟩ := hc'
      obtain ⟨hm1, hm2⟩ := limit hbp h2
      obtain ⟨m, rfl⟩ := Int.eq_ofNat_of_zero_le h0
      simp only [Int.toNat_natCast] at h2 hm1 hm2 ⊢
      have hu' : P.underlying t' = some (.int ik) := by
        have := T'.desc
        rw [hik] at this
        exact this
      have hm1' : m ≤ 140737488355328 := Nat.le_trans (Nat.le_mul_of_pos_right m hbp) hm2
      rw [show vs = _ from hs]
      have hw : IntKind.i64.wrap (m : Int) = (m : Int) := by
        simp [IntKind.wrap, IntKind.signed, IntKind.bits]
        omega
      have hb1 : ¬ (281474976710656 < (m : Int) * (inf.bytes : Int)) := by
        have h6 : ((m * bts : Nat) : Int) ≤ 140737488355328 := by omega
        rw [Int.natCast_mul] at h6
        rw [hby]
        omega
      by_cases hz0 : m = 0
      · subst hz0
        have hrun : (Builtin.append_ #[t, t'] tyo #[.slice none 0 0, .int .i64 ((0 : Nat) : Int)]).run P w = .ok (.slice none 0 0) w := by
          have hw0 : IntKind.i64.wrap 0 = 0 := by decide
          simp [Builtin.append_, run_underlying hu, run_underlying hu', sizeOf, typeInfo, hinf, asInt, asIntOf, hw0]
        obtain ⟨K', A', a, b, d⟩ := new_row (e := e) (k := k) (xs := []) (l := []) (v := .slice none 0 0) H hnew (grown_refl none) ⟨by simp, .inl ⟨rfl, none, rfl⟩⟩ rfl hpos (fun g hg => by rw [ownB_zero] at hg; cases hg)
        exact ⟨_, _, K', A', hrun, a, b, d⟩
      · have hg : 0 < m := by omega
        have hge := grownCap_ge w m 0 e
        have hcm : grownCap w m 0 e ≤ maxLen := grownCap_le_maxLen w m 0 e hm1
        have hfit : ¬ (281474976710656 < Builtin.nextslicecap m 0 * inf.bytes) := by
          have : Builtin.nextslicecap m 0 = m := by simp [Builtin.nextslicecap, hg]
          rw [this, hby]
          omega
        have hsz0 : ¬ (inf.size = 0) := by omega
        have hms : ¬ (m * inf.size = 0) := by
          have := Nat.mul_pos hg (by omega : 0 < inf.size)
          omega
        have hneg : ¬ ((m : Int) < 0) := by omega
        have h63' : ¬ (9223372036854775807 < (m : Int)) := by omega
        have hrun : (Builtin.append_ #[t, t'] tyo #[.slice none 0 0, .int .i64 (m : Int)]).run P w =
            .ok (.slice (some ⟨w.heap.size, 0, none⟩) m (grownCap w m 0 e)) (w.drew.alloc (.cells (Builtin.zeroCells z.cells m ++ Builtin.zeroCells z.cells (grownCap w m 0 e - m)) e)) := by
          simp [Builtin.append_, run_underlying hu, run_underlying hu', sizeOf, typeInfo, zeroValue, hinf, hz, asInt, asIntOf, hw, hb1, hz0, hms, hneg, hfit, h63', Question.forced, Builtin.firstCells, newRow, grownCap]
        have hcells := made_cells (w := w) (K := K) (z := z.cells) (hdf w K) hzc m
        have e1 : Builtin.zeroCells z.cells m = madeCells z.cells (m * k.sz) := by rw [← hzc]; rfl
        have ho : Owns (w.drew.alloc (.cells (Builtin.zeroCells z.cells m ++ Builtin.zeroCells z.cells (grownCap w m 0 e - m)) e)) e k.sz (.slice (some ⟨w.heap.size, 0, none⟩) m (grownCap w m 0 e)) (List.replicate m k.dflt).length (madeCells z.cells (m * k.sz)).toList := by
          refine Owns.of (base := 0) ⟨?_, .inr ⟨w.heap.size, _, _, by simp, Nat.zero_le _, heap_alloc_new w.drew _, ?_, hcm, ?_, ?_⟩⟩
          · simp [size_madeCells]
          · simpa using hge
          · simp only [Array.size_append, size_zeroCells, hzc, ← Nat.add_mul]
            congr 1
            omega
          · rw [Array.toList_append, e1, List.length_replicate]
            exact List.take_left' (by simp [size_madeCells])
        have hgb : w.grownBy (w.drew.alloc (.cells (Builtin.zeroCells z.cells m ++ Builtin.zeroCells z.cells (grownCap w m 0 e - m)) e)) none := ⟨rfl, rfl, rfl, by simp, fun b hb _ => RowKit.Below.heap_alloc w.drew _ b hb⟩
        obtain ⟨K', A', a, b, d⟩ := new_row (e := e) H hnew hgb ho hcells hpos (fun g hg => by
          rw [ownB_pos (by omega)] at hg; cases hg; exact Nat.le_refl _)
        exact ⟨_, _, K', A', hrun, a, b, d⟩
    · cases hr
  · cases hr

theorem makeR_S (H : HR C w K A h) {t : TypeId} {ty : Ty} (T : TyOK P t ty) {key : Nat} {n c : Int} {kn kc : IntKind} (hr : makeR ty key h n c = some r) : Steps1 P C K A h w (Instr.makeSlice t (.int kn n) (.int kc c)) r := by
  unfold makeR at hr
  split at hr
  · rename_i e k bts he
    obtain ⟨hu, inf, z, hinf, hz, hsz, hby, hzc, hpos, hbp, hdf⟩ := slice_ty T he
    obtain ⟨hnew, hr⟩ := isNew_ok hr
    cases hr
    intro hc
    have hc' := of_decide_eq_true (not_false_of hc)
    obtain ⟨h0, h1, h2⟩ := hc'
    obtain ⟨hm1, hm2⟩ := limit hbp h2
    have hcb : (inf.bytes : Int) * c ≤ 281474976710656 := by
      have h5 : inf.bytes * c.toNat ≤ 281474976710656 := by
        rw [hby, Nat.mul_comm]
        omega
      have h6 : ((inf.bytes * c.toNat : Nat) : Int) ≤ 281474976710656 := by omega
      rw [Int.natCast_mul, Int.toNat_of_nonneg (by omega)] at h6
      exact h6
    have hrun := run_make (P := P) w t e inf z hu hinf hz kn kc n c h0 h1 hcb (by unfold maxLen at hm1; omega)
    have hcells := made_cells (w := w) (K := K) (z := z.cells) (hdf w K) hzc c.toNat
    have ho : Owns (w.alloc (.cells (madeCells z.cells (c.toNat * inf.size)) e)) e k.sz (.slice (some ⟨w.heap.size, 0, none⟩) n.toNat c.toNat) (List.replicate n.toNat k.dflt).length ((madeCells z.cells (c.toNat * k.sz)).toList.take (n.toNat * k.sz)) := by
      refine Owns.of (base := 0) ⟨?_, .inr ⟨w.heap.size, c.toNat, _, by simp, Nat.zero_le _, alloc_heap_new _, ?_, hm1, ?_, ?_⟩⟩
      · simp only [List.length_replicate, List.length_take, Array.length_toList, size_madeCells]
        exact Nat.min_eq_left (Nat.mul_le_mul_right _ (by omega))
      · simp only [List.length_replicate]
        omega
      · rw [size_madeCells, hsz]
      · rw [List.length_replicate, hsz]
    have hrr : RowR w K k (List.replicate n.toNat k.dflt) ((madeCells z.cells (c.toNat * k.sz)).toList.take (n.toNat * k.sz)) := by
      have := RowR_take n.toNat hcells
      rw [List.take_replicate, Nat.min_eq_left (by omega)] at this
      exact this
    obtain ⟨K', A', a, b, d⟩ := new_row H hnew (World.grownBy_alloc w _ none) ho hrr hpos (fun g hg => by
      by_cases hc0 : c.toNat = 0
      · rw [hc0, ownB_zero] at hg; cases hg
      · rw [ownB_pos (by omega)] at hg; cases hg; exact Nat.le_refl _)
    exact ⟨_, _, K', A', hrun, a, b, d⟩
  · cases hr

end
end Go.Ev
