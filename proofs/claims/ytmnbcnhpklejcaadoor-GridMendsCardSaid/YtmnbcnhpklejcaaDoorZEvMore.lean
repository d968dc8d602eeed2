/- Addresses, slices, new memory. -/
import Derived.Test.YtmnbcnhpklejcaaDoorZEvMem
set_option linter.unusedVariables false
namespace Go.Ev
open Go.RowKit

section
variable {P : Program} {C : Ctx} {w : World} {K : KSet} {A : Asg} {h : Heap} {r : OR}

theorem offK_spec : ∀ {k : Kd} {f o : Nat}, offK k f = some o → ∀ {x : k.T} {l : Leaf}, dnth k x f = some l → ∃ (k' : Kd) (y : k'.T), l = .dptr k' y ∧ o + k'.sz ≤ k.sz ∧
      ∀ (w : World) (K : KSet) (cs : List Value), Kd.R w K k x cs → Kd.R w K k' y ((cs.drop o).take k'.sz)
  | .pr a b, 0, o, ho, x, l, hl => by
    simp only [offK, Option.some.injEq] at ho
    simp only [dnth, Option.some.injEq] at hl
    subst ho
    subst hl
    refine ⟨a, x.1, rfl, by simp [Kd.sz], fun w K cs H => ?_⟩
    obtain ⟨l1, l2, rfl, h1, h2⟩ := H
    have := Kd.R_len h1
    rw [List.drop_zero, ← this, List.take_left]
    exact h1
  | .pr a b, n + 1, o, ho, x, l, hl => by
    simp only [offK] at ho
    split at ho
    · rename_i o' ho'
      cases ho
      obtain ⟨k', y, rfl, hle, hR⟩ := offK_spec ho' (x := x.2) hl
      refine ⟨k', y, rfl, by simp only [Kd.sz]; omega, fun w K cs H => ?_⟩
      obtain ⟨l1, l2, rfl, h1, h2⟩ := H
      have := Kd.R_len h1
      rw [← List.drop_drop, ← this, List.drop_left]
      exact hR w K l2 h2
    · cases ho
  | .int _, 0, _, ho, _, _, _ => by cases ho
  | .int _, _ + 1, _, ho, _, _, _ => by cases ho
  | .bool, 0, _, ho, _, _, _ => by cases ho
  | .bool, _ + 1, _, ho, _, _, _ => by cases ho
  | .str, 0, _, ho, _, _, _ => by cases ho
  | .str, _ + 1, _, ho, _, _, _ => by cases ho
  | .sl _, 0, _, ho, _, _, _ => by cases ho
  | .sl _, _ + 1, _, ho, _, _, _ => by cases ho
  | .un, 0, _, ho, _, _, _ => by cases ho
  | .un, _ + 1, _, ho, _, _, _ => by cases ho

theorem mapM_get {α β : Type} {f : α → Option β} : ∀ {l : List α} {m : List β}, l.mapM f = some m → ∀ (i : Nat) (b : β), m[i]? = some b → ∃ a, l[i]? = some a ∧ f a = some b
  | [], m, hm, i, b, hb => by
    simp at hm
    subst hm
    simp at hb
  | x :: l, m, hm, i, b, hb => by
    simp only [List.mapM_cons, Option.pure_def, Option.bind_eq_bind, Option.bind_eq_some_iff, Option.some.injEq] at hm
    obtain ⟨y, hy, ys, hys, rfl⟩ := hm
    cases i with
    | zero =>
      simp at hb
      subst hb
      exact ⟨x, by simp, hy⟩
    | succ i =>
      obtain ⟨a, ha, hf⟩ := mapM_get hys i b (by simpa using hb)
      exact ⟨a, by simpa using ha, hf⟩

theorem struct_fields {t : TypeId} {ty : Ty} (T : TyOK P t ty) (hs : ty.isStruct = true) : ∃ fs, P.underlying t = some (.struct fs) ∧ fs.toList.mapM (fun f => (P.info? f.type).map fun i => (f.offset, i.size)) = some ty.fl := by
  have hd := T.desc
  unfold Ty.isStruct at hs
  split at hs
  · rename_i fl e hty
    rw [hty] at hd
    obtain ⟨fs, h1, h2, _⟩ := hd
    refine ⟨fs, h1, ?_⟩
    rw [h2]
    simp [Ty.fl, hty]
  · cases hs

theorem field_of {t : TypeId} {ty : Ty} (T : TyOK P t ty) (hs : ty.isStruct = true) {f off n : Nat} (hf : nth ty.fl f = some (off, n)) :
    ∃ fs fd, P.underlying t = some (.struct fs) ∧ fs[f]? = some fd ∧ fd.offset = off ∧ (Go.sizeOf fd.type).run P w = .ok n w := by
  obtain ⟨fs, h1, h2⟩ := struct_fields T hs
  rw [nth_eq] at hf
  obtain ⟨fd, h3, h4⟩ := mapM_get h2 f _ hf
  obtain ⟨i, hi, he⟩ := Option.map_eq_some_iff.1 h4
  simp only [Prod.mk.injEq] at he
  exact ⟨fs, fd, h1, by simpa using h3, he.1, by simp [Go.sizeOf, typeInfo, hi, he.2]⟩

theorem add_plain' (b o n : Nat) : (⟨b, o, none⟩ : Addr).add n = ⟨b, o + n, none⟩ := by unfold Addr.add; split <;> simp_all

theorem fieldAddrR_R {t : TypeId} {ty : Ty} (T : TyOK P t ty) {l l' : Leaf} {v : Value} {f : Nat} (hl : LeafR w K A h l v) (hr : fieldAddrR ty h l f = some l') :
    ∃ u, (Instr.fieldAt t v f).run P w = .ok u w ∧ LeafR w K A h l' u := by
  obtain ⟨hs, hr⟩ := bif_some hr
  split at hr
  · rename_i off n hf
    obtain ⟨fs, fd, hu, hfd, ho, hz⟩ := field_of (w := w) T hs hf
    cases hn : Nat.beq n 0 with
    | true => rw [hn] at hr; cases hr
    | false =>
      rw [hn] at hr
      have hn0 : ¬ n = 0 := fun e => by rw [e] at hn; cases hn
      have go : ∀ b o, (Instr.fieldAt t (.pointer (some ⟨b, o, none⟩)) f).run P w = .ok (.pointer (some ⟨b, o + off, none⟩)) w := fun b o => by
        simp only [Instr.fieldAt, Sem.run_bind, run_underlying hu w, Result.andThen_ok, hfd, Instr.sureAddr, Sem.run_pure, fieldPlace, hz, hn0, if_false]
        rw [add_plain', ho]
      cases l with
      | ptr id o =>
        cases hr
        exact ⟨_, by rw [hl.2]; exact go _ _, hl.1, rfl⟩
      | eptr id i o =>
        obtain ⟨h0, h1, h2⟩ := hl
        simp only at hr
        split at hr
        · rename_i e k xs hg
          cases hr
          obtain ⟨hi, rfl⟩ := h1 e k xs hg
          refine ⟨_, go _ _, h0, fun e' k' xs' hg' => ?_, fun k' xs' hg' => ?_⟩
          · rw [hg] at hg'; cases hg'; exact ⟨hi, by rw [Nat.add_assoc]⟩
          · rw [hg] at hg'; cases hg'
        · rename_i k xs hg
          cases hr
          obtain ⟨hi, rfl⟩ := h2 k xs hg
          refine ⟨_, go _ _, h0, fun e' k' xs' hg' => ?_, fun k' xs' hg' => ?_⟩
          · rw [hg] at hg'; cases hg'
          · rw [hg] at hg'; cases hg'; exact ⟨hi, by rw [Nat.add_assoc]⟩
        · cases hr
      | dptr k x =>
        simp only at hr
        split at hr
        · rename_i o hok
          obtain ⟨he, hr⟩ := bif_some hr
          have he := Nat.eq_of_beq_eq_true he
          obtain ⟨k', y, rfl, hle, hR⟩ := offK_spec hok hr
          obtain ⟨b, o', cs, t', fr, rfl, hK, hc, hR0⟩ := hl
          refine ⟨_, go _ _, b, o' + off, cs, t', fr, rfl, hK, hc, ?_⟩
          have := hR w K _ hR0
          rw [cellsAt_sub hle, he] at this
          exact this
        · cases hr
      | _ => cases hr
  · cases hr


theorem slice_ty {t : TypeId} {ty : Ty} (T : TyOK P t ty) {e : TypeId} {k : Kd} {b : Nat} (he : ty.el = some (e, k, b)) :
    P.underlying t = some (.slice e) ∧ ∃ i z, P.info? e = some i ∧ i.zero = some z ∧ i.size = k.sz ∧ i.bytes = b ∧ z.cells.size = k.sz ∧ 0 < k.sz ∧ 0 < b ∧ ∀ w K, Kd.R w K k k.dflt z.cells.toList := by
  have hd := T.desc
  unfold Ty.el at he
  split at he
  · rename_i e' k' b' hty
    cases he
    rw [hty] at hd
    exact hd
  · cases he

theorem idx_run {t e : TypeId} {s : Nat} (hu : P.underlying t = some (.slice e)) (hz : (Go.sizeOf e).run P w = .ok s w) {a : Addr} {len cap : Nat} {ik : IntKind} {i : Int} (hi : 0 ≤ i ∧ i < len) :
    (Instr.indexAt t (.slice (some a) len cap) (.int ik i)).run P w = .ok (.pointer (some (a.add (i.toNat * s)))) w := by
  simp [Instr.indexAt, run_underlying hu w, asIntOf, hi, hz]

theorem size_e {e : TypeId} {i : TypeInfo} {s : Nat} (hi : P.info? e = some i) (hs : i.size = s) : (Go.sizeOf e).run P w = .ok s w := by
  simp [Go.sizeOf, typeInfo, hi, hs]

theorem inB_iff {i : Int} {n : Nat} : inB i n = true ↔ 0 ≤ i ∧ i < n := by simp [inB]

theorem idx_data {t e : TypeId} {k : Kd} (hu : P.underlying t = some (.slice e)) (hz : (Go.sizeOf e).run P w = .ok k.sz w) {xs : List k.T} {v : Value} (hR : Kd.R w K (.sl k) xs [v]) {ik : IntKind} {i : Int}
    (hi : 0 ≤ i ∧ i < xs.length) : ∃ u, (Instr.indexAt t v (.int ik i)).run P w = .ok u w ∧ LeafR w K A h (.dptr k (rget k xs i)) u := by
  obtain ⟨a, cap, e0, hle, hR⟩ := hR
  cases e0
  rcases hR with hR | ⟨b, off, cs, t', fr, rfl, hK, hc, hR⟩
  · have : (List.length (α := k.T) xs) = 0 := hR
    omega
  · refine ⟨_, idx_run hu hz hi, b, off + i.toNat * k.sz, cs, t', fr, by rw [add_plain'], hK, hc, ?_⟩
    exact hR i.toNat (by show i.toNat < xs.length; omega)

theorem indexAddrR_R (H : HR C w K A h) {t : TypeId} {ty : Ty} (T : TyOK P t ty) {l : Leaf} {v : Value} {ik : IntKind} {i : Int} (hl : LeafR w K A h l v) (hr : indexAddrR ty h l i = some r) :
    Pure1 P w K A h (Instr.indexAt t v (.int ik i)) r := by
  unfold indexAddrR at hr
  split at hr
  · rename_i e k bts he
    obtain ⟨hu, inf, z, hinf, hz, hsz, hby, hzc, hpos, hbp, hdf⟩ := slice_ty T he
    cases l with
    | dat kk xs =>
      cases kk with
      | sl k' =>
        obtain ⟨hk, hr⟩ := bif_some hr
        cases Kd.eq_of_beq hk
        cases hr
        refine ⟨rfl, fun hc => ?_⟩
        exact idx_data (A := A) (h := h) hu (size_e hinf hsz) hl (inB_iff.1 (not_false_of hc))
      | _ => cases hr
    | clip k' xs =>
      obtain ⟨hk, hr⟩ := bif_some hr
      cases Kd.eq_of_beq hk
      cases hr
      refine ⟨rfl, fun hc => ?_⟩
      exact idx_data (A := A) (h := h) hu (size_e hinf hsz) hl.1 (inB_iff.1 (not_false_of hc))
    | row id =>
      simp only at hr
      split at hr
      · rename_i e' k' xs hg
        obtain ⟨hk, hr⟩ := bif_some hr
        cases Kd.eq_of_beq hk
        cases hr
        refine ⟨rfl, fun hc => ?_⟩
        have hi := inB_iff.1 (not_false_of hc)
        obtain ⟨cap, cur, l', fz', hv', hc', _, hle', _, hcs', ht', hr'⟩ := row_at H hg (by omega)
        rw [hl.2.1, hv']
        refine ⟨_, idx_run hu (size_e hinf hsz) hi, has_of_get hg, fun e2 k2 xs2 hg2 => ?_, fun k2 xs2 hg2 => ?_⟩
        · rw [hg] at hg2
          cases hg2
          exact ⟨by omega, by rw [add_plain', Nat.zero_add, Nat.add_zero]⟩
        · rw [hg] at hg2
          cases hg2
      · rename_i k' xs hg
        obtain ⟨hk, hr⟩ := bif_some hr
        cases Kd.eq_of_beq hk
        cases hr
        refine ⟨rfl, fun hc => ?_⟩
        have hB := (H.blk id _ hg).1
        rw [← hl.2.1] at hB
        exact idx_data (A := A) (h := h) hu (size_e hinf hsz) hB (inB_iff.1 (not_false_of hc))
      · cases hr
    | vw id sz lo n =>
      simp only at hr
      split at hr
      · rename_i e' k' xs hg
        obtain ⟨hk, hr2⟩ := bif_some hr
        clear hr
        simp only [Bool.and_eq_true] at hk
        cases Kd.eq_of_beq hk.1
        have hz2 := Nat.eq_of_beq_eq_true hk.2
        subst hz2
        replace hr2 := Option.some.inj hr2
        subst hr2
        refine ⟨rfl, fun hc => ?_⟩
        have hi : 0 ≤ i ∧ i < n := of_decide_eq_true (not_false_of hc)
        obtain ⟨hh, h0, h1, a, c, rfl, hle, hN⟩ := hl
        rcases hN with hN | ⟨N, M, hhd, hNle, rfl⟩
        · omega
        · obtain ⟨l', ho, _⟩ := H.blk id _ hg
          obtain ⟨a1, c1, hsl⟩ := ho.slice
          rw [hhd] at hsl
          simp only [Value.slice.injEq] at hsl
          obtain ⟨_, rfl, _⟩ := hsl
          refine ⟨_, idx_run hu (size_e hinf hsz) (by omega), hh, fun e2 k2 xs2 hg2 => ?_, fun k2 xs2 hg2 => ?_⟩
          · rw [hg] at hg2
            cases hg2
            refine ⟨by omega, ?_⟩
            have e1 : (lo + i).toNat = lo.toNat + i.toNat := by omega
            rw [add_plain', e1, Nat.add_mul, Nat.add_zero]
          · rw [hg] at hg2
            cases hg2
      · cases hr
    | _ => cases hr
  · split at hr
    · rename_i e k hk
      cases l with
      | aptr k' xs =>
        obtain ⟨hk2, hr⟩ := bif_some hr
        simp only [Bool.and_eq_true] at hk2
        cases Kd.eq_of_beq hk2.1
        cases hr
        have hty : ∃ m, ty.d = .array m e k := by
          unfold Ty.arr at hk
          split at hk
          · cases hk; exact ⟨_, by assumption⟩
          · cases hk
        obtain ⟨m, hty⟩ := hty
        have hd := T.desc
        rw [hty] at hd
        obtain ⟨hu, hsz, hrow⟩ := hd
        obtain ⟨ie, hie, hs⟩ := Option.map_eq_some_iff.1 hsz
        have hlen : m = xs.length := by
          have h1 := Nat.eq_of_beq_eq_true hk2.2
          rw [len_eq, len_eq] at h1
          simp only [Ty.fl, hty] at h1
          rw [← h1]
          have : ∀ (q off sz : Nat), (arrFl off sz q).length = q := by
            intro q
            induction q with
            | zero => intro _ _; rfl
            | succ q ih => intro off sz; simp [arrFl, ih]
          exact (this _ _ _).symm
        refine ⟨rfl, fun hc => ?_⟩
        have hi := inB_iff.1 (not_false_of hc)
        obtain ⟨b, off, cs, t', fr, rfl, hK, hcc, hR⟩ := hl
        refine ⟨.pointer (some ⟨b, off + i.toNat * k.sz, none⟩), ?_, b, off + i.toNat * k.sz, cs, t', fr, rfl, hK, hcc, hR i.toNat (by omega)⟩
        have hi2 : 0 ≤ i ∧ i < (m : Int) := by omega
        simp [Instr.indexAt, run_underlying hu w, asIntOf, hi2, size_e hie hs, Instr.sureAddr, add_plain']
      | ptr id off =>
        simp only at hr
        split at hr
        · rename_i n hn
          have hin : i = (n : Int) := by
            unfold intLit at hn
            split at hn
            · cases hn; rfl
            · cases hn
          split at hr
          · rename_i o sz hf
            cases hr
            have hty : ∃ m, ty.d = .array m e k := by
              unfold Ty.arr at hk
              split at hk
              · cases hk; exact ⟨_, by assumption⟩
              · cases hk
            obtain ⟨m, hty⟩ := hty
            have hd := T.desc
            rw [hty] at hd
            obtain ⟨hu, hsz, hrow⟩ := hd
            obtain ⟨ie, hie, hs⟩ := Option.map_eq_some_iff.1 hsz
            simp only [Ty.fl, hty] at hf
            have hlt : n < m ∧ o = n * k.sz := by
              have h2 : ∀ (q off sz i : Nat) (p : Nat × Nat), nth (arrFl off sz q) i = some p → i < q ∧ p.1 = off + i * sz := by
                intro q
                induction q with
                | zero => intro off sz i p h; simp [arrFl, nth] at h
                | succ q ih =>
                  intro off sz i p h
                  cases i with
                  | zero =>
                    simp only [arrFl, nth, Option.some.injEq] at h
                    subst h
                    exact ⟨by omega, by simp⟩
                  | succ i =>
                    simp only [arrFl, nth] at h
                    obtain ⟨a, b⟩ := ih _ _ _ _ h
                    refine ⟨by omega, ?_⟩
                    rw [b, Nat.succ_mul]
                    show Nat.add off sz + _ = _
                    simp only [Nat.add_eq]
                    omega
              obtain ⟨a, b⟩ := h2 _ _ _ _ _ hf
              exact ⟨a, by simpa using b⟩
            obtain ⟨hlt, rfl⟩ := hlt
            refine ⟨rfl, fun _ => ⟨.pointer (some ⟨A.m id, off + n * k.sz, none⟩), ?_, hl.1, rfl⟩⟩
            rw [hl.2, hin]
            simp [Instr.indexAt, run_underlying hu w, asIntOf, hlt, size_e hie hs, Instr.sureAddr, add_plain']
          · cases hr
        · cases hr
      | _ => cases hr
    · cases hr

/-! ### Slices -/
def OptR : Option Int → Option Value → Prop
  | none, none => True
  | some n, some v => ∃ k, v = .int k n
  | _, _ => False

theorem bound_run {k : IntKind} {i : Int} {y : Nat} {code : BoundsCode} (h0 : 0 ≤ i) (h1 : i ≤ y) : (Instr.sliceBound (.int k i) y code).run P w = .ok i.toNat w := run_sliceBound w k i y code h0 h1

theorem bounds_run {isS : Bool} {n cap : Nat} {lo hi : Option Int} {vlo vhi : Option Value} (hlo : OptR lo vlo) (hhi : OptR hi vhi) (hn : n ≤ cap) (hb : (bounds n lo hi).1 ≠ some false) :
    (Instr.sliceBounds isS n cap vlo vhi none).run P w = .ok ((bounds n lo hi).2.1, (bounds n lo hi).2.2, cap) w ∧ (bounds n lo hi).2.1 ≤ (bounds n lo hi).2.2 ∧ (bounds n lo hi).2.2 ≤ n := by
  cases lo with
  | none =>
    cases vlo with
    | some _ => exact hlo.elim
    | none =>
      cases hi with
      | none =>
        cases vhi with
        | some _ => exact hhi.elim
        | none => exact ⟨by simp [Instr.sliceBounds, bounds], Nat.zero_le _, Nat.le_refl _⟩
      | some x =>
        cases vhi with
        | none => exact hhi.elim
        | some v =>
          obtain ⟨k, rfl⟩ := hhi
          have hc : 0 ≤ x ∧ x ≤ (n : Int) := by simpa [bounds] using not_false_of (b := decide (0 ≤ x ∧ x ≤ (n : Int))) hb
          refine ⟨?_, Nat.zero_le _, by simp [bounds]; omega⟩
          simp [Instr.sliceBounds, bounds, bound_run (P := P) (w := w) (k := k) hc.1 (show x ≤ (cap : Int) by omega)]
  | some y =>
    cases vlo with
    | none => exact hlo.elim
    | some vy =>
      obtain ⟨ky, rfl⟩ := hlo
      cases hi with
      | none =>
        cases vhi with
        | some _ => exact hhi.elim
        | none =>
          have hc : 0 ≤ y ∧ y ≤ (n : Int) := by simpa [bounds] using not_false_of (b := decide (0 ≤ y ∧ y ≤ (n : Int))) hb
          refine ⟨?_, by simp [bounds]; omega, Nat.le_refl _⟩
          simp [Instr.sliceBounds, bounds, bound_run (P := P) (w := w) (k := ky) hc.1 hc.2]
      | some x =>
        cases vhi with
        | none => exact hhi.elim
        | some v =>
          obtain ⟨k, rfl⟩ := hhi
          have hc : 0 ≤ y ∧ y ≤ x ∧ x ≤ (n : Int) := by simpa [bounds] using not_false_of (b := decide (0 ≤ y ∧ y ≤ x ∧ x ≤ (n : Int))) hb
          refine ⟨?_, by simp [bounds]; omega, by simp [bounds]; omega⟩
          simp [Instr.sliceBounds, bounds, bound_run (P := P) (w := w) (k := k) (show 0 ≤ x by omega) (show x ≤ (cap : Int) by omega), bound_run (P := P) (w := w) (k := ky) (y := x.toNat) hc.1 (show y ≤ (x.toNat : Int) by omega)]

theorem bounds_run3 {isS : Bool} {n cap : Nat} {lo : Option Int} {x : Int} {vlo : Option Value} {k k' : IntKind} (hlo : OptR lo vlo) (hn : n ≤ cap) (hb : (bounds n lo (some x)).1 ≠ some false) :
    (Instr.sliceBounds isS n cap vlo (some (.int k x)) (some (.int k' x))).run P w = .ok ((bounds n lo (some x)).2.1, (bounds n lo (some x)).2.2, (bounds n lo (some x)).2.2) w ∧ (bounds n lo (some x)).2.1 ≤ (bounds n lo (some x)).2.2 ∧ (bounds n lo (some x)).2.2 ≤ n := by
  cases lo with
  | none =>
    cases vlo with
    | some _ => exact hlo.elim
    | none =>
      have hc : 0 ≤ x ∧ x ≤ (n : Int) := by simpa [bounds] using not_false_of (b := decide (0 ≤ x ∧ x ≤ (n : Int))) hb
      refine ⟨?_, Nat.zero_le _, by simp [bounds]; omega⟩
      simp [Instr.sliceBounds, bounds, bound_run (P := P) (w := w) (k := k') hc.1 (show x ≤ (cap : Int) by omega), bound_run (P := P) (w := w) (k := k) (y := x.toNat) hc.1 (show x ≤ (x.toNat : Int) by omega)]
  | some y =>
    cases vlo with
    | none => exact hlo.elim
    | some vy =>
      obtain ⟨ky, rfl⟩ := hlo
      have hc : 0 ≤ y ∧ y ≤ x ∧ x ≤ (n : Int) := by simpa [bounds] using not_false_of (b := decide (0 ≤ y ∧ y ≤ x ∧ x ≤ (n : Int))) hb
      refine ⟨?_, by simp [bounds]; omega, by simp [bounds]; omega⟩
      simp [Instr.sliceBounds, bounds, bound_run (P := P) (w := w) (k := k') (show 0 ≤ x by omega) (show x ≤ (cap : Int) by omega), bound_run (P := P) (w := w) (k := k) (y := x.toNat) (show 0 ≤ x by omega) (show x ≤ (x.toNat : Int) by omega), bound_run (P := P) (w := w) (k := ky) (y := x.toNat) hc.1 (show y ≤ (x.toNat : Int) by omega)]

theorem sub_len {α : Type} {xs : List α} {a b : Nat} (hb : b ≤ xs.length) : (sub xs a b).length = b - a := by simp [sub]; omega

theorem slice_R {k : Kd} {xs : List k.T} {A0 : Option Addr} {cap l hh m : Nat} (hR : Kd.R w K (.sl k) xs [.slice A0 xs.length cap]) (h1 : l ≤ hh) (h2 : hh ≤ xs.length) (h3 : hh ≤ m) (h4 : m ≤ cap) :
    Kd.R w K (.sl k) (sub xs l hh) [.slice (if m = l then A0 else A0.map (·.add (l * k.sz))) (hh - l) (m - l)] := by
  obtain ⟨a, c, e, hle, hR⟩ := hR
  simp only [List.cons.injEq, Value.slice.injEq, and_true] at e
  obtain ⟨rfl, _, rfl⟩ := e
  have hlen : (List.length (α := k.T) (sub xs l hh)) = hh - l := sub_len h2
  refine ⟨_, m - l, by rw [hlen], by rw [hlen]; omega, ?_⟩
  rw [hlen]
  by_cases h0 : hh - l = 0
  · exact .inl h0
  · rcases hR with hR | ⟨b, off, cs, t, fr, rfl, hK, hc, hR⟩
    · have : (List.length (α := k.T) xs) = xs.length := rfl
      omega
    · refine .inr ⟨b, off + l * k.sz, cs, t, fr, ?_, hK, hc, fun i hi => ?_⟩
      · have : ¬ m = l := by omega
        simp [this, add_plain']
      · have := hR (l + i) (by show l + i < xs.length; omega)
        have e1 : off + l * k.sz + i * k.sz = off + (l + i) * k.sz := by rw [Nat.add_mul, Nat.add_assoc]
        have e2 : List.getD (α := k.T) (sub xs l hh) i k.dflt = List.getD (α := k.T) xs (l + i) k.dflt := by
          simp only [List.getD_eq_getElem?_getD, sub, List.getElem?_drop, List.getElem?_take]
          rw [if_pos (by omega)]
        rw [e1, e2]
        exact this

theorem sliceAt_run {t e : TypeId} (hu : P.underlying t = some (.slice e)) {v : Value} {lo hi mx : Option Value} : (Instr.sliceAt t v lo hi mx).run P w = (Instr.slice t v lo hi mx).run P w := by
  simp [Instr.sliceAt, run_underlying hu w]

theorem sliceData_R {t : TypeId} {ty : Ty} (T : TyOK P t ty) {k : Kd} {xs : List k.T} {v : Value} {lo hi mx : Option Int} {vlo vhi vmx : Option Value} (hlo : OptR lo vlo) (hhi : OptR hi vhi) (hmx : OptR mx vmx)
    (hR : Kd.R w K (.sl k) xs [v]) {cz : Bool} (hr : sliceData cz ty k xs lo hi mx = some r) : Pure1 P w K A h (Instr.sliceAt t v vlo vhi vmx) r := by
  unfold sliceData at hr
  split at hr
  · rename_i e k' bts he
    have hk := (bif_some hr).1
    replace hr := (bif_some hr).2
    cases Kd.eq_of_beq hk
    obtain ⟨hu, inf, z, hinf, hz, hsz, _⟩ := slice_ty T he
    have hse := size_e (P := P) (w := w) hinf hsz
    have hR' := hR
    obtain ⟨A0, cap, e0, hle, _⟩ := hR
    cases e0
    cases mx with
    | none =>
      cases vmx with
      | some _ => exact hmx.elim
      | none =>
        replace hr := Option.some.inj hr
        subst hr
        refine ⟨rfl, fun hc => ?_⟩
        obtain ⟨hb, h1, h2⟩ := bounds_run (P := P) (w := w) (isS := true) hlo hhi (show xs.length ≤ cap from hle) hc
        refine ⟨_, ?_, slice_R hR' h1 h2 (Nat.le_trans h2 hle) (Nat.le_refl cap)⟩
        rw [sliceAt_run hu]
        simp only [Instr.slice, Sem.run_bind, run_underlying hu w, Result.andThen_ok]
        rw [show (List.length (α := k.T) xs) = xs.length from rfl, hb]
        simp [hse]
    | some m =>
      cases vmx with
      | none => exact hmx.elim
      | some vm =>
        obtain ⟨km, rfl⟩ := hmx
        cases hi with
        | none => cases hr
        | some x =>
          cases vhi with
          | none => exact hhi.elim
          | some vx =>
            obtain ⟨kx, rfl⟩ := hhi
            have hr2 : r.c = andO (bounds xs.length lo (some x)).1 (decide (m = x)) ∧ r.u = [] ∧ (((cz && isZ m) = true ∧ r.v = Ev.one .emp) ∨ r.v = Ev.one (.clip k (sub (α := k.T) xs (bounds xs.length lo (some x)).2.1 (bounds xs.length lo (some x)).2.2))) := by
              cases hz0 : (cz && isZ m) with
              | true =>
                simp only [hz0, cond_true] at hr
                replace hr := Option.some.inj hr
                subst hr
                exact ⟨rfl, rfl, .inl ⟨rfl, rfl⟩⟩
              | false =>
                simp only [hz0, cond_false] at hr
                replace hr := Option.some.inj hr
                subst hr
                exact ⟨rfl, rfl, .inr rfl⟩
            obtain ⟨hrc, hru, hrv⟩ := hr2
            refine ⟨hru, fun hc => ?_⟩
            rw [hrc] at hc
            have hc' : (bounds xs.length lo (some x)).1 ≠ some false ∧ m = x := by
              generalize (bounds xs.length lo (some x)).1 = bb at hc
              cases bb with
              | none => exact ⟨by simp, by simpa [andO] using not_false_of hc⟩
              | some b =>
                have := not_false_of hc
                simp only [Bool.and_eq_true, decide_eq_true_eq] at this
                exact ⟨by rw [this.1]; simp, this.2⟩
            obtain ⟨hc1, rfl⟩ := hc'
            obtain ⟨hb, h1, h2⟩ := bounds_run3 (P := P) (w := w) (isS := true) (k := kx) (k' := km) hlo (show xs.length ≤ cap from hle) hc1
            have hS := slice_R hR' h1 h2 (Nat.le_refl _) (Nat.le_trans h2 hle)
            have hrun : (Instr.sliceAt t (.slice A0 xs.length cap) vlo (some (.int kx m)) (some (.int km m))).run P w = .ok (.slice (if (bounds xs.length lo (some m)).2.2 = (bounds xs.length lo (some m)).2.1 then A0 else A0.map (·.add ((bounds xs.length lo (some m)).2.1 * k.sz))) ((bounds xs.length lo (some m)).2.2 - (bounds xs.length lo (some m)).2.1) ((bounds xs.length lo (some m)).2.2 - (bounds xs.length lo (some m)).2.1)) w := by
              rw [sliceAt_run hu]
              simp only [Instr.slice, Sem.run_bind, run_underlying hu w, Result.andThen_ok]
              rw [hb]
              simp [hse]
            rcases hrv with ⟨hz0, hrv⟩ | hrv
            · have hm0 : m = 0 := by
                have hz0 := (Bool.and_eq_true_iff.1 hz0).2
                unfold isZ at hz0
                split at hz0
                · rename_i n0
                  rw [Nat.eq_of_beq_eq_true hz0]
                  rfl
                · cases hz0
              have hq : (bounds xs.length lo (some m)).2.2 = 0 := by
                rw [hm0]
                cases lo <;> rfl
              refine ⟨_, hrun, ?_⟩
              rw [hrv]
              have e1 : (bounds xs.length lo (some m)).2.2 - (bounds xs.length lo (some m)).2.1 = 0 := by omega
              rw [e1]
              exact ⟨_, rfl⟩
            refine ⟨_, hrun, ?_⟩
            rw [hrv]
            refine ⟨hS, ?_⟩
            · rw [show (sub xs (bounds xs.length lo (some m)).2.1 (bounds xs.length lo (some m)).2.2).length = _ from sub_len h2]
              exact ⟨_, rfl⟩
  · cases hr

theorem isZ_eq {m : Int} (h : isZ m = true) : m = 0 := by
  unfold isZ at h
  split at h
  · rename_i n
    rw [Nat.eq_of_beq_eq_true h]
    rfl
  · cases h

theorem bounds_lo {n : Nat} {lo hi : Option Int} (h : noLo lo = true) (hb : (bounds n none hi).1 ≠ some false) : (bounds n lo hi).1 ≠ some false ∧ (bounds n lo hi).2 = (0, (bounds n none hi).2.2) := by
  cases lo with
  | none => cases hi <;> exact ⟨hb, rfl⟩
  | some x =>
    cases isZ_eq h
    cases hi with
    | none => exact ⟨by simp [bounds], rfl⟩
    | some y =>
      refine ⟨?_, rfl⟩
      simpa [bounds] using hb

/-- A slice expression on a slice. -/
theorem slice_run {t e : TypeId} {s : Nat} (hu : P.underlying t = some (.slice e)) (hse : (Go.sizeOf e).run P w = .ok s w) {A0 : Option Addr} {n cap : Nat} {lo hi : Option Int} {vlo vhi : Option Value} (hlo : OptR lo vlo) (hhi : OptR hi vhi) (hn : n ≤ cap)
    (hc : (bounds n lo hi).1 ≠ some false) : (Instr.sliceAt t (.slice A0 n cap) vlo vhi none).run P w =
      .ok (.slice (if cap = (bounds n lo hi).2.1 then A0 else A0.map (·.add ((bounds n lo hi).2.1 * s))) ((bounds n lo hi).2.2 - (bounds n lo hi).2.1) (cap - (bounds n lo hi).2.1)) w := by
  obtain ⟨hb, _, _⟩ := bounds_run (P := P) (w := w) (isS := true) hlo hhi hn hc
  rw [sliceAt_run hu]
  simp only [Instr.slice, Sem.run_bind, run_underlying hu w, Result.andThen_ok]
  rw [hb]
  simp [hse]

theorem RowR_take {k : Kd} : ∀ {xs : List k.T} {l : List Value} (n : Nat), RowR w K k xs l → RowR w K k (xs.take n) (l.take (n * k.sz))
  | [], l, n, h => by rw [show l = [] from h, List.take_nil, List.take_nil]; rfl
  | x :: xs, l, 0, h => by rw [Nat.zero_mul, List.take_zero, List.take_zero]; rfl
  | x :: xs, l, n + 1, ⟨l1, l2, h, h1, h2⟩ => by
    refine ⟨l1, l2.take (n * k.sz), ?_, h1, RowR_take n h2⟩
    rw [h, Nat.succ_mul, Nat.add_comm, ← Kd.R_len h1, List.take_length_add_append]

theorem slice_nils (H : HR C w K A h) {t : TypeId} {ty : Ty} (T : TyOK P t ty) {v : Value} {lo hi : Option Int} {vlo vhi : Option Value} (hlo : OptR lo vlo) (hhi : OptR hi vhi) {x : TypeId × Kd × Nat} (he : ty.el = some x) (hz : noLo lo = true)
    (hl : LeafR w K A h .nils v) : Pure1 P w K A h (Instr.sliceAt t v vlo vhi none) { c := (bounds 0 none hi).1, v := one .nils } := by
  obtain ⟨e, k', b⟩ := x
  refine ⟨rfl, fun hc => ?_⟩
  obtain ⟨hu, inf, z, hinf, _, hsz, _⟩ := slice_ty T he
  obtain ⟨hc1, hc2⟩ := bounds_lo hz hc
  obtain ⟨_, h1, h2⟩ := bounds_run (P := P) (w := w) (isS := true) hlo hhi (Nat.le_refl 0) hc1
  rw [show v = _ from hl]
  refine ⟨_, slice_run hu (size_e hinf hsz) hlo hhi (Nat.le_refl 0) hc1, ?_⟩
  have e1 : (bounds 0 lo hi).2.1 = 0 := by rw [hc2]
  have e2 : (bounds 0 lo hi).2.2 = 0 := by omega
  show Value.slice _ _ _ = Value.slice none 0 0
  rw [e1, e2]
  simp

theorem sliceR_R (H : HR C w K A h) {t : TypeId} {ty : Ty} (T : TyOK P t ty) {l : Leaf} {v : Value} {lo hi mx : Option Int} {vlo vhi vmx : Option Value} (hlo : OptR lo vlo) (hhi : OptR hi vhi) (hmx : OptR mx vmx)
    (hl : LeafR w K A h l v) {key : Nat} {cz lz : Bool} (hr : sliceR cz lz ty key h l lo hi mx = some r) (hnr : ∀ id e k xs, l = .row id → h.get id ≠ some (.row e k xs)) : Pure1 P w K A h (Instr.sliceAt t v vlo vhi vmx) r := by
  cases l with
  | dat kk xs =>
    cases kk with
    | str =>
      simp only [sliceR] at hr
      split at hr
      · rename_i hd
        have hu : P.underlying t = some .string := by
          have := T.desc
          rw [hd] at this
          exact this
        cases mx with
        | some m => cases hr
        | none =>
          cases vmx with
          | some _ => exact hmx.elim
          | none =>
            simp only at hr
            cases hr
            rw [str_R hl]
            refine ⟨rfl, fun hc => ?_⟩
            obtain ⟨hb, h1, h2⟩ := bounds_run (P := P) (w := w) (isS := false) hlo hhi (Nat.le_refl (ByteArray.size xs)) hc
            refine ⟨.string (ByteArray.extract xs (bounds (ByteArray.size xs) lo hi).2.1 (bounds (ByteArray.size xs) lo hi).2.2), ?_, rfl⟩
            have : (Instr.sliceAt t (.string xs) vlo vhi none).run P w = (Instr.slice t (.string xs) vlo vhi none).run P w := by simp [Instr.sliceAt, run_underlying hu w]
            rw [this]
            simp only [Instr.slice, Sem.run_bind, run_underlying hu w, Result.andThen_ok]
            simp [hb]
      · cases hr
    | sl k => exact sliceData_R T hlo hhi hmx hl hr
    | _ => cases hr
  | clip k xs => exact sliceData_R T hlo hhi hmx hl.1 hr
  | row id =>
    simp only [sliceR] at hr
    split at hr
    · rename_i k xs hg
      have hB := (H.blk id _ hg).1
      rw [← hl.2.1] at hB
      exact sliceData_R T hlo hhi hmx hB hr
    · rename_i e k xs hg
      exact absurd hg (hnr id e k xs rfl)
    · cases hr
  | nils =>
    simp only [sliceR] at hr
    split at hr
    · rename_i he
      cases mx with
      | some m => cases hr
      | none =>
        cases vmx with
        | some _ => exact hmx.elim
        | none =>
          have hz := (bif_some hr).1
          replace hr := (bif_some hr).2
          cases hr
          exact slice_nils H T hlo hhi he hz hl
    · cases hr
  | _ => cases hr

theorem vw_bounds {n : Nat} {lo hi : Option Int} (hb : vwOK (n : Int) lo hi = true) :
    (bounds n lo hi).1 ≠ some false ∧ (bounds n lo hi).2 = ((vwLo lo).toNat, (vwHi n hi).toNat) ∧ 0 ≤ vwLo lo ∧ vwLo lo ≤ vwHi n hi ∧ vwHi n hi ≤ n := by
  have hb := of_decide_eq_true hb
  refine ⟨?_, ?_, hb⟩
  · cases lo <;> cases hi <;> simp only [bounds, vwLo, vwHi] at hb ⊢ <;> first | (simp; done) | (simp only [ne_eq, Option.some.injEq, decide_eq_false_iff_not, Decidable.not_not]; omega)
  · cases lo <;> cases hi <;> simp [bounds, vwLo, vwHi]

theorem viewR_R (H : HR C w K A h) {t : TypeId} {ty : Ty} (T : TyOK P t ty) {l : Leaf} {v : Value} {lo hi : Option Int} {vlo vhi : Option Value} (hlo : OptR lo vlo) (hhi : OptR hi vhi)
    (hl : LeafR w K A h l v) (hr : viewR ty h l lo hi = some r) : Pure1 P w K A h (Instr.sliceAt t v vlo vhi none) r := by
  unfold viewR at hr
  split at hr
  · rename_i e k bts he
    obtain ⟨hu, inf, z, hinf, _, hsz, _⟩ := slice_ty T he
    split at hr
    · rename_i id
      split at hr
      · rename_i e' k' xs hg
        obtain ⟨hk, hr⟩ := bif_some hr
        cases Kd.eq_of_beq hk
        cases hr
        refine ⟨rfl, fun hc => ?_⟩
        have hc := not_false_of hc
        obtain ⟨hb1, hb2, h0, h1, h2⟩ := vw_bounds hc
        obtain ⟨cap, A0, hv, hcap⟩ : ∃ cap A0, A.hd id = .slice A0 xs.length cap ∧ xs.length ≤ cap := by
          obtain ⟨l', ho, _⟩ := H.blk id _ hg
          rcases ho.2 with ⟨h0, a, hv⟩ | ⟨g, cap, cur, fz, hv, _, _, _, hle, _⟩
          · exact ⟨0, a, by rw [hv, h0], by omega⟩
          · exact ⟨cap, _, hv, hle⟩
        rw [hl.2.1, hv]
        have hrun := slice_run hu (size_e hinf hsz) hlo hhi hcap hb1 (A0 := A0) (w := w)
        rw [hb2] at hrun
        simp only at hrun
        have e1 : (vwHi (xs.length : Int) hi).toNat - (vwLo lo).toNat = (vwHi (xs.length : Int) hi - vwLo lo).toNat := by omega
        rw [e1] at hrun
        refine ⟨_, hrun, has_of_get hg, h0, by omega, _, _, rfl, by omega, ?_⟩
        · by_cases hz : (vwHi (xs.length : Int) hi - vwLo lo).toNat = 0
          · exact .inl hz
          · obtain ⟨cap', cur, l', fz', hv', _⟩ := row_at H hg (by omega)
            rw [hv] at hv'
            simp only [Value.slice.injEq, true_and] at hv'
            obtain ⟨rfl, rfl⟩ := hv'
            refine .inr ⟨_, _, hv, by omega, ?_⟩
            have : ¬ cap = (vwLo lo).toNat := by omega
            simp [this, add_plain']
      · cases hr
    · rename_i id sz l n
      obtain ⟨hk, hr⟩ := bif_some hr
      have hk := Nat.eq_of_beq_eq_true hk
      subst hk
      cases hr
      refine ⟨rfl, fun hc => ?_⟩
      have hc := not_false_of hc
      obtain ⟨hh, hl0, hn0, a, c, rfl, hle, hN⟩ := hl
      obtain ⟨m, rfl⟩ := Int.eq_ofNat_of_zero_le hn0
      obtain ⟨hb1, hb2, h0, h1, h2⟩ := vw_bounds hc
      have hle : m ≤ c := by simpa using hle
      have hrun := slice_run hu (size_e hinf hsz) hlo hhi hle hb1 (A0 := a) (w := w)
      rw [hb2] at hrun
      simp only at hrun
      have e1 : (vwHi (m : Int) hi).toNat - (vwLo lo).toNat = (vwHi (m : Int) hi - vwLo lo).toNat := by omega
      rw [e1] at hrun
      refine ⟨_, hrun, hh, by omega, by omega, _, _, rfl, by omega, ?_⟩
      · by_cases hz : (vwHi (m : Int) hi - vwLo lo).toNat = 0
        · exact .inl hz
        · rcases hN with hN | ⟨N, M, hhd, hNle, rfl⟩
          · have : m = 0 := by simpa using hN
            omega
          · have hNle : l.toNat + m ≤ N := by simpa using hNle
            refine .inr ⟨N, M, hhd, by omega, ?_⟩
            have : ¬ c = (vwLo lo).toNat := by omega
            have e1 : (l + vwLo lo).toNat = l.toNat + (vwLo lo).toNat := by omega
            simp [this, add_plain', e1, Nat.add_mul]
    · cases hr
  · cases hr

end
end Go.Ev
