/- One operation that makes no call. -/
import Derived.Test.YtmnbcnhpklejcaaDoorZEvFill
set_option linter.unusedVariables false
set_option linter.unusedSimpArgs false
namespace Go.Ev
open Go.RowKit

section
variable {P : Program} {C : Ctx} {w : World} {K : KSet} {A : Asg} {h : Heap} {r : OR} {σ : St} {a : Act}

theorem optI_R (H : HR C w K A σ.h) (S : SlotsR w K A σ.h σ.t a) {o : Option Operand} {n : Option Int} (ho : optI C.E σ o = some n) : OptR n (o.map a.eval) := by
  cases o with
  | none => simp only [optI, Option.some.injEq] at ho; subst ho; trivial
  | some o =>
    simp only [optI] at ho
    split at ho
    · rename_i l hl
      split at ho
      · rename_i n' hn
        cases ho
        have hR := opLeaf_R H S hl
        unfold asI at hn
        split at hn
        · cases hn
          exact ⟨_, int_R hR⟩
        · cases hn
      · cases ho
    · cases ho

theorem asI_R {l : Leaf} {v : Value} {n : Int} (hl : LeafR w K A h l v) (hn : asI l = some n) : ∃ k, v = .int k n := by
  unfold asI at hn
  split at hn
  · cases hn
    exact ⟨_, int_R hl⟩
  · cases hn

theorem pickR_R {c : Bool} {x y : Leaf} {vx vy : Value} (hx : LeafR w K A h x vx) (hy : LeafR w K A h y vy) (hr : pickR c x y = some r) : r.c = none ∧ r.u = [] ∧ SlotR w K A h r.v (if c then vx else vy) := by
  unfold pickR at hr
  split at hr
  · rename_i k x k' y
    split at hr
    · rename_i z hz
      have hna := (bif_some hr).1
      replace hr := (bif_some hr).2
      cases hr
      refine ⟨rfl, rfl, ?_⟩
      have hy' : Kd.R w K k z [vy] := R_cast hz hy
      cases c with
      | true => exact hx
      | false => exact hy'
    · cases hr
  · cases hr
    refine ⟨rfl, rfl, ?_⟩
    cases c with
    | true => show Kd.R w K .bool _ [vx]; rw [kb_R hx]; exact rfl
    | false => show Kd.R w K .bool _ [vy]; rw [kb_R hy]; exact rfl
  · cases hr
    refine ⟨rfl, rfl, ?_⟩
    cases c with
    | true => show Kd.R w K .bool _ [vx]; rw [kb_R hx]; exact rfl
    | false => show Kd.R w K .bool _ [vy]; rw [bool_R hy]; exact rfl
  · cases hr
    refine ⟨rfl, rfl, ?_⟩
    cases c with
    | true => show Kd.R w K .bool _ [vx]; rw [bool_R hx]; exact rfl
    | false => show Kd.R w K .bool _ [vy]; rw [kb_R hy]; exact rfl
  · cases hr

theorem lenR_R (H : HR C w K A h) {l : Leaf} {v : Value} {n : Int} (hl : LeafR w K A h l v) (hn : lenR h l = some n) : (∃ s, l = .dat .str s ∧ v = .string s ∧ n = s.size) ∨ (∃ a m c, v = .slice a m c ∧ n = m) := by
  have go : ∀ {k : Kd} {xs : List k.T}, Kd.R w K (.sl k) xs [v] → n = (xs.length : Int) → ∃ a m c, v = .slice a m c ∧ n = m := fun {k xs} hR e => by
    obtain ⟨a, c, e0, _⟩ := hR
    cases e0
    exact ⟨a, _, c, rfl, e⟩
  cases l with
  | dat kk xs =>
    cases kk with
    | str => simp only [lenR, Option.some.injEq] at hn; exact .inl ⟨xs, rfl, str_R hl, hn.symm⟩
    | sl k => simp only [lenR, Option.some.injEq] at hn; exact .inr (go hl hn.symm)
    | _ => cases hn
  | clip k xs => simp only [lenR, Option.some.injEq] at hn; exact .inr (go hl.1 hn.symm)
  | nn b k xs => simp only [lenR, Option.some.injEq] at hn; exact .inr (go hl.1 hn.symm)
  | nils => simp only [lenR, Option.some.injEq] at hn; exact .inr ⟨none, 0, 0, hl, hn.symm⟩
  | emp =>
    simp only [lenR, Option.some.injEq] at hn
    obtain ⟨a1, hl⟩ := hl
    exact .inr ⟨a1, 0, 0, hl, hn.symm⟩
  | row id =>
    simp only [lenR] at hn
    split at hn
    · rename_i e k xs hg
      cases hn
      obtain ⟨l', ho, _⟩ := H.blk id _ hg
      obtain ⟨a1, c1, hsl⟩ := ho.slice
      exact .inr ⟨a1, _, c1, by rw [hl.2.1, hsl], rfl⟩
    · rename_i k xs hg
      cases hn
      have hB := (H.blk id _ hg).1
      rw [← hl.2.1] at hB
      exact .inr (go hB rfl)
    · cases hn
  | vw id sz lo m =>
    simp only [lenR, Option.some.injEq] at hn
    obtain ⟨_, _, h0, a, c, hv, _⟩ := hl
    exact .inr ⟨a, _, c, hv, by omega⟩
  | _ => cases hn

theorem min_fold (k : IntKind) : ∀ {vs : List AV} {us : List Value} {x z : Int}, All2 (AVR w K A h) vs us → minmax minI k x vs = some z → (us.foldlM Builtin.min2 (.int k x)).run P w = .ok (.int k z) w
  | [], _, x, z, .nil, hm => by
    simp only [minmax, Option.some.injEq] at hm
    subst hm
    rfl
  | v :: vs, u :: us, x, z, .cons hv hvs, hm => by
    unfold minmax at hm
    split at hm
    · rename_i heq
      cases heq
    · rename_i k' y r' heq
      cases heq
      have hk := (bif_some hm).1
      replace hm := (bif_some hm).2
      cases ik_eq hk
      rw [List.foldlM_cons, int_R (show LeafR w K A h (.dat (.int k) y) u from hv)]
      have := min_fold k hvs hm
      simpa [Builtin.min2, minI] using this
    · cases hm

theorem max_fold (k : IntKind) : ∀ {vs : List AV} {us : List Value} {x z : Int}, All2 (AVR w K A h) vs us → minmax maxI k x vs = some z → (us.foldlM Builtin.max2 (.int k x)).run P w = .ok (.int k z) w
  | [], _, x, z, .nil, hm => by
    simp only [minmax, Option.some.injEq] at hm
    subst hm
    rfl
  | v :: vs, u :: us, x, z, .cons hv hvs, hm => by
    unfold minmax at hm
    split at hm
    · rename_i heq
      cases heq
    · rename_i k' y r' heq
      cases heq
      have hk := (bif_some hm).1
      replace hm := (bif_some hm).2
      cases ik_eq hk
      rw [List.foldlM_cons, int_R (show LeafR w K A h (.dat (.int k) y) u from hv)]
      have := max_fold k hvs hm
      simpa [Builtin.max2, maxI] using this
    · cases hm


/-- The operation calls a function value. -/
def isCall (o : Oper) : Bool :=
  match o.op with
  | .call c => match c.callee with
    | .value _ => true
    | _ => false
  | _ => false

theorem good_u {nx : Sem Next} {v : Slot} {u : List (Nat × Blk)} (hrun : ∃ x w' K' A', nx.run P w = .ok (.value x) w' ∧ HR C w' K' A' (h.sets u) ∧ Ext K A h w K' A' (h.sets u) w' ∧ SlotR w' K' A' (h.sets u) v x) : Good P C K A h w nx { v := v, u := u } := fun _ => by
  obtain ⟨x, w', K', A', h1, h2, h3, h4⟩ := hrun
  exact ⟨_, x, w', K', A', h1, .inl rfl, h2, h3, h4⟩

theorem Steps1.good {x : Sem Value} {nx : Sem Next} (s : Steps1 P C K A h w x r) (e : nx = (do let v ← x; pure (Next.value v))) : Good P C K A h w nx r := fun hc => by
  obtain ⟨v, w', K', A', hrun, h2, h3, h4⟩ := s hc
  exact ⟨_, v, w', K', A', by rw [e]; simp [hrun], .inl rfl, h2, h3, h4⟩

theorem newVar_R (H : HR C w K A h) {t : TypeId} {key : Nat} {ls : List Leaf} {cs : Array Value} (hn : h.get key = none) (hl : All2 (LeafR w K A h) ls cs.toList) (hk : known ls = true) :
    ∃ x w' K' A', (Value.pointer (some ⟨w.heap.size, 0, none⟩)) = x ∧ w' = w.alloc (.cells cs t) ∧ HR C w' K' A' (h.sets [(key, .box ls)]) ∧ Ext K A h w K' A' (h.sets [(key, .box ls)]) w' ∧ SlotR w' K' A' (h.sets [(key, .box ls)]) (Ev.one (.ptr key 0)) x := by
  obtain ⟨A', H', x', hm⟩ := H.newBox t hn hl hk
  have e : (Obj.cells cs.toList.toArray t : Obj) = .cells cs t := by simp
  rw [e] at H' x'
  refine ⟨_, _, K, A', rfl, rfl, H', x', ?_, by rw [hm]⟩
  unfold Ev.has
  show ((h.set key (.box ls)).get key).isSome = true
  rw [Heap.get_set, if_pos rfl]
  rfl

theorem capIds_R : ∀ {vs : List AV} {us : List Value} {cs : List Nat}, opRun.capIds vs = some cs → All2 (AVR w K A h) vs us → (∀ id ∈ cs, has h id) ∧ us = cs.map fun id => Value.pointer (some ⟨A.m id, 0, none⟩)
  | [], us, cs, hc, hall => by
    simp only [opRun.capIds, Option.some.injEq] at hc
    subst hc
    cases hall
    exact ⟨(fun _ h => by cases h), rfl⟩
  | v :: vs, us, cs, hc, hall => by
    unfold opRun.capIds at hc
    split at hc
    · rename_i heq
      cases heq
    · rename_i id r heq
      cases heq
      split at hc
      · rename_i cs' hcs
        cases hc
        cases hall with
        | cons h0 h1 =>
          obtain ⟨a, b⟩ := capIds_R hcs h1
          have h0' : LeafR w K A h (.ptr id 0) _ := h0
          refine ⟨fun i hi => ?_, by rw [b, h0'.2]; rfl⟩
          rcases List.mem_cons.1 hi with e | e
          · rw [e]; exact h0'.1
          · exact a i e
      · cases hc
    · cases hc

theorem row_u8 : ∀ {xs : List Int} {l : List Value}, RowR w K (.int .u8) xs l → l = xs.map (Value.int .u8)
  | [], _, h => h
  | x :: xs, _, ⟨l1, l2, h, h1, h2⟩ => by
    rw [h, show l1 = _ from h1, row_u8 h2]
    rfl

theorem foldl_push : ∀ (ns : List Int) (b : ByteArray), ns.foldl (fun r n => r.push (UInt8.ofNat n.toNat)) b = ⟨b.data ++ (ns.map fun n => UInt8.ofNat n.toNat).toArray⟩
  | [], b => by simp
  | n :: ns, b => by
    rw [List.foldl_cons, foldl_push ns]
    simp [ByteArray.push]

theorem row_bytes {s : ByteArray} : RowR w K (.int .u8) (bytesL s) (s.data.toList.map fun b => Value.int .u8 b.toNat) := by
  unfold bytesL
  induction s.data.toList with
  | nil => rfl
  | cons b l ih => exact ⟨[_], _, rfl, rfl, ih⟩

theorem bytesL_len {s : ByteArray} : (bytesL s).length = s.size := by simp [bytesL]

/-- A string's bytes, in a new row. -/
theorem bytes_S (H : HR C w K A h) {src dst e : TypeId} {s : ByteArray} {key : Nat} (hn : h.get key = none) (hs : P.underlying src = some .string) (hd : P.underlying dst = some (.slice e)) (he : P.underlying e = some (.int .u8)) (hm : s.size ≤ maxLen) :
    ∃ v w' K' A', (convert src dst (.string s)).run P w = .ok v w' ∧ HR C w' K' A' (h.sets [(key, .row e (.int .u8) (bytesL s))]) ∧ Ext K A h w K' A' (h.sets [(key, .row e (.int .u8) (bytesL s))]) w' ∧
      SlotR w' K' A' (h.sets [(key, .row e (.int .u8) (bytesL s))]) (one (.row key)) v := by
  have hrun := Lib.run_convert_string_bytes (P := P) w src dst e s hs hd he
  have hge := grownCap_ge w s.size 0 e
  have hle := grownCap_le_maxLen w s.size 0 e hm
  have hsz : s.data.toList.length = s.size := by simp
  have ho : Owns (Lib.bytesWorld w e s) e (Kd.int .u8).sz (.slice (some ⟨w.heap.size, 0, none⟩) s.size (grownCap w s.size 0 e)) (bytesL s).length (s.data.toList.map fun b => Value.int .u8 b.toNat) := by
    rw [bytesL_len]
    refine ⟨by simp [Kd.sz], ?_⟩
    by_cases h0 : grownCap w s.size 0 e = 0
    · have h1 : s.size = 0 := by omega
      exact .inl ⟨h1, _, by rw [h0, h1]⟩
    · refine .inr ⟨w.heap.size, _, _, _, rfl, by omega, Lib.bytesWorld_at_new w e s, .inr (Nat.le_refl _), hge, hle, ?_, ?_⟩
      · simp [Lib.bytesCells, Kd.sz]
        omega
      · simp only [Kd.sz, Nat.mul_one, Lib.bytesCells, Array.toList_append, Array.toList_map]
        rw [List.take_append_of_le_length (by simp), List.take_of_length_le (by simp)]
  obtain ⟨K', A', a, b, d⟩ := new_row (w' := Lib.bytesWorld w e s) H hn ⟨rfl, rfl, rfl, by rw [Lib.bytesWorld_size]; omega, fun k hk _ => Lib.bytesWorld_at_old w e s k hk⟩ ho row_bytes (by simp [Kd.sz]) (fun g hg => by
    by_cases h0 : grownCap w s.size 0 e = 0
    · rw [h0, ownB_zero] at hg; cases hg
    · rw [ownB_pos (by omega)] at hg; cases hg; exact Nat.le_refl _)
  exact ⟨_, _, K', A', hrun, a, b, d⟩

theorem convR_S (T : TabOK P C.E.tt) (H : HR C w K A h) {src dst : TypeId} {x : AV} {v : Value} (hx : AVR w K A h x v) {key : Nat} (hr : convR C.E key h src dst x = some r) : Steps1 P C K A h w (convert src dst v) r := by
  unfold convR at hr
  split at hr
  · cases hr
  · rename_i sty hsty
    obtain ⟨sd, hsd, _⟩ := Option.map_eq_some_iff.1 (T src sty hsty).row
    split at hr
    · rename_i ty hty
      have hd := (T dst ty hty).desc
      split at hr
      · rename_i k' hk
        rw [hk] at hd
        have hd' : P.underlying dst = some (.int k') := hd
        split at hr
        · rename_i ik n
          rw [int_R (show LeafR w K A h (.dat (.int ik) n) v from hx)]
          refine Pure1.steps H (pure1 hr ?_ rfl)
          cases sd <;> simp [convert, run_underlying hsd w, run_underlying hd' w, Conv.intToInt]
        · cases hr
      · rename_i hk
        rw [hk] at hd
        have hd' : P.underlying dst = some .string := hd
        split at hr
        · rename_i ik n
          rw [int_R (show LeafR w K A h (.dat (.int ik) n) v from hx)]
          refine Pure1.steps H (pure1 hr ?_ rfl)
          cases sd <;> simp [convert, run_underlying hsd w, run_underlying hd' w, Conv.intToString]
        · rename_i s
          rw [str_R (show LeafR w K A h (.dat .str s) v from hx)]
          refine Pure1.steps H (pure1 hr ?_ rfl)
          cases sd <;> simp [convert, run_underlying hsd w, run_underlying hd' w]
        · rename_i l _ _
          have hu := (bif_some hr).1
          replace hr := (bif_some hr).2
          split at hr
          · rename_i xs hxs
            unfold isU8 at hu
            rw [hsty] at hu
            simp only at hu
            split at hu
            · rename_i e k b hse
              split at hu
              · rename_i te hte
                split at hu
                · rename_i htd
                  have h1 := (T src sty hsty).desc
                  rw [hse] at h1
                  have h2 := (T e te hte).desc
                  rw [htd] at h2
                  have h2' : P.underlying e = some (.int .u8) := h2
                  obtain ⟨A0, c, news, rfl, hnews, hcell⟩ := elems_R H (show LeafR w K A h l v from hx) hxs
                  have hn := row_u8 hnews
                  refine Pure1.steps H (pure1 hr ?_ rfl)
                  have hconv : (convert src dst (.slice A0 xs.length c)).run P w = (Conv.bytesToString (.slice A0 xs.length c)).run P w := by
                    simp [convert, run_underlying h1.1 w, run_underlying hd' w, run_underlying h2' w]
                  rw [hconv]
                  cases A0 with
                  | none =>
                    have : xs = [] := by
                      rcases hcell with h | ⟨_, h, _⟩
                      · exact List.eq_nil_of_length_eq_zero h
                      · cases h
                    subst this
                    simp [Conv.bytesToString, strOf]
                    rfl
                  | some ad =>
                    have hl : (loadCells ad xs.length).run P w = .ok (xs.map (Value.int .u8)).toArray w := by
                      have hlen : (xs.map (Value.int .u8)).length = xs.length := by simp
                      rw [← hlen]
                      refine run_loadCells_list w ad _ fun j u hj => ?_
                      rcases hcell with h | ⟨ad', e', h⟩
                      · have : xs = [] := List.eq_nil_of_length_eq_zero h
                        subst this
                        simp at hj
                      · cases e'
                        exact h j u (by rw [hn]; exact hj)
                    rw [run_bytesToString w ad _ _ xs hl, foldl_push]
                    simp [strOf]
                · cases hu
              · cases hu
            · cases hu
          · cases hr
        · cases hr
      · rename_i e k b hk
        split at hr
        · rename_i s
          have hu := (bif_some hr).1
          replace hr := (bif_some hr).2
          simp only [Bool.and_eq_true] at hu
          obtain ⟨hu, hst⟩ := hu
          obtain ⟨hn, hr⟩ := isNew_ok hr
          cases hr
          intro hc
          have hm := of_decide_eq_true (not_false_of hc)
          unfold isU8 at hu
          rw [hty] at hu
          simp only [hk] at hu
          split at hu
          · rename_i te hte
            split at hu
            · rename_i htd
              rw [hk] at hd
              have h2 := (T e te hte).desc
              rw [htd] at h2
              have h2' : P.underlying e = some (.int .u8) := h2
              rw [str_R (show LeafR w K A h (.dat .str s) v from hx)]
              have hss : P.underlying src = some .string := by
                unfold isStrTy at hst
                rw [hsty] at hst
                simp only at hst
                split at hst
                · rename_i hk2
                  have := (T src sty hsty).desc
                  rw [hk2] at this
                  exact this
                · cases hst
              exact bytes_S H hn hss hd.1 h2' hm
            · cases hu
          · cases hu
        · cases hr
      · cases hr
    · cases hr

theorem indexR_R {t : TypeId} {ty : Ty} (T : TyOK P t ty) {x : AV} {v : Value} {ik : IntKind} {i : Int} (hx : AVR w K A h x v) (hr : indexR ty x i = some r) : Pure1 P w K A h (Instr.index t v (.int ik i)) r := by
  have hd := T.desc
  unfold indexR at hr
  split at hr
  · rename_i s
    split at hr
    · rename_i hk
      rw [hk] at hd
      cases hr
      refine ⟨rfl, fun hc => ⟨.int .u8 (bt s i), ?_, rfl⟩⟩
      rw [str_R (show LeafR w K A h (.dat .str s) v from hx)]
      exact indexR_str hd (not_false_of hc)
    · cases hr
  · rename_i ls
    obtain ⟨cs, rfl, hall⟩ := hx
    split at hr
    · rename_i n hn
      have hin : i = (n : Int) := by
        unfold intLit at hn
        split at hn
        · cases hn; rfl
        · cases hn
      split at hr
      · rename_i off size hf
        split at hr
        · rename_i e k hk
          have hty : ∃ m, ty.d = .array m e k := by
            unfold Ty.arr at hk
            split at hk
            · cases hk; exact ⟨_, by assumption⟩
            · cases hk
          obtain ⟨m, hty⟩ := hty
          rw [hty] at hd
          obtain ⟨hu, hsz, hrow⟩ := hd
          simp only [Ty.fl, hty] at hf
          have hlt : n < m := by
            have h2 : ∀ (q off sz i : Nat) (p : Nat × Nat), nth (arrFl off sz q) i = some p → i < q := by
              intro q
              induction q with
              | zero => intro off sz i p h; simp [arrFl, nth] at h
              | succ q ih =>
                intro off sz i p h
                cases i with
                | zero => omega
                | succ i =>
                  simp only [arrFl, nth] at h
                  have := ih _ _ _ _ h
                  omega
            exact h2 _ _ _ _ _ hf
          have := nth_arrFl _ _ _ _ _ hf
          simp only [Nat.zero_add, Prod.mk.injEq] at this
          obtain ⟨rfl, rfl⟩ := this
          split at hr
          · rename_i mm hm
            obtain ⟨rfl, hml⟩ := cut_eq hm
            obtain ⟨ie, hie, hs⟩ := Option.map_eq_some_iff.1 hsz
            obtain ⟨ed, hed, her⟩ := Option.map_eq_some_iff.1 hrow
            have hagg : (isAgg e).run P w = .ok k.isAgg w := by
              unfold Go.isAgg
              rw [Sem.run_bind, run_underlying hed w, ← her]
              cases ed <;> rfl
            have hcells := (hall.drop (n * k.sz)).take k.sz
            have hin1 : 0 ≤ i ∧ i < (m : Int) := by omega
            have htn : i.toNat = n := by omega
            cases hag : k.isAgg with
            | true =>
              rw [hag] at hr hagg
              cases hr
              refine ⟨rfl, fun _ => ⟨_, ?_, _, rfl, hcells⟩⟩
              simp only [Instr.index, Sem.run_bind, asIntOf, Sem.run_pure, Result.andThen_ok, run_underlying hu w, hin1, and_self, if_true, part, hagg, sizeOf, typeInfo, hs, htn]
              simp [hie, hs, sizeOf, typeInfo, hagg]
            | false =>
              rw [hag] at hr hagg
              simp only [cond_false] at hr
              split at hr
              · rename_i l hl
                rw [hl] at hcells
                cases hcells' : (cs.drop (n * k.sz)).take k.sz with
                | nil => rw [hcells'] at hcells; cases hcells
                | cons u us =>
                  rw [hcells'] at hcells
                  cases hcells with
                  | cons h0 h1 =>
                    refine pure1 hr ?_ h0
                    have hu1 : cs[n * k.sz]? = some u := by
                      have := congrArg (fun q : List Value => q[0]?) hcells'
                      simp only [List.getElem?_cons_zero] at this
                      rw [List.getElem?_take] at this
                      split at this
                      · simpa using this
                      · cases this
                    simp only [Instr.index, Sem.run_bind, asIntOf, Sem.run_pure, Result.andThen_ok, run_underlying hu w, hin1, and_self, if_true, part, hagg, sizeOf, typeInfo, hs, htn]
                    simp [hie, hs, sizeOf, typeInfo, hagg, hu1]
              · cases hr
          · cases hr
        · cases hr
      · cases hr
    · cases hr
  · cases hr

theorem all2_one {v : AV} {us : List Value} (H : All2 (AVR w K A h) [v] us) : ∃ u, us = [u] ∧ AVR w K A h v u := by
  cases H with
  | cons h0 h1 =>
    cases h1
    exact ⟨_, rfl, h0⟩

theorem all2_two {v v' : AV} {us : List Value} (H : All2 (AVR w K A h) [v, v'] us) : ∃ u u', us = [u, u'] ∧ AVR w K A h v u ∧ AVR w K A h v' u' := by
  cases H with
  | cons h0 h1 =>
    obtain ⟨u', rfl, h2⟩ := all2_one h1
    exact ⟨_, u', rfl, h0, h2⟩

theorem opRun_R (T : TabOK P C.E.tt) (H : HR C w K A σ.h) (S : SlotsR w K A σ.h σ.t a) {o : Oper} (hr : opRun C.E σ o = some r) (hnc : isCall o = false) :
    Good P C K A σ.h w (execOp a.eval o) r := by
  unfold opRun at hr
  cases hop : o.op with
  | move x =>
    simp only [hop] at hr
    split at hr
    · rename_i v hv
      cases hr
      exact Good.pure H rfl fun _ => ⟨a.eval x, by simp [execOp, hop], opnd_R H S hv⟩
    · cases hr
  | assign x =>
    simp only [hop] at hr
    split at hr
    · rename_i v hv
      cases hr
      exact Good.pure H rfl fun _ => ⟨a.eval x, by simp [execOp, hop], opnd_R H S hv⟩
    · cases hr
  | pick c x y =>
    simp only [hop] at hr
    split at hr
    · rename_i hc
      have hcv := kb_R (opLeaf_R H S hc)
      split at hr
      · rename_i v hv
        cases hr
        exact Good.pure H rfl fun _ => ⟨a.eval x, by simp [execOp, hop, hcv, asBool], opnd_R H S hv⟩
      · cases hr
    · rename_i hc
      have hcv := kb_R (opLeaf_R H S hc)
      split at hr
      · rename_i v hv
        cases hr
        exact Good.pure H rfl fun _ => ⟨a.eval y, by simp [execOp, hop, hcv, asBool], opnd_R H S hv⟩
      · cases hr
    · rename_i b hc
      have hcv := bool_R (opLeaf_R H S hc)
      split at hr
      · rename_i lx hx
        split at hr
        · rename_i ly hy
          obtain ⟨_, hu, hR⟩ := pickR_R (opLeaf_R H S hx) (opLeaf_R H S hy) hr
          exact Good.pure H hu fun _ => ⟨_, by simp [execOp, hop, hcv, asBool], hR⟩
        · cases hr
      · cases hr
    · cases hr
  | alloc t =>
    simp only [hop] at hr
    split at hr
    · rename_i ty hty
      have hk := (bif_some hr).1
      replace hr := (bif_some hr).2
      obtain ⟨hn, hr⟩ := isNew_ok hr
      cases hr
      obtain ⟨i, zv, hi, hz, hzl⟩ := (T t ty hty).zero hk
      obtain ⟨x, w', K', A', rfl, rfl, h1, h2, h3⟩ := newVar_R H (t := t) hn (hzl w K A σ.h) hk
      refine good_u ⟨_, _, K', A', ?_, h1, h2, h3⟩
      simp [execOp, hop, Instr.alloc, zeroValue, typeInfo, hi, hz, newVar, newRow]
    · cases hr
  | box t x =>
    simp only [hop] at hr
    split at hr
    · rename_i v hv
      split at hr
      · rename_i ty hty
        have hk := (bif_some hr).1
        replace hr := (bif_some hr).2
        simp only [Bool.and_eq_true] at hk
        obtain ⟨hn, hr⟩ := isNew_ok hr
        cases hr
        obtain ⟨cs, hvc, hall, _⟩ := av_cells (opAV_R H S hv) hk.1
        obtain ⟨x', w', K', A', rfl, rfl, h1, h2, h3⟩ := newVar_R H (t := t) (cs := cs.toArray) hn (by simpa using hall) hk.1
        refine good_u ⟨_, _, K', A', ?_, h1, h2, h3⟩
        simp [execOp, hop, Instr.box, newVar, newRow, hvc]
      · cases hr
    · cases hr
  | build t parts =>
    simp only [hop] at hr
    split at hr
    · rename_i ty hty
      have hk := (bif_some hr).1
      replace hr := (bif_some hr).2
      simp only [Bool.and_eq_true] at hk
      split at hr
      · rename_i ps hps
        split at hr
        · rename_i ls hls
          cases hr
          obtain ⟨v, h1, h2⟩ := build_R (vs := parts.map fun (i, x) => (i, a.eval x)) (T t ty hty) hk.1 hk.2 (by simpa using partsAV_R H S hps) hls
          exact Good.pure H rfl fun _ => ⟨v, by simp [execOp, hop, h1], h2⟩
        · cases hr
      · cases hr
    · cases hr
  | buildSlice t len parts =>
    simp only [hop] at hr
    split at hr
    · rename_i ty hty
      split at hr
      · rename_i e k b he
        split at hr
        · rename_i ps hps
          have hk := (bif_some hr).1
          replace hr := (bif_some hr).2
          split at hr
          · rename_i xs f hf
            obtain ⟨hn, hr⟩ := isNew_ok hr
            cases hr
            obtain ⟨v, w', K', A', h1, h2, h3, h4⟩ := buildSlice_R (vs := parts.map fun (i, x) => (i, a.eval x)) H (T t ty hty) he (by simpa using partsAV_R H S hps) (Nat.le_of_ble_eq_true hk) hf hn
            exact good_u ⟨v, w', K', A', by simp [execOp, hop, h1], h2, h3, h4⟩
          · cases hr
        · cases hr
      · cases hr
    · cases hr
  | load t x =>
    simp only [hop] at hr
    split at hr
    · rename_i ty hty
      split at hr
      · rename_i l hl
        split at hr
        · rename_i v hv
          cases hr
          obtain ⟨u, h1, h2⟩ := loadR_R H (T t ty hty) (opLeaf_R H S hl) hv
          exact Good.pure H rfl fun _ => ⟨u, by simp [execOp, hop, h1], h2⟩
        · cases hr
      · cases hr
    · cases hr
  | store t x y =>
    simp only [hop] at hr
    split at hr
    · rename_i ty hty
      split at hr
      · rename_i l hl
        split at hr
        · rename_i v hv
          split at hr
          · rename_i u hu
            cases hr
            obtain ⟨w', K', h1, h2, h3⟩ := storeR_R H (T t ty hty) (opLeaf_R H S hl) (opAV_R H S hv) hu
            exact fun _ => ⟨.skip, undef, w', K', A, by simp [execOp, hop, h1], .inr ⟨rfl, rfl⟩, h2, h3, trivial⟩
          · cases hr
        · cases hr
      · cases hr
    · cases hr
  | nilCheck x =>
    simp only [hop] at hr
    split at hr
    · rename_i id off hl
      cases hr
      have hR := opLeaf_R H S hl
      refine Good.pure H rfl fun _ => ⟨_, ?_, hR⟩
      have hR2 := hR.2
      simp [execOp, hop, hR2]
    · rename_i id i off hl
      have hR := opLeaf_R H S hl
      split at hr
      · rename_i e k xs hg
        cases hr
        obtain ⟨_, e2⟩ := hR.2.1 e k xs hg
        exact Good.pure H rfl fun _ => ⟨_, by simp [execOp, hop, e2], hR⟩
      · rename_i k xs hg
        cases hr
        obtain ⟨_, e2⟩ := hR.2.2 k xs hg
        exact Good.pure H rfl fun _ => ⟨_, by simp [execOp, hop, e2], hR⟩
      · cases hr
    · rename_i k x' hl
      cases hr
      have hR := opLeaf_R H S hl
      refine Good.pure H rfl fun _ => ⟨_, ?_, hR⟩
      obtain ⟨b, off, _, _, _, e, _⟩ := hR
      simp [execOp, hop, e]
    · rename_i f cs hl
      cases hr
      have hR := opLeaf_R H S hl
      refine Good.pure H rfl fun _ => ⟨_, ?_, hR⟩
      have hR2 := hR.2
      simp [execOp, hop, hR2]
    · cases hr
  | binOp op t x y t' =>
    simp only [hop] at hr
    split at hr
    · rename_i lx hx
      split at hr
      · rename_i ly hy
        have := binR_R (ox := x) (oy := y) T (opAV_R H S hx) (opAV_R H S hy) hr
        exact this.good H (by simp [execOp, hop])
      · cases hr
    · cases hr
  | unOp op t x =>
    simp only [hop] at hr
    split at hr
    · rename_i l hl
      exact (unR_R (opLeaf_R H S hl) hr).good H (by simp [execOp, hop])
    · cases hr
  | fieldAddr t x f =>
    simp only [hop] at hr
    split at hr
    · rename_i ty hty
      split at hr
      · rename_i l hl
        split at hr
        · rename_i l' hl'
          cases hr
          obtain ⟨u, h1, h2⟩ := fieldAddrR_R (T t ty hty) (opLeaf_R H S hl) hl'
          exact Good.pure H rfl fun _ => ⟨u, by simp [execOp, hop, h1], h2⟩
        · cases hr
      · cases hr
    · cases hr
  | slice t x lo hi mx =>
    simp only [hop] at hr
    split at hr
    · rename_i ty hty
      split at hr
      · rename_i l hl
        split at hr
        · rename_i lo' hlo
          split at hr
          · rename_i hi' hhi
            split at hr
            · rename_i mx' hmx
              cases hvz : isView C.E o.dst with
              | true =>
                rw [hvz, cond_true] at hr
                split at hr
                · have hm := optI_R H S hmx
                  have hm' : mx.map a.eval = none := by
                    generalize mx.map a.eval = q at hm
                    cases q with
                    | none => rfl
                    | some _ => exact hm.elim
                  exact (Pure1.steps H (viewR_R H (T t ty hty) (optI_R H S hlo) (optI_R H S hhi) (opLeaf_R H S hl) hr)).good (by simp [execOp, hop, hm'])
                · cases hr
              | false =>
                rw [hvz, cond_false] at hr
                exact (sliceR_S H (T t ty hty) (optI_R H S hlo) (optI_R H S hhi) (optI_R H S hmx) (opLeaf_R H S hl) hr).good (by simp [execOp, hop])
            · cases hr
          · cases hr
        · cases hr
      · cases hr
    · cases hr
  | indexAddr t x i =>
    simp only [hop] at hr
    split at hr
    · rename_i ty hty
      split at hr
      · rename_i l hl
        split at hr
        · rename_i il hil
          split at hr
          · rename_i n hn
            obtain ⟨k, hk⟩ := asI_R (opLeaf_R H S hil) hn
            have := indexAddrR_R (ik := k) H (T t ty hty) (opLeaf_R H S hl) hr
            rw [← hk] at this
            exact this.good H (by simp [execOp, hop])
          · cases hr
        · cases hr
      · cases hr
    · cases hr
  | makeSlice t n c =>
    simp only [hop] at hr
    split at hr
    · rename_i ty hty
      split at hr
      · rename_i nl hnl
        split at hr
        · rename_i cl hcl
          split at hr
          · rename_i n' hn
            split at hr
            · rename_i c' hc
              obtain ⟨kn, hkn⟩ := asI_R (opLeaf_R H S hnl) hn
              obtain ⟨kc, hkc⟩ := asI_R (opLeaf_R H S hcl) hc
              exact (makeR_S (kn := kn) (kc := kc) H (T t ty hty) hr).good (by simp [execOp, hop, hkn, hkc])
            · cases hr
          · cases hr
        · cases hr
      · cases hr
    · cases hr
  | extract x i =>
    simp only [hop] at hr
    split at hr
    · rename_i vs hv
      split at hr
      · rename_i v hn
        cases hr
        obtain ⟨us, hu, hall⟩ := opnd_R H S hv
        rw [nth_eq] at hn
        obtain ⟨u, hu2, hR⟩ := hall.nth hn
        exact Good.pure H rfl fun _ => ⟨u, by simp [execOp, hop, Instr.extract, hu, hu2], hR⟩
      · cases hr
    · cases hr
  | makeFunc fn first caps =>
    cases fn with
    | func f =>
      simp only [hop] at hr
      split at hr
      · rename_i hf
        split at hr
        · rename_i vs hvs
          obtain ⟨cs, hcs, hr⟩ := Option.bind_eq_some_iff.1 hr
          cases hr
          have hall := opAVs_R H S hvs
          have hc := capIds_R hcs hall
          refine Good.pure H rfl fun _ => ⟨.func (.func f) #[] (caps.map a.eval), ?_, hc.1, ?_⟩
          · have hf' : first = #[] := by simpa using hf
            simp [execOp, hop, Instr.makeFunc, hf']
          · rw [← hc.2]
            have e5 : caps.map a.eval = (caps.toList.map a.eval).toArray := by
              apply Array.toList_inj.1
              simp
            rw [e5]
        · cases hr
      · cases hr
    | _ => simp only [hop] at hr; cases hr
  | convert src dst x =>
    simp only [hop] at hr
    split at hr
    · rename_i v hv
      exact (convR_S T H (opAV_R H S hv) hr).good (by simp [execOp, hop])
    · cases hr
  | index t x i =>
    simp only [hop] at hr
    split at hr
    · rename_i ty hty
      split at hr
      · rename_i v hv
        split at hr
        · rename_i il hil
          split at hr
          · rename_i n hn
            obtain ⟨k, hk⟩ := asI_R (opLeaf_R H S hil) hn
            have := indexR_R (ik := k) (T t ty hty) (opAV_R H S hv) hr
            rw [← hk] at this
            exact this.good H (by simp [execOp, hop])
          · cases hr
        · cases hr
      · cases hr
    · cases hr
  | call c =>
    cases hcal : c.callee with
    | value f => simp [isCall, hop, hcal] at hnc
    | invoke f m => simp only [hop, hcal] at hr; cases hr
    | builtin bi =>
      simp only [hop, hcal] at hr
      split at hr
      · rename_i vs hvs
        have hall := opAVs_R H S hvs
        have hargs : (c.args.map a.eval).toList = c.args.toList.map a.eval := by simp
        split at hr
        · rename_i l
          rw [← hargs] at hall
          obtain ⟨u, hu, hl⟩ := all2_one hall
          have hl' : LeafR w K A σ.h l u := hl
          split at hr
          · rename_i t hts
            split at hr
            · rename_i ty hty
              have hlt := (bif_some hr).1
              replace hr := (bif_some hr).2
              split at hr
              · rename_i n hn
                cases hr
                have e1 : c.args.map a.eval = #[u] := by
                  apply Array.toList_inj.1
                  simpa using hu
                have e2 : c.argTypes = #[t] := by
                  apply Array.toList_inj.1
                  simpa using hts
                have hd := (T t ty hty).desc
                refine Good.pure H rfl fun _ => ⟨.int .i64 n, ?_, rfl⟩
                unfold lenTy at hlt
                split at hlt
                · rename_i hk
                  rw [hk] at hd
                  have hd' : P.underlying t = some .string := hd
                  rcases lenR_R H hl' hn with ⟨s, rfl, rfl, rfl⟩ | ⟨x, m, c', rfl, rfl⟩
                  · simp [execOp, hop, resolve, hcal, invoke, builtin, e1, e2, Builtin.len_, run_underlying hd' w, goInt]
                  · split at hlt
                    · have := str_R hl'
                      cases this
                    · cases hlt
                · rename_i e k b hk
                  rw [hk] at hd
                  rcases lenR_R H hl' hn with ⟨s, rfl, rfl, rfl⟩ | ⟨x, m, c', rfl, rfl⟩
                  · cases hlt
                  · simp [execOp, hop, resolve, hcal, invoke, builtin, e1, e2, Builtin.len_, run_underlying hd.1 w, goInt]
                · cases hlt
              · cases hr
            · cases hr
          · cases hr
        · rename_i l
          rw [← hargs] at hall
          obtain ⟨u, hu, hl⟩ := all2_one hall
          have hl' : LeafR w K A σ.h l u := hl
          have e1 : c.args.map a.eval = #[u] := by
            apply Array.toList_inj.1
            simpa using hu
          split at hr
          · rename_i t hts
            split at hr
            · rename_i ty hty
              split at hr
              · rename_i q hq
                have e2 : c.argTypes = #[t] := by
                  apply Array.toList_inj.1
                  simpa using hts
                obtain ⟨ee, kk, bb⟩ := q
                have hun := (slice_ty (T t ty hty) hq).1
                split at hr
                · rename_i n hn
                  cases hr
                  have hcap : n = 0 ∧ ∃ a1, u = .slice a1 0 0 := by
                    cases l with
                    | nils => simp only [capR, Option.some.injEq] at hn; exact ⟨hn.symm, none, hl'⟩
                    | emp => simp only [capR, Option.some.injEq] at hn; exact ⟨hn.symm, hl'⟩
                    | _ => cases hn
                  obtain ⟨rfl, a1, rfl⟩ := hcap
                  refine Good.pure H rfl fun _ => ⟨.int .i64 0, ?_, rfl⟩
                  simp [execOp, hop, resolve, hcal, invoke, builtin, e1, e2, Builtin.cap_, run_underlying hun w, goInt]
                · cases hr
              · cases hr
            · cases hr
          · cases hr
        · rename_i k x r'
          split at hr
          · rename_i z hz
            cases hr
            rw [← hargs] at hall
            cases hall' : (c.args.map a.eval).toList with
            | nil => rw [hall'] at hall; cases hall
            | cons u us =>
              rw [hall'] at hall
              cases hall with
              | cons h0 h1 =>
                have hu0 := int_R (show LeafR w K A σ.h (.dat (.int k) x) u from h0)
                have hm := min_fold (P := P) k h1 hz
                refine Good.pure H rfl fun _ => ⟨.int k z, ?_, rfl⟩
                have e3 : (Builtin.min_ c.argTypes o.type (c.args.map a.eval)).run P w = .ok (.int k z) w := by
                  unfold Builtin.min_
                  rw [hall', hu0]
                  exact hm
                simp [execOp, hop, resolve, hcal, invoke, builtin, e3]
          · cases hr
        · rename_i k x r'
          split at hr
          · rename_i z hz
            cases hr
            rw [← hargs] at hall
            cases hall' : (c.args.map a.eval).toList with
            | nil => rw [hall'] at hall; cases hall
            | cons u us =>
              rw [hall'] at hall
              cases hall with
              | cons h0 h1 =>
                have hu0 := int_R (show LeafR w K A σ.h (.dat (.int k) x) u from h0)
                have hm := max_fold (P := P) k h1 hz
                refine Good.pure H rfl fun _ => ⟨.int k z, ?_, rfl⟩
                have e3 : (Builtin.max_ c.argTypes o.type (c.args.map a.eval)).run P w = .ok (.int k z) w := by
                  unfold Builtin.max_
                  rw [hall', hu0]
                  exact hm
                simp [execOp, hop, resolve, hcal, invoke, builtin, e3]
          · cases hr
        · rename_i d x
          rw [← hargs] at hall
          obtain ⟨u1, u2, hu, hs, hx⟩ := all2_two hall
          split at hr
          · rename_i t t' hts
            have e1 : c.args.map a.eval = #[u1, u2] := by
              apply Array.toList_inj.1
              simpa using hu
            have e2 : c.argTypes = #[t, t'] := by
              apply Array.toList_inj.1
              simpa using hts
            cases hbq : Nat.beq t t' with
            | true =>
              have htt := Nat.eq_of_beq_eq_true hbq
              rw [hbq, cond_true] at hr
              subst htt
              split at hr
              · rename_i ty hty
                intro hc
                obtain ⟨v, w', h1, h2, h3, h4⟩ := copyR_R (P := P) (tyo := o.type) H (T t ty hty) hs hx hr
                refine ⟨_, v, w', K, A, ?_, .inl rfl, h2, h3, h4⟩
                simp [execOp, hop, resolve, hcal, invoke, builtin, e1, e2, h1]
              · cases hr
            | false =>
              rw [hbq, cond_false] at hr
              cases hr
          · cases hr
        · rename_i s x
          rw [← hargs] at hall
          obtain ⟨u1, u2, hu, hs, hx⟩ := all2_two hall
          split at hr
          · rename_i t t' hts
            have e1 : c.args.map a.eval = #[u1, u2] := by
              apply Array.toList_inj.1
              simpa using hu
            have e2 : c.argTypes = #[t, t'] := by
              apply Array.toList_inj.1
              simpa using hts
            cases hbq : Nat.beq t t' with
            | true =>
              have htt := Nat.eq_of_beq_eq_true hbq
              rw [hbq, cond_true] at hr
              subst htt
              split at hr
              · rename_i ty hty
                intro hc
                obtain ⟨v, w', K', A', h1, h2, h3, h4⟩ := appendR_R (tyo := o.type) H (T t ty hty) hs hx hr hc
                refine ⟨_, v, w', K', A', ?_, .inl rfl, h2, h3, h4⟩
                simp [execOp, hop, resolve, hcal, invoke, builtin, e1, e2, h1]
              · cases hr
            | false =>
              rw [hbq, cond_false] at hr
              split at hr
              · rename_i ty' hty'
                split at hr
                · rename_i ik hik
                  split at hr
                  · rename_i ty hty
                    split at hr
                    · rename_i n
                      intro hc
                      rw [int_R (show LeafR w K A σ.h (.dat (.int .i64) n) u2 from hx)] at e1
                      obtain ⟨v, w', K', A', h1, h2, h3, h4⟩ := growR_R (tyo := o.type) H (T t ty hty) (T t' ty' hty') hik hs hr hc
                      refine ⟨_, v, w', K', A', ?_, .inl rfl, h2, h3, h4⟩
                      simp [execOp, hop, resolve, hcal, invoke, builtin, e1, e2, h1]
                    · cases hr
                  · cases hr
                · cases hr
              · cases hr
          · cases hr
        · cases hr
      · cases hr
  | _ => simp only [hop] at hr; cases hr

end
end Go.Ev
