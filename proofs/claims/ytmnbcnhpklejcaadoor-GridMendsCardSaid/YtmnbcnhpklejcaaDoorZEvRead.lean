/- The arguments, as plain data; what the row asks behind the call. -/
import Derived.Test.YtmnbcnhpklejcaaDoorZEvSpec
import Derived.OpenShut
import Derived.ReadAgain
set_option linter.unusedVariables false
set_option linter.unusedSimpArgs false
namespace Go.Ev
open Go.RowKit Go.ChangeShapes Go.WideShapes

/-- What every datum that is read fulfils. -/
def Kd.ok : (k : Kd) → k.T → Prop
  | .int ik, n => (Lit.int ik n).wf = true
  | .bool, _ => True
  | .str, s => s.size ≤ maxLen
  | .sl k, xs => List.length (α := k.T) xs ≤ maxLen ∧ ∀ i, i < List.length (α := k.T) xs → Kd.ok k (List.getD (α := k.T) xs i k.dflt)
  | .un, _ => True
  | .pr a b, x => a.ok x.1 ∧ b.ok x.2

mutual
inductive TK (P : Program) : TypeId → Kd → Prop
  | int {t : TypeId} {ik : IntKind} (h : P.underlying t = some (.int ik)) : TK P t (.int ik)
  | bool {t : TypeId} (h : P.underlying t = some .bool) : TK P t .bool
  | str {t : TypeId} (h : P.underlying t = some .string) : TK P t .str
  | sl {t e : TypeId} {k : Kd} (h : P.underlying t = some (.slice e)) (hk : TK P e k) (hs : P.cellsOf e = k.sz) (h0 : 0 < k.sz) : TK P t (.sl k)
  | struct {t : TypeId} {fs : Array Field} {k : Kd} (h : P.underlying t = some (.struct fs)) (hf : TKF P 0 fs.toList k) (hs : P.cellsOf t = k.sz) : TK P t k
inductive TKF (P : Program) : Nat → List Field → Kd → Prop
  | nil {o : Nat} : TKF P o [] .un
  | cons {o : Nat} {f : Field} {fs : List Field} {a b : Kd} (ho : f.offset = o) (ha : TK P f.type a) (hs : P.cellsOf f.type = a.sz) (hb : TKF P (o + a.sz) fs b) : TKF P o (f :: fs) (.pr a b)
end

section
variable {H : Type} {enc : TypeId × Value → H} {P : Program} {w : World}

theorem TKF.agg : ∀ {o : Nat} {fs : List Field} {k : Kd}, TKF P o fs k → k.isAgg = true
  | _, _, _, .nil => rfl
  | _, _, _, .cons .. => rfl

theorem cells_at {base : Nat} {a : Addr} {n : Nat} {l : List Value} (h : w.cells? base a n = some l) (hn : 0 < n) :
    ∃ b off cs t fr, a = ⟨b, off, none⟩ ∧ w.heap[b]? = some (.cells cs t fr) ∧ l = cellsAt cs off n := by
  unfold World.cells? at h
  split at h
  · have hl : l.length = n := by simpa using mapM_some_length h
    have hg := fun i (hi : i < n) => mapM_some_get h i i (by simp [hi])
    obtain ⟨b, off, spot⟩ := a
    have h0 : w.cell? ⟨b, off, spot⟩ = l[0]? := by simpa [Addr.add] using hg 0 hn
    have hs : spot = none := by
      rw [List.getElem?_eq_getElem (by omega)] at h0
      simpa using World.cell?_spot h0
    subst hs
    unfold World.cell? at h0
    split at h0
    · rename_i cs t fr hb
      refine ⟨b, off, cs, t, fr, rfl, hb, List.ext_getElem? fun i => ?_⟩
      by_cases hi : i < n
      · have := hg i hi
        rw [add_plain] at this
        simp only [World.cell?, hb] at this
        simp only [Option.isSome_none, Bool.false_eq_true, if_false] at this
        rw [← this, cellsAt, List.getElem?_take_of_lt hi, List.getElem?_drop]
        simp
      · rw [List.getElem?_eq_none (by omega), cellsAt, List.getElem?_eq_none (by simp; omega)]
    · rw [List.getElem?_eq_getElem (by omega)] at h0
      cases h0
  · cases h

theorem read_all (base : Nat) (sp : Nat → Bool) (held : Bool) : ∀ (n : Nat) {t : TypeId} {k : Kd} {cs : List Value} {x : DataW H × List MemPlace}, TK P t k →
    DataW.trod enc P w base sp held n t cs = some x → ∃ y : k.T, Kd.R w (allK w) k y cs ∧ k.ok y := by
  intro n
  induction n with
  | zero => intro t k cs x hk h; simp [DataW.trod] at h
  | succ n ih =>
    intro t k cs x hk h
    cases hk with
    | int ht =>
      obtain ⟨i, rfl, _, hw⟩ := DataW.trod_int ht h
      exact ⟨i, rfl, hw⟩
    | bool ht =>
      obtain ⟨b, rfl, _⟩ := DataW.trod_bool ht h
      exact ⟨b, rfl, trivial⟩
    | str ht =>
      obtain ⟨s, rfl, _, hs⟩ := DataW.trod_string ht h
      exact ⟨s, rfl, hs⟩
    | @sl _ e k ht hk hs h0 =>
      rcases DataW.trod_slice ht h with ⟨rfl, _⟩ | ⟨a, len, cap, elems, rest, m, hm, rfl, _, hb, hlc, hcm, hel, hat, _, _⟩
      · refine ⟨([] : List k.T), ⟨none, 0, rfl, Nat.le_refl _, .inl rfl⟩, Nat.zero_le _, fun i hi => absurd hi (Nat.not_lt_zero i)⟩
      · cases hm
        have each : ∀ i, i < len → ∃ y : k.T, (∃ cs' : List Value, w.cells? base (a.add (i * k.sz)) k.sz = some cs' ∧ Kd.R w (allK w) k y cs') ∧ k.ok y := by
          intro i hi
          have h1 := hat i hi
          rw [List.getElem?_eq_getElem (by omega)] at h1
          obtain ⟨cs', h2, h3⟩ := Option.bind_eq_some_iff.1 h1
          obtain ⟨y, hy, hok⟩ := ih hk h3
          rw [hs] at h2
          exact ⟨y, ⟨cs', h2, hy⟩, hok⟩
        let g : Nat → k.T := fun i => if hi : i < len then (each i hi).choose else k.dflt
        have hlen : ((List.range len).map g).length = len := by simp
        have hget : ∀ i, i < len → ((List.range len).map g).getD i k.dflt = g i := by
          intro i hi
          simp [List.getD, hi]
        refine ⟨(List.range len).map g, ⟨some a, cap, by rw [hlen], by rw [hlen]; exact hlc, ?_⟩, by rw [hlen]; omega, ?_⟩
        · rw [hlen]
          by_cases hl0 : len = 0
          · exact .inl hl0
          · refine .inr ?_
            have h0' : 0 < len := by omega
            obtain ⟨⟨_, h2, _⟩, _⟩ := (each 0 h0').choose_spec
            simp only [Nat.zero_mul] at h2
            obtain ⟨b, off, cs, t', fr, e0, hh, _⟩ := cells_at h2 (by omega)
            have e1 : a = ⟨b, off, none⟩ := by rw [← e0]; rfl
            subst e1
            refine ⟨b, off, cs, t', fr, rfl, ?_, hh, ?_⟩
            · have : b < w.heap.size := by
                rcases Nat.lt_or_ge b w.heap.size with h | h
                · exact h
                · rw [Array.getElem?_eq_none h] at hh
                  cases hh
              exact this
            · intro i hi
              rw [hget i hi]
              obtain ⟨⟨_, h2, h3⟩, _⟩ := (each i hi).choose_spec
              obtain ⟨b', off', cs', t'', fr', e1, h4, h5⟩ := cells_at h2 (by omega)
              rw [add_plain] at e1
              cases e1
              rw [hh] at h4
              cases h4
              rw [h5] at h3
              simpa [g, hi] using h3
        · rw [hlen]
          intro i hi
          rw [hget i hi]
          have := (each i hi).choose_spec.2
          simpa [g, hi] using this
    | @struct _ fs k ht hf hs =>
      obtain ⟨xs, m, hm, _, hl, hlen, hat⟩ := DataW.trod_struct ht h
      cases hm
      have go : ∀ {o : Nat} {gs : List Field} {k' : Kd}, TKF P o gs k' → (∀ f ∈ gs, f ∈ fs.toList) → cs.length = o + k'.sz → ∃ y : k'.T, Kd.R w (allK w) k' y (cs.drop o) ∧ k'.ok y := by
        intro o gs
        induction gs generalizing o with
        | nil =>
          intro k' h _ hl'
          cases h
          exact ⟨(), by show _ = []; rw [List.drop_eq_nil_of_le]; simp only [Kd.sz] at hl'; omega, trivial⟩
        | cons f gs ihg =>
          intro k' h hin hl'
          cases h with
          | @cons _ _ _ a b ho ha hs' hb =>
            simp only [Kd.sz] at hl'
            obtain ⟨y2, hy2, ok2⟩ := ihg hb (fun f hf => hin f (List.mem_cons_of_mem _ hf)) (by omega)
            obtain ⟨i, hi, hfi⟩ := List.mem_iff_getElem.1 (hin f (List.mem_cons_self ..))
            have h1 := hat i f (by rw [← hfi]; simp)
            rw [List.getElem?_eq_getElem (by simp at hi; omega), ho, hs'] at h1
            obtain ⟨y1, hy1, ok1⟩ := ih ha h1
            refine ⟨(y1, y2), ⟨_, _, ?_, hy1, hy2⟩, ok1, ok2⟩
            rw [← List.drop_drop, List.take_append_drop]
      obtain ⟨y, hy, hok⟩ := go hf (fun f h => h) (by rw [hl, hs]; simp)
      exact ⟨y, by simpa using hy, hok⟩

theorem read_top {A : Asg} {h : Heap} {r : Reach} {b0 base : Nat} {sp : Nat → Bool} {held : Bool} {t : TypeId} {k : Kd} {v : Value} {d : DataW H} {ps : List MemPlace} (hk : TK P t k) (hval : Value.okWide P w r b0 t v)
    (hd : DataW.Trod enc P w base sp held t v d ps) : ∃ y : k.T, AVR w (allK w) A h (toAV k y) v ∧ k.ok y := by
  obtain ⟨n, hn⟩ := hd
  obtain ⟨y, hy, hok⟩ := read_all base sp held n hk hn
  refine ⟨y, toAV_R hy (fun ha => ?_) (fun ha => ?_), hok⟩
  · cases hk with
    | struct ht hf hs =>
      unfold Value.okWide at hval
      rw [ht] at hval
      obtain ⟨cs, e, _⟩ := hval
      exact ⟨cs, e⟩
    | _ => cases ha
  · cases hk with
    | struct ht hf hs => rw [hf.agg] at ha; cases ha
    | int ht => obtain ⟨_, rfl⟩ := okWide_int ht hval; rfl
    | bool ht => obtain ⟨_, rfl⟩ := okWide_bool ht hval; rfl
    | str ht => obtain ⟨_, rfl⟩ := okWide_string ht hval; rfl
    | sl ht _ _ _ =>
      unfold Value.okWide at hval
      rw [ht] at hval
      simp only [Cell.okWide, Cell.ok, ht] at hval
      split at hval <;> first | rfl | cases hval | (split at hval <;> first | rfl | cases hval)

/-- The types' kinds, one by one. -/
inductive TKs (P : Program) : List TypeId → List Kd → Prop
  | nil : TKs P [] []
  | cons {t : TypeId} {ts : List TypeId} {k : Kd} {ks : List Kd} : TK P t k → TKs P ts ks → TKs P (t :: ts) (k :: ks)

def okAll : (ks : List Kd) → tup ks → Prop
  | [], _ => True
  | k :: ks, x => k.ok x.1 ∧ okAll ks x.2

theorem read_args {A : Asg} {h : Heap} {r : Reach} {b0 base : Nat} {sp : Nat → Bool} {held : Bool} : ∀ {ts : List TypeId} {ks : List Kd} {vs : List Value} {ds : List (DataW H)} {ps : List MemPlace}, TKs P ts ks →
    (∀ (j : Nat) t v, ts[j]? = some t → vs[j]? = some v → Value.okWide P w r b0 t v) → DataW.TrodAll enc P w base sp held ts vs ds ps →
    ∃ y : tup ks, All2 (AVR w (allK w) A h) (toAVs ks y) vs ∧ okAll ks y
  | [], [], vs, ds, ps, .nil, _, hd => by
    obtain ⟨rfl, rfl, rfl⟩ := trodAll_nil hd
    exact ⟨(), .nil, trivial⟩
  | t :: ts, k :: ks, vs, ds, ps, .cons hk hks, hval, hd => by
    obtain ⟨v, vs', d, ds', p, q, rfl, rfl, rfl, h0, h1⟩ := trodAll_cons hd
    obtain ⟨y, hy, ok⟩ := read_top (A := A) (h := h) hk (hval 0 t v rfl rfl) h0
    obtain ⟨ys, hys, oks⟩ := read_args (A := A) (h := h) hks (fun j t v ht hv => hval (j + 1) t v ht hv) h1
    exact ⟨(y, ys), .cons hy hys, ok, oks⟩

theorem trodAll_len' {base : Nat} {sp : Nat → Bool} {held : Bool} : ∀ {ts : List TypeId} {vs : List Value} {ds : List (DataW H)} {ps : List MemPlace}, DataW.TrodAll enc P w base sp held ts vs ds ps → ds.length = ts.length
  | [], [], [], _, _ => rfl
  | _ :: _, _ :: _, _ :: _, _, ⟨_, _, _, h, _⟩ => by simp [trodAll_len' h]

theorem carry_all {w' : World} {base : Nat} {sp : Nat → Bool} {held : Bool} : ∀ {ts : List TypeId} {vs : List Value} {ds : List (DataW H)} {ps : List MemPlace}, DataW.TrodAll enc P w base sp held ts vs ds ps → (∀ p ∈ ps, w.sameAt w' p) → DataW.TrodAll enc P w' base sp held ts vs ds ps
  | [], [], [], _, h, _ => h
  | _ :: _, _ :: _, _ :: _, _, ⟨p, q, ⟨n, h1⟩, h2, e⟩, hs => ⟨p, q, ⟨n, DataW.trod_carry n _ _ _ h1 fun x hx => hs x (by rw [e]; exact List.mem_append_left _ hx)⟩, carry_all h2 (fun x hx => hs x (by rw [e]; exact List.mem_append_right _ hx)), e⟩

theorem same_of {w' : World} (hb : ∀ b, b < w.heap.size → w'.heap[b]? = w.heap[b]?) {p : MemPlace} (hp : p.block < w.heap.size) : w.sameAt w' p := by
  cases p with
  | cell b o => exact World.cell?_of_block (w := w) (hb b hp)
  | map b => exact hb b hp

/-- What the row asks, of a law without variables that answers true and leaves all that was there as it was. -/
theorem post_law {f : Func} {s : ChangeSpec} {apart fresh handsOn : Bool} {W W' : World} {args : Array Value} {ds gs : List (DataW H)} {before : List MemPlace} {tb : TypeId}
    (hl : laidOutB P = true) (hm : mapsRowed P = true) (hz : ((List.range P.types.size).all fun t => match P.underlying t with | some (.slice e) => decide (0 < P.cellsOf e) | _ => true) = true)
    (hT : (f.params.toList.all fun t => decide (t < P.types.size)) = true)
    (hW : DataW.Whole enc P f.params.toList s.vars apart W args.toList ds gs before) (hv : s.vars = [])
    (hr : f.resultTypes = #[tb]) (htb : P.underlying tb = some .bool)
    (hfn : ∀ ds : List (DataW H), ds.length = f.params.toList.length → s.fn H ds = { results := [.lit (.bool true)], args := ds, vars := [] })
    (hk : W.keptBut W' (fun _ => False)) (hb : ∀ b, b < W.heap.size → W'.heap[b]? = W.heap[b]?) :
    s.post enc P f apart fresh handsOn false W args (.bool true) W' := by
  have hW' := hW
  obtain ⟨p, q, hA, hV, rfl, hfz, hnd⟩ := hW
  rw [hv] at hV
  obtain ⟨rfl, rfl⟩ := trodVars_none hV
  have hlen : ds.length = f.params.toList.length := trodAll_len' hA
  have hlt : ∀ x ∈ p, x.block < W.heap.size := fun x hx => hW'.lt x (List.mem_append_left _ hx)
  refine ⟨ds, [], p ++ [], [], p, [], hW', ?_, ?_, ?_, World.keptBut_mono (fun x hx => hx.elim) hk, fun h => by cases h⟩
  · rw [List.append_nil, hfn ds hlen, hr]
    exact trodAll_cons_mk (shut_bool htb _) trodAll_mk0
  · rw [List.append_nil, hfn ds hlen]
    refine DataW.TrodAll.respare (T := (· < P.types.size)) (kids_rows hl hm) (slices_full_of P hz) ?_ (carry_all hA fun x hx => same_of hb (hlt x hx)) fun x hx => by simpa using hlt x hx
    intro t ht
    have := List.all_eq_true.1 hT t ht
    simpa using this
  · rw [List.append_nil, hfn ds hlen, hv]
    rfl
end
end Go.Ev
