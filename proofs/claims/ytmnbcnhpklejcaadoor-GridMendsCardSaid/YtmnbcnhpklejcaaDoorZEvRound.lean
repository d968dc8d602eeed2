/- One round of a range over a function. -/
import Derived.Test.YtmnbcnhpklejcaaDoorZEvCanon
import Derived.Conc.MuLone
set_option linter.unusedVariables false
namespace Go.Ev
open Go.RowKit

/-- Where the walk goes on in text of the frame's own: no loops and ranges in a round. -/
def Zok (F : Fence) (C : Ctx) (X : Start) : Prop := (C.E.fuel = 0 ∧ (∀ g, C.E.it g = none) ∧ ∀ key x, C.E.ls key x = none) ∨ (F.round = none ∧ ∀ j, Ev.has X.h j → j < C.E.lent)

def CodeOK (P : Program) (f : Env → Code → St → Tr (Ex × St)) : Prop :=
  ∀ (F : Fence) (n : Nat) (C : Ctx) (X : Start), BaseY F P C X → Zok F C X → (C.E.ls = fun _ _ => none) → ∀ (c : Code) {σ σ' : St} {ex : Ex} {a : Act} {w : World} {Q : Exit → Act → World → Prop},
    (f C.E c σ).val = some (ex, σ') → σ.ok C X a w → (∀ a' w', σ'.ok C X a' w' → Q (toExit ex) a' w') → c.wpIn F n P Q a w

section
variable {P : Program} {F : Fence} {n : Nat} {C : Ctx} {X : Start} {w : World} {K : KSet} {A : Asg} {h : Heap}

/-- The record of the loop, turned. -/
theorem HR.lrec (H : HR C w K A h) {m : Nat} {b b' : Bool} {pe pe' : Option Code} {rl : RL} (hg : h.get m = some (.lrec b pe rl)) {nb : Blk} (o' : Obj)
    (hnew : ∀ w', w'.heap[A.m m]? = some o' → BlkR w' K A (h.set m nb) m nb) (hnr : ∀ e k xs, nb ≠ .row e k xs) (hnf : ∀ k xs, nb ≠ .frz k xs) :
    HR C (w.putObj (A.m m) o') K A (h.set m nb) ∧ Ext K A h w K A (h.set m nb) (w.putObj (A.m m) o') := by
  have hu : Uses A h m := by unfold Uses; rw [hg]; trivial
  obtain ⟨o1, o2, o3⟩ := H.own m hu
  have hoth : ∀ b, b ≠ A.m m → (w.putObj (A.m m) o').heap[b]? = w.heap[b]? := fun b hb => World.putObj_heap_other hb
  have x : Ext K A h w K A (h.set m nb) (w.putObj (A.m m) o') := by
    refine ⟨fun b hb => ⟨hb, hoth b fun e => o1 (e ▸ hb)⟩, fun i hi => ⟨?_, rfl, rfl⟩, fun i e k xs' hi hg' => ?_, fun i k xs' hi hg' => ?_⟩
    · unfold Ev.has at *
      rw [Heap.get_set]
      split
      · rfl
      · exact hi
    · rw [Heap.get_set] at hg'
      split at hg'
      · exact absurd (Option.some.inj hg') (hnr _ _ _)
      · exact ⟨xs', hg', rfl⟩
    · rw [Heap.get_set] at hg'
      split at hg'
      · exact absurd (Option.some.inj hg') (hnf _ _)
      · exact .inr ⟨xs', hg', rfl⟩
  refine ⟨H.update x (hnew _ (World.putObj_heap_same o2)) (fun hu' => ⟨o1, by rw [World.putObj_size]; exact o2, o3, fun i hi hui e => hi (H.inj i m hui hu e)⟩)
    (fun i hi hui => hoth _ fun e => hi (H.inj i m hui hu e)) rfl rfl rfl (by rw [World.putObj_size]; exact Nat.le_refl _) (fun k hk hl => hoth k fun e => ?_), x⟩
  rcases o3 with o3 | o3
  · omega
  · exact hl (e ▸ o3)

theorem putPs_R {d : List Deferred} : ∀ {ps : List Tmp} {vs : List AV} {us : List Value} {t t1 : Tms} {T : Array Value}, putPs ps vs t = some t1 → SlotsR w K A h t { tmps := T, defers := d } → All2 (AVR w K A h) vs us →
    ps.length = us.length ∧ SlotsR w K A h t1 { tmps := (ps.zip us).foldl (fun t (x : Tmp × Value) => t.setIfInBounds x.1 x.2) T, defers := d }
  | [], [], us, t, t1, T, hp, S, hv => by
    cases hv
    simp only [putPs, Option.some.injEq] at hp
    subst hp
    exact ⟨rfl, S⟩
  | p :: ps, v :: vs, us, t, t1, T, hp, S, hv => by
    cases hv with
    | @cons _ u _ us r hv =>
      simp only [putPs] at hp
      have S1 := S.put (dst := some p) (s := .av v) (v := u) r
      obtain ⟨h1, h2⟩ := putPs_R hp S1 hv
      exact ⟨by simp [h1], h2⟩
  | [], _ :: _, us, t, t1, T, hp, S, hv => by cases hp
  | _ :: _, [], us, t, t1, T, hp, S, hv => by cases hp

theorem YlOK.from {X' : Start} (Y : YlOK F P C X) (E1 : Ext X.K X.A X.h X.w X'.K X'.A X'.h X'.w) : YlOK F P C X' := fun id vs h b h' hy w K A us m H E2 hv => Y id vs h b h' hy w K A us m H (E1.trans E2) hv

theorem YlOK.tabs {E : Env} (Y : YlOK F P C X) (hy : E.yl = C.E.yl) (hg : E.glob = C.E.glob) (l : Nat) : YlOK (F.inRound l) P { E := E, w0 := C.w0, lent := C.lent, K0 := C.K0, D := C.D } X := fun id vs h b h' hv w K A us m H E2 hus => by
  obtain ⟨fn, tmps, asg, body, h1, h2⟩ := Y id vs h b h' (by rw [← hy]; exact hv) w K A us m (HR.tabs' hg H) E2 hus
  exact ⟨fn, tmps, asg, body, h1, RoundIn.mono (show RoundIn (F.inRound l) m P (A.m id) fn tmps asg body w _ from h2) fun e w' ⟨he, K', A', a, b⟩ => ⟨he, K', A', a.tabs hg, b⟩⟩

theorem BaseY.round (B : BaseY F P C X) {X' : Start} (E1 : Ext X.K X.A X.h X.w X'.K X'.A X'.h X'.w) (l : Nat) :
    BaseY (F.inRound l) P { E := C.E.round, w0 := C.w0, lent := C.lent, K0 := C.K0, D := C.D } X' :=
  { op := ⟨B.op.fn, B.op.depth⟩, tab := B.tab, fns := FnsOK.tabs (E := C.E) (E' := C.E.round) rfl rfl B.fns, it := fun g fn h => (by cases h), yl := YlOK.tabs (E := C.E.round) (B.yl.from E1) rfl rfl l }

/-- **ONE ROUND.** -/
theorem yldR_R {inner : Env → Code → St → Tr (Ex × St)} (IH : CodeOK P inner) (B : BaseY F P C X) {E' : Env} {X' : Start} (E1 : Ext X.K X.A X.h X.w X'.K X'.A X'.h X'.w) {t : Tms} {T : Array Value} {d : List Deferred} {m : Nat}
    (hglob : E'.glob = C.E.glob) (hm : Ev.has X'.h m) (hT : X'.A.hd m = .tuple T) (S : SlotsR X'.w X'.K X'.A X'.h t { tmps := T, defers := d }) (hyl : E'.yl = yldR (inner C.E.round) t m) :
    YlOK F P { E := E', w0 := C.w0, lent := C.lent, K0 := C.K0, D := C.D } X' := by
  intro id vs h b h' hy w K A us mm H E2 hus
  have hy : (E'.yl id vs h).val = some (b, h') := hy
  rw [hyl] at hy
  unfold yldR at hy
  cases hid : Nat.beq id m with
  | false => rw [hid] at hy; cases hy
  | true =>
  rw [hid] at hy
  have hid := Nat.eq_of_beq_eq_true hid
  subst hid
  simp only [cond_true] at hy
  split at hy
  · rename_i rl hg
    split at hy
    · rename_i t1 ht1
      obtain ⟨r, hr, hst, hpe, hps, has, hbd, hhd⟩ := H.blk id _ hg
      simp only [] at hst
      have hpe : r.pending = none := by rcases hpe with h | h; cases h; exact h
      have hT' : r.tmps = T := by
        rw [(E2.hh id hm).2.2, hT] at hhd
        cases hhd
        rfl
      have S2 : SlotsR w K A h t { tmps := r.tmps, defers := [] } := by
        have := S.ext E2
        exact ⟨by rw [hT']; exact this.len, fun i s hi => by rw [hT']; exact this.at_ i s hi⟩
      obtain ⟨hlen, S3⟩ := putPs_R ht1 S2 hus
      have hsz : us.toArray.size = r.params.size := by
        have : r.params.size = rl.ps.length := by rw [← hps]; simp
        rw [this, hlen]; simp
      refine ⟨r.fn, _, r.assign, r.body, run_yield hr hsz, ?_⟩
      have htm : (r.params.zip us.toArray).foldl (fun tmps (x : Tmp × Value) => tmps.setIfInBounds x.1 x.2) r.tmps = (rl.ps.zip us).foldl (fun t (x : Tmp × Value) => t.setIfInBounds x.1 x.2) r.tmps := by
        rw [← Array.foldl_toList, Array.toList_zip, hps]
      rw [show (r.params.zip us.toArray).foldl (fun tmps (x : Tmp × Value) => match x with | (t, a) => tmps.setIfInBounds t a) r.tmps = _ from htm, has, hbd]
      simp only [val_bind, Option.bind_eq_some_iff] at hy
      obtain ⟨⟨ex1, σ1⟩, hy1, hy⟩ := hy
      cases ex1 with
      | ret => cases hy
      | exit i => cases hy
      | nrm =>
      simp only [] at hy
      let X2 : Start := ⟨K, A, h, w⟩
      let C2 : Ctx := { E := C.E.round, w0 := C.w0, lent := C.lent, K0 := C.K0, D := C.D }
      have B2 : BaseY (F.inRound (A.m id)) P C2 X2 := B.round (E1.trans E2) (A.m id)
      have Z2 : Zok (F.inRound (A.m id)) C2 X2 := .inl ⟨rfl, fun g => rfl, fun _ _ => rfl⟩
      have H2 : HR C2 w K A h := HR.tabs (C := C) rfl (HR.tabs' hglob H)
      refine roundIn_of_wpIn (B.op.fn _) (IH _ mm C2 X2 B2 Z2 rfl rl.asg hy1 ⟨K, A, H2, Ext.refl _ _ _ _, S3, DefR.nil _ _ _ _⟩ fun a1 w1 hok1 => ?_)
      obtain ⟨K3, A3, H3, E3, S4, hd3⟩ := hok1
      split at hy
      · rename_i rl2 hg2
        obtain ⟨r2, hr2, hst2, _, hps2, has2, hbd2, hhd2⟩ := H3.blk id _ hg2
        simp only [] at hst2
        have hm2 : Ev.has h id := has_of_get hg
        have em : A3.m id = A.m id := (E3.hh id hm2).2.1
        rw [em] at hr2
        refine ⟨_, run_beginRound hr2 hst2, ?_⟩
        simp only [val_bind, Option.bind_eq_some_iff] at hy
        obtain ⟨⟨ex2, σ2⟩, hy2, hy⟩ := hy
        have hlr := H3.lrec (b' := true) (pe' := none) hg2 (nb := .lrec true none rl2) (.loop { r2 with state := .busy })
          (fun w' hw' => ⟨_, hw', rfl, .inl rfl, hps2, has2, hbd2, hhd2⟩) (fun _ _ _ h => by cases h) (fun _ _ h => by cases h)
        rw [em] at hlr
        obtain ⟨H4, E4⟩ := hlr
        refine wpIn_mono (IH _ mm C2 X2 B2 Z2 rfl rl.body (Q := fun e a' w' => ∃ ok : e = toExit ex2, σ2.ok C2 X2 a' w') hy2 ⟨K3, A3, H4, E3.trans E4, S4.ext E4, hd3.mono E4.kk⟩ fun a' w' h => ⟨rfl, h⟩) ?_
        rintro e a5 w5 ⟨rfl, K5, A5, H5, E5, S5, _⟩
        split at hy
        · rename_i pe3 rl3 hg3
          obtain ⟨r3, hr3, hst3, _, hps3, has3, hbd4, hhd3⟩ := H5.blk id _ hg3
          have em5 : A5.m id = A.m id := (E5.hh id hm2).2.1
          rw [em5] at hr3
          simp only [Tr.val, Option.some.injEq, Prod.mk.injEq] at hy
          obtain ⟨hb, hh'⟩ := hy
          have fin : ∀ (jump : Option Code), jump = exCode ex2 → b = jump.isNone → ∃ v w', (Instr.endRound (A.m id) jump).run P w5 = .ok v w' ∧ (Ending.returned v = .returned (.bool b) ∧ ∃ K' A', HR { E := E', w0 := C.w0, lent := C.lent, K0 := C.K0, D := C.D } w' K' A' h' ∧ Ext K A h w K' A' h' w') := by
            intro jump hj hbj
            refine ⟨_, _, run_endRound jump hr3, by rw [hbj], K5, A5, ?_⟩
            have hlr := H5.lrec (b' := false) (pe' := jump) hg3 (nb := .lrec false (exCode ex2) rl3) (.loop { r3 with state := if jump.isNone then .ready else .done, pending := jump })
              (fun w' hw' => ⟨_, hw', by subst hj; cases exCode ex2 <;> rfl, .inr hj, hps3, has3, hbd4, hhd3⟩) (fun _ _ _ h => by cases h) (fun _ _ h => by cases h)
            rw [em5] at hlr
            obtain ⟨H6, E6⟩ := hlr
            rw [← hh']
            exact ⟨HR.tabs (C := C) hglob (HR.tabs' (C := C) (E := C.E.round) rfl H6), E5.trans E6⟩
          cases ex2 with
          | nrm => exact fin none rfl (by rw [← hb]; rfl)
          | ret => exact fin (some .ret) rfl (by rw [← hb]; rfl)
          | exit i => exact fin (some (.exit i)) rfl (by rw [← hb]; rfl)
        · cases hy
      · cases hy
    · cases hy
  · cases hy

theorem contig_has : ∀ {h : Heap} {k : Nat}, contig k h = true → ∀ j, Ev.has h j ↔ k ≤ j ∧ j < k + h.length
  | [], k, _, j => ⟨fun h => (by cases h), fun h => absurd h.2 (by simp; omega)⟩
  | (n, b) :: h, k, hc, j => by
    simp only [contig, Bool.and_eq_true] at hc
    have hn := Nat.eq_of_beq_eq_true hc.1
    subst hn
    have ih := contig_has hc.2 j
    unfold Ev.has at ih ⊢
    simp only [Heap.get]
    by_cases e : n = j
    · subst e
      rw [show Nat.beq n n = true from Nat.beq_refl n]
      simp
    · rw [beq_ne e, cond_false, ih]
      simp only [List.length_cons]
      omega

theorem caps_R {cs : List Nat} (hc : ∀ id ∈ cs, Ev.has h id) : All2 (AVR w K A h) (cs.map fun id => AV.one (.ptr id 0)) (cs.map fun id => Value.pointer (some ⟨A.m id, 0, none⟩)) := all2_caps hc

/-- **THE STATEMENT.** -/
theorem ranges_R {inner : Env → Code → St → Tr (Ex × St)} (IH : CodeOK P inner) (B : BaseY F P C X) (hro : F.round = none) {f : Operand} {ps : Array Tmp} {asg body : Code} {σ σ' : St} {ex : Ex} {a : Act} {w : World} {Q : Exit → Act → World → Prop}
    (hs : (ranges inner C.E { ps := ps.toList, asg := asg, body := body } f σ).val = some (ex, σ')) (hok : σ.ok C X a w) (hk : ∀ a' w', σ'.ok C X a' w' → Q (toExit ex) a' w') : (Code.rangeFunc f ps asg body).wpIn F n P Q a w := by
  obtain ⟨K, A, H, E1, S, hd⟩ := hok
  unfold ranges at hs
  split at hs
  · rename_i g caps hl
    split at hs
    · rename_i fn hit
      split at hs
      · rename_i c hb
        dsimp +zeta +zetaHave only at hs
        cases hck : (contig 0 σ.h && (Nat.ble (Nat.succ (len caps)) fn.ntmps && Nat.beq (len fn.results.toList) 0)) with
        | false => rw [hck] at hs; cases hs
        | true =>
        rw [hck, cond_true] at hs
        simp only [Bool.and_eq_true] at hck
        obtain ⟨c1, c2, c3⟩ := hck
        simp only [val_bind, Option.bind_eq_some_iff] at hs
        obtain ⟨⟨exi, σi⟩, hev, hs⟩ := hs
        obtain ⟨hP, hname⟩ := B.it g fn hit
        have hL := opLeaf_R H S hl
        obtain ⟨hcap, hfv⟩ := hL
        have hm0 : len σ.h = σ.h.length := len_eq _
        have hnot : ¬ Ev.has σ.h (len σ.h) := fun hh => by have := (contig_has c1 _).1 hh; omega
        have hnone : σ.h.get (len σ.h) = none := by
          cases hg : σ.h.get (len σ.h) with
          | none => rfl
          | some b => exact absurd (has_of_get hg) hnot
        generalize hmm : len σ.h = m at *
        refine wpIn_rangeFunc fun fnid hfn => ?_
        rw [hro]
        -- the mark's block
        have hg0 : w.grownBy (w.alloc (.deferred (some []))) none := World.grownBy_alloc w _ _
        obtain ⟨H0, x0⟩ := H.addK hg0 (g := w.heap.size) (Nat.le_refl _) (by simp)
        generalize hW0 : w.alloc (.deferred (some [])) = W0 at *
        have hs0 : W0.heap.size = w.heap.size + 1 := by rw [← hW0]; simp
        have hD0 : W0.heap[w.heap.size]? = some (.deferred (some [])) := by rw [← hW0]; exact World.alloc_heap_new w _
        -- the record
        let rc : Loop := { state := .ready, pending := none, fn := fnid, tmps := a.tmps, params := ps, assign := asg, body := body, defers := w.heap.size }
        have hoth : ∀ b, b < W0.heap.size → (W0.alloc (.loop rc)).heap[b]? = W0.heap[b]? := fun b hb => alloc_heap_lt _ hb
        let A1 : Asg := A.at m W0.heap.size (.tuple a.tmps)
        let h1 : Heap := σ.h.set m (.lrec false none { ps := ps.toList, asg := asg, body := body })
        have x1 : Ext (fun b => K b ∨ b = w.heap.size) A σ.h W0 (fun b => K b ∨ b = w.heap.size) A1 h1 (W0.alloc (.loop rc)) := ext_new hnone _ _ fun b hb => hoth b (H0.kset b hb).1
        have e1 : A1.m m = W0.heap.size := by simp [A1, Asg.at]
        have e2 : A1.hd m = .tuple a.tmps := by simp [A1, Asg.at]
        have H1 : HR C (W0.alloc (.loop rc)) (fun b => K b ∨ b = w.heap.size) A1 h1 := by
          refine H0.update x1 ⟨rc, by rw [e1]; exact World.alloc_heap_new _ _, rfl, .inr rfl, rfl, rfl, rfl, e2⟩ (fun _ => ⟨fun hK => ?_, by rw [e1]; simp, .inl (by rw [e1]; exact H0.size), fun i hi hu => ?_⟩)
            (fun i hi hu => hoth _ (H0.own i hu).2.1) rfl rfl rfl (by simp) (fun k hk' _ => hoth k (Nat.lt_of_lt_of_le hk' H0.size))
          · have := (H0.kset _ hK).1
            rw [e1] at this
            omega
          · have := (H0.own i hu).2.1
            rw [e1]
            omega
        generalize hW1 : W0.alloc (.loop rc) = W1 at *
        have X1 : Ext K A σ.h w (fun b => K b ∨ b = w.heap.size) A1 h1 W1 := x0.trans x1
        have S1 := S.ext X1
        have hres : (resolve a.eval (rangeCall f W0.heap.size) 0).run P W1 = .ok { target := .fn (.func g) (caps.map fun id => Value.pointer (some ⟨A.m id, 0, none⟩)).toArray, args := #[.func (.yield W0.heap.size) #[] #[]] } W1 := by
          simp only [resolve, hfv]
          simp [go_sem]
        have hinv : (invoke (.fn (.func g) (caps.map fun id => Value.pointer (some ⟨A.m id, 0, none⟩)).toArray) #[.func (.yield W0.heap.size) #[] #[]]).run P W1 =
            .ok (.enter g (#[.func (.yield W0.heap.size) #[] #[]] ++ (caps.map fun id => Value.pointer (some ⟨A.m id, 0, none⟩)).toArray)) W1 := by
          show (callFunc g _).run P W1 = _
          exact MuLone.run_callFunc_enter hP hname hb _ _
        refine ⟨W0.heap.size, [{ target := .collected w.heap.size, args := #[] }], W1, _, W1, g, _, W1, ?_, hres, fun f' _ => B.op.fn f', hinv, fun hdp => (by rw [B.op.depth] at hdp; cases hdp), ?_⟩
        · have := run_enterLoop_outer (P := P) (w := w) fnid a.tmps ps asg body
          rw [hW0] at this
          rw [this, ← hW1, hs0]
        · let E' : Env := C.E.inner (Nat.succ m) (yldR (inner C.E.round) σ.t m)
          let C' : Ctx := { E := E', w0 := C.w0, lent := C.lent, K0 := C.K0, D := C.D }
          let X' : Start := ⟨fun b => K b ∨ b = w.heap.size, A1, h1, W1⟩
          have hmX : Ev.has X'.h m := by
            show Ev.has h1 m
            unfold Ev.has
            rw [Heap.get_set, if_pos rfl]
            rfl
          have B' : BaseY F P C' X' := { op := B.op, tab := B.tab, fns := FnsOK.tabs (E := C.E) (E' := E') rfl rfl B.fns, it := B.it, yl := yldR_R IH B (E' := E') (X' := X') (E1.trans X1) (d := a.defers) rfl hmX e2 S1 rfl }
          have Z' : Zok F C' X' := .inr ⟨hro, fun j hj => by
            show j < Nat.succ m
            by_cases ej : j = m
            · omega
            · have : Ev.has σ.h j := by
                unfold Ev.has at hj ⊢
                have hj : ((σ.h.set m (.lrec false none { ps := ps.toList, asg := asg, body := body })).get j).isSome = true := hj
                rwa [Heap.get_set, if_neg ej] at hj
              have := (contig_has c1 j).1 this
              omega⟩
          have H1' : HR C' W1 (fun b => K b ∨ b = w.heap.size) A1 h1 := HR.tabs (C := C) rfl H1
          have hargs : All2 (AVR W1 (fun b => K b ∨ b = w.heap.size) A1 h1) (.one (.yld m) :: caps.map fun id => AV.one (.ptr id 0)) (.func (.yield W0.heap.size) #[] #[] :: caps.map fun id => Value.pointer (some ⟨A.m id, 0, none⟩)) := by
            refine .cons ⟨hmX, by rw [e1]⟩ ?_
            have := caps_R (w := W1) (K := fun b => K b ∨ b = w.heap.size) (A := A1) (h := h1) (cs := caps) fun id hid => (X1.hh id (hcap id hid)).1
            rwa [show (caps.map fun id => Value.pointer (some ⟨A1.m id, 0, none⟩)) = caps.map fun id => Value.pointer (some ⟨A.m id, 0, none⟩) from List.map_congr_left fun id hid => by rw [(X1.hh id (hcap id hid)).2.1]] at this
          have hfin : exi = .nrm ∨ exi = .ret := by
            cases exi with
            | nrm => exact .inl rfl
            | ret => exact .inr rfl
            | exit i => cases hs
          have hlen : (AV.one (.yld m) :: caps.map fun id => AV.one (.ptr id 0)).length ≤ fn.ntmps := by
            have := Nat.le_of_ble_eq_true c2
            rw [len_eq] at this
            simpa using this
          have S0 := slots_init hlen hargs
          refine callsIn_of_wp_marks hP hb (B.op.fn g) ?_ hro
          rw [show (#[Value.func (.yield W0.heap.size) #[] #[]] ++ (caps.map fun id => Value.pointer (some ⟨A.m id, 0, none⟩)).toArray) = (Value.func (.yield W0.heap.size) #[] #[] :: caps.map fun id => Value.pointer (some ⟨A.m id, 0, none⟩)).toArray from by simp]
          refine IH F (n - 1) C' X' B' Z' rfl c hev ⟨_, _, H1', Ext.refl _ _ _ _, S0, DefR.nil _ _ _ _⟩ fun a' w' hok' => ?_
          have hXm : ∀ j, Ev.has X'.h j → j < Nat.succ m := (Z'.resolve_left fun z => by
            have := z.2.1 g
            rw [show C'.E.it = C.E.it from rfl, hit] at this
            cases this).2
          obtain ⟨K2, A2, H2, E2, S2, hd2⟩ := unV_ok (live := { ls := [] }) hXm hok'
          generalize hy : canV (Nat.succ m) { ls := [] } σi = y at H2 E2 S2
          have key : LeavesInM F (n - 1) P fn a'.tmps (rangePost F n P W0.heap.size Q { a with defers := [{ target := .collected w.heap.size, args := #[] }] ++ a.defers }) a'.defers .returning w' := by
            refine leaves_marks a'.defers H2 E2 S2 hd2 fun w3 H3 E3 S3 => ?_
            have hr0 : fn.results = #[] := by
              have := Nat.eq_of_beq_eq_true c3
              rw [len_eq] at this
              exact Array.ext' (List.length_eq_zero_iff.1 this)
            refine ⟨_, show (results fn a'.tmps).run P w3 = .ok (.tuple #[]) w3 from ?_, ?_⟩
            · unfold results
              rw [hr0]
              simp [Sem.run_pure]
            have hs' : (match y.h.get m with
              | some (.lrec false pe _) => (match jumpOf pe with
                | some e => Tr.ret (e, ({ t := σ.t, h := y.h.set m .dead } : St))
                | none => .fail)
              | _ => .fail).val = some (ex, σ') := by
              rcases hfin with rfl | rfl <;> (simp only [canonV_eq, hy] at hs; exact hs)
            split at hs'
            · rename_i pe rl3 hg3
              split at hs'
              · rename_i ej hj
                simp only [Tr.val, Option.some.injEq, Prod.mk.injEq] at hs'
                obtain ⟨rfl, rfl⟩ := hs'
                obtain ⟨r3, hr3, hst3, hpe3, _⟩ := H3.blk m _ hg3
                have em3 : A2.m m = W0.heap.size := (E3.hh m hmX).2.1.trans e1
                rw [em3] at hr3
                have hpe3 : r3.pending = pe := by rcases hpe3 with h | h; cases h; exact h
                have hlr := H3.lrec hg3 (b' := false) (pe' := none) (nb := .dead) (.loop { r3 with state := .exhausted }) (fun _ _ => trivial) (fun _ _ _ h => by cases h) (fun _ _ h => by cases h)
                rw [em3] at hlr
                obtain ⟨H4, E4⟩ := hlr
                generalize hw4 : w3.putObj W0.heap.size (.loop { r3 with state := .exhausted }) = w4 at *
                have X4 : Ext K A σ.h w K2 A2 (y.h.set m .dead) w4 := X1.trans (E3.trans E4)
                have hD4 := (E3.trans E4).kk w.heap.size (.inr rfl)
                have ok4 : St.ok C X { t := σ.t, h := y.h.set m .dead } { a with defers := [{ target := .collected w.heap.size, args := #[] }] ++ a.defers } w4 := by
                  refine ⟨K2, A2, HR.tabs' (C := C) (E := E') rfl H4, E1.trans X4, ⟨(S.ext X4).len, (S.ext X4).at_⟩, ?_⟩
                  have hd4 := hd.mono X4.kk
                  refine ⟨?_, ?_⟩
                  · refine List.nodup_cons.2 ⟨fun hmem => ?_, hd4.1⟩
                    obtain ⟨D, eD, _, _, hKD, _⟩ := hd.2 _ hmem
                    have : D < w.heap.size := (H.kset D hKD).1
                    have : w.heap.size = D := by
                      have := congrArg Deferred.target eD
                      simpa using this
                    omega
                  · intro d hdm
                    rcases List.mem_cons.1 hdm with rfl | hdm
                    · refine ⟨w.heap.size, rfl, H.size, fun hK => ?_, hD4.1, hD4.2.trans ?_⟩
                      · have := (H.kset _ (E1.kk _ hK).1).1
                        omega
                      · exact (hoth _ (by omega)).trans hD0
                    · exact hd4.2 d hdm
                refine ⟨pe, w4, ?_, ?_⟩
                · have := run_endLoop (P := P) hr3 (by rw [hst3]; cases pe <;> simp)
                  rw [hw4, hpe3] at this
                  exact this
                · cases pe with
                  | none =>
                    cases hj
                    exact hk _ _ ok4
                  | some c =>
                    cases c with
                    | ret => cases hj; exact wpIn_ret (hk _ _ ok4)
                    | exit i => cases hj; exact wpIn_exit (hk _ _ ok4)
                    | _ => cases hj
              · cases hs'
            · cases hs'
          rcases hfin with rfl | rfl <;> exact key
      · cases hs
    · cases hs
  · cases hs
end
end Go.Ev
